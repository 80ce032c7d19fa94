/-
  The walk of the reference's Merge.
-/
import Derived.Test.YtfahbhjlkdcnpaaTa
set_option linter.unusedVariables false
set_option linter.unusedSimpArgs false
set_option linter.unusedSectionVars false
set_option linter.unnecessarySimpa false
namespace Go.Proofs.Ytfahbhjlkdcnpaa
open Go.RowKit

theorem fitsN_most : fitsN most = placedN := funext fits_placed
theorem sizes_most : sizesN most = 0 := by decide
theorem chkS_most (l : List Wr) : chkS l most = chkN placedN l := by rw [chkS, sizes_most, if_neg (by simp), fitsN_most]
theorem refCheck8 (A Z : Option Addr) (c zc n : Nat) (l : List Wr) (w : World) (hn : l.length = n) (h1 : SlAt encWr w (Bl w.heap.size) A l) (hs : n ≤ 9223372036854775807) (h2 : SlAt encInt w (Bl w.heap.size) Z most) (r : Int) (hr : chkN placedN l = r) :
    Calls Try.prog 20 #[.slice A n c, .slice Z 8 zc] w fun e w' => e = .returned (.int .i64 r) ∧ Below w.heap.size w w' := by
  subst hn
  exact refCheck_any A Z c zc l most w h1 hs h2 (by rw [most_len]; omega) r (by rw [chkS_most]; exact hr)
theorem refFoldX (A : Option Addr) (c n : Nat) (l r : List Wr) (e : Int) (hn : l.length = n) (hr : foldL l = r) (he : errOf placedN l = e) (w : World) (h1 : SlAt encWr w (Bl w.heap.size) A l) (hs : n ≤ 9223372036854775807) :
    Calls Try.prog 15 #[.slice A n c] w (RetSlN encWr r e w) := by
  subst hn hr he
  exact refFold_any A c l w h1 hs
theorem errOf_all {l : List Wr} (h : ∀ x ∈ l, placedN x = 0) : errOf placedN l = 0 := errOf_zero h

set_option maxHeartbeats 2000000 in
theorem refMerge_any (A A' : Option Addr) (c c' : Nat) (a b : List Wr) (w : World) (h1 : SlAt encWr w (Bl w.heap.size) A a) (h2 : SlAt encWr w (Bl w.heap.size) A' b) (hs : a.length + b.length ≤ 1000000) :
    Calls Try.prog 18 #[.slice A a.length c, .slice A' b.length c'] w (RetSlN encWr (mergeL a b) (mergeErr a b) w) := by
  have H1 : Hid (∀ w', Below w.heap.size w w' → SlAt encWr w' (Bl w'.heap.size) A a) := fun w' hb => h1.fwd hb
  have H2 : Hid (∀ w', Below w.heap.size w w' → SlAt encWr w' (Bl w'.heap.size) A' b) := fun w' hb => h2.fwd hb
  have S1 : Hid (∀ w', Below w.heap.size w w' → SlAt encWr w' (fun g => Nw 0 w'.heap.size g ∧ (Value.slice none 0 0).ownBlock ≠ some g) A a) := fun w' hb => (h1.fwd hb).more (fun g hg => ⟨⟨Nat.zero_le _, hg⟩, by simp [Value.ownBlock]⟩)
  have S2 : Hid (∀ (w' : World) (v : Value), Below w.heap.size w w' → (∀ g, v.ownBlock = some g → w.heap.size ≤ g) → SlAt encWr w' (fun g => Nw 0 w'.heap.size g ∧ v.ownBlock ≠ some g) A' b) := fun w' v hb hv => (h2.belowUp hb (Nat.le_refl _)).more (fun g hg => ⟨⟨Nat.zero_le _, Nat.lt_of_lt_of_le hg hb.size⟩, fun e => by have := hv g e; have : g < w.heap.size := hg; omega⟩)
  clear h1 h2
  obtain ⟨ea, hea⟩ : ∃ ea, Hid (chkN placedN a = ea) := ⟨_, Lib.hid rfl⟩
  obtain ⟨eb, heb⟩ : ∃ eb, Hid (chkN placedN b = eb) := ⟨_, Lib.hid rfl⟩
  have C1 : Hid (∀ (Z : Option Addr) (zc : Nat) (w' : World), Below w.heap.size w w' → SlAt encInt w' (Bl w'.heap.size) Z most → Calls Try.prog 20 #[.slice A a.length c, .slice Z 8 zc] w' fun e w'' => e = .returned (.int .i64 ea) ∧ Below w'.heap.size w' w'') := fun Z zc w' hb hz => refCheck8 A Z c zc a.length a w' rfl (H1.out w' hb) (by omega) hz ea hea.out
  have C2 : Hid (∀ (Z : Option Addr) (zc : Nat) (w' : World), Below w.heap.size w w' → SlAt encInt w' (Bl w'.heap.size) Z most → Calls Try.prog 20 #[.slice A' b.length c', .slice Z 8 zc] w' fun e w'' => e = .returned (.int .i64 eb) ∧ Below w'.heap.size w' w'') := fun Z zc w' hb hz => refCheck8 A' Z c' zc b.length b w' rfl (H2.out w' hb) (by omega) hz eb heb.out
  go_enter Try.func18, Try.ntmps18
  go_wp2_with fail
  refine (most8 _).mono ?_
  rintro e w1 ⟨Z1, zc1, rfl, hz1, hb1⟩
  have HZ1 := Lib.hid hz1; clear hz1
  by_cases he : ea = 0
  · have he1 : (ea != 0) = false := by simp [he]
    have HE := Lib.hid he; clear he
    go_wp2_with fail
    refine (C1.out Z1 zc1 w1 hb1 HZ1.out).mono ?_
    rintro e w2 ⟨rfl, hb2⟩
    go_wp2_with fail
    refine (most8 _).mono ?_
    rintro e w3 ⟨Z2, zc2, rfl, hz2, hb3⟩
    have HZ2 := Lib.hid hz2; clear hz2
    have hB3 : Below w.heap.size w w3 := (by repeat (first | exact Below.refl _ _ | assumption | refine ext_alloc ?_ | refine ext_drew ?_ | refine ext_trans ?_ (by assumption)))
    by_cases he' : eb = 0
    · have he2 : (eb != 0) = false := by simp [he']
      have HE' := Lib.hid he'; clear he'
      go_wp2_with fail
      refine (C2.out Z2 zc2 w3 hB3 HZ2.out).mono ?_
      rintro e w4 ⟨rfl, hb4⟩
      have hB4 : Below w.heap.size w w4 := (by repeat (first | exact Below.refl _ _ | assumption | refine ext_alloc ?_ | refine ext_drew ?_ | refine ext_trans ?_ (by assumption)))
      have hO0 : OwnW encWr w4 w.heap.size 0 35 (.slice none 0 0) [] := OwnW.nil_
      have HO0 := Lib.hid hO0; clear hO0
      have hsz4 := hB4.size
      go_wp2_with (at_builtin; refine Hid.out ?_)
      change wpList _ _ _ _ _ _
      refine wpList_appAll (E := encWr) tyWrs rfl _ _ rfl rfl HO0.out rfl rfl (S1.out w4 hB4) (fun _ h => h.1.2) hsz4 (by simp [maxLen]; omega) (by simp; omega) ?_
      intro A1 c1 w5 hown5 hg5 hat5
      have hok5 := Lib.hid (OwnW.app hown5 hg5 hat5)
      have hB5 : Below w.heap.size w w5 := hB4.grown hg5 hsz4 (fun g h => (HO0.out.lt g h).1)
      have hsz5 := hB5.size
      clear hown5 hg5 hat5
      simp only [List.length_nil, Nat.zero_add, List.nil_append] at hok5
      go_wp2_with (at_builtin; refine Hid.out ?_)
      change wpList _ _ _ _ _ _
      refine wpList_appAll (E := encWr) tyWrs rfl _ _ rfl rfl hok5.out rfl rfl (S2.out w5 (.slice A1 a.length c1) hB5 (fun g hg => (hok5.out.lt g hg).1)) (fun _ h => h.1.2) hsz5 (by simp [maxLen]; omega) (by omega) ?_
      intro A2 c2 w6 hown6 hg6 hat6
      have hok6 := Lib.hid (OwnW.app hown6 hg6 hat6)
      have hB6 : Below w.heap.size w w6 := hB5.grown hg6 hsz5 (fun g hg => (hok5.out.lt g hg).1)
      clear hown6 hg6 hat6
      have hsa := Lib.hid (Own.rd0 hok6.out (fun _ h => h.1.2))
      have HALL : Hid (∀ x ∈ a ++ b, placedN x = 0) := fun x hx => by
        rcases List.mem_append.1 hx with hx | hx
        · exact chk_all (by rw [hea.out, HE.out]) x hx
        · exact chk_all (by rw [heb.out, HE'.out]) x hx
      have herr : Hid (mergeErr a b = 0) := by rw [Hid, mergeErr, hea.out, HE.out, if_neg (by simp), heb.out, HE'.out]
      have hm : Hid (mergeL a b = foldL (a ++ b)) := by rw [Hid, mergeL, herr.out, if_pos rfl, foldL, errOf_all HALL.out, if_pos rfl]
      obtain ⟨A', c', he3, r1, r2, r3⟩ := hsa.out
      have HR3 := Lib.hid r3; clear r3
      simp only [List.cons.injEq, Value.slice.injEq, and_true] at he3
      obtain ⟨e1, e2, e3⟩ := he3
      have E2 := Lib.hid e2
      subst e1 e3
      clear e2 r1 r2
      go_wp2_with fail
      refine (refFoldX A2 c2 _ (a ++ b) _ 0 E2.out.symm rfl (errOf_all HALL.out) w6 HR3.out (by omega)).mono ?_
      rintro e w7 ⟨A3, c3, rfl, q1, q2, q3, hb7⟩
      have HQ := Lib.hid (And.intro q1 (And.intro q2 q3))
      clear q1 q2 q3
      have hsz6 := hB6.size
      go_wp2
      go_ret2
      obtain ⟨q1, q2, q3⟩ := HQ.out
      rw [herr.out, hm.out]
      exact ⟨A3, c3, rfl, q1, q2, q3.more (fun g h => h.mono (by omega) (Nat.le_refl _)), (by repeat (first | exact Below.refl _ _ | assumption | refine ext_alloc ?_ | refine ext_drew ?_ | refine ext_trans ?_ (by assumption)))⟩
    · have he2 : (eb != 0) = true := by simp [he']
      have HE' := Lib.hid he'; clear he'
      go_wp2_with fail
      refine (C2.out Z2 zc2 w3 hB3 HZ2.out).mono ?_
      rintro e w4 ⟨rfl, hb4⟩
      have hB4 : Below w.heap.size w w4 := (by repeat (first | exact Below.refl _ _ | assumption | refine ext_alloc ?_ | refine ext_drew ?_ | refine ext_trans ?_ (by assumption)))
      go_wp2
      go_ret2
      have herr : mergeErr a b = eb := by rw [mergeErr, hea.out, HE.out, if_neg (by simp), heb.out]
      have hm : mergeL a b = [] := by rw [mergeL, herr, if_neg HE'.out]
      rw [hm, herr]
      exact ⟨none, 0, rfl, by simp, by simp, SlAt.nil_, hB4⟩
  · have he1 : (ea != 0) = true := by simp [he]
    have HE := Lib.hid he; clear he
    go_wp2_with fail
    refine (C1.out Z1 zc1 w1 hb1 HZ1.out).mono ?_
    rintro e w2 ⟨rfl, hb2⟩
    have hB2 : Below w.heap.size w w2 := (by repeat (first | exact Below.refl _ _ | assumption | refine ext_alloc ?_ | refine ext_drew ?_ | refine ext_trans ?_ (by assumption)))
    go_wp2
    go_ret2
    have herr : mergeErr a b = ea := by rw [mergeErr, hea.out, if_pos HE.out]
    have hm : mergeL a b = [] := by rw [mergeL, herr, if_neg HE.out]
    rw [hm, herr]
    exact ⟨none, 0, rfl, by simp, by simp, SlAt.nil_, hB2⟩
end Go.Proofs.Ytfahbhjlkdcnpaa

/-
  The walks of the laws CoalesceFolds and CoalesceMerges.
  The walk of the law CoalesceAssociates.
-/
import Derived.Test.YtfahbhjlkdcnpaaSi
import Derived.Test.YtfahbhjlkdcnpaaTa
import Derived.Test.YtfahbhjlkdcnpaaPl
set_option linter.unusedVariables false
set_option linter.unusedSimpArgs false
set_option linter.unusedSectionVars false
set_option linter.unnecessarySimpa false
namespace Go.Proofs.Ytfahbhjlkdcnpaa
open Go.RowKit Go.ChangeMaps

theorem fewX (A : Option Addr) (c : Nat) (l : List Wr) (w : World) (q : Bool) (hq : fewL l = q) (h1 : SlAt encWr w (Bl w.heap.size) A l) (hs : l.length ≤ 9223372036854775807) :
    Calls Try.prog 12 #[.slice A l.length c] w fun e w' => e = .returned (.bool q) ∧ w' = w := by
  subst hq
  exact few_any A c _ l w h1 hs
theorem few_len {l : List Wr} (h : fewL l = true) : l.length ≤ 40 := by
  simp [fewL] at h; exact h.1
theorem max_len {n c : Nat} (h1 : n ≤ c) (h2 : c ≤ maxLen) : n ≤ 9223372036854775807 := by unfold maxLen at h2; omega
set_option maxHeartbeats 2000000 in
theorem folds_any (A : Option Addr) (c : Nat) (l : List Wr) (w : World) (h1 : SlAt encWr w (Bl w.heap.size) A l) (h2 : l.length ≤ c) (h3 : c ≤ maxLen) :
    Calls Try.prog 3 #[.slice A l.length c] w (LawRet w) := by
  have H1 := Lib.hid h1; clear h1
  obtain ⟨q, hq⟩ : ∃ q, Hid (fewL l = q) := ⟨_, Lib.hid rfl⟩
  have HQ := hq; clear hq
  have hl64 := max_len h2 h3
  go_enter Try.func3, Try.ntmps3
  go_wp2_with fail
  refine (fewX _ _ _ _ q HQ.out H1.out hl64).mono ?_
  rintro e w' ⟨rfl, rfl⟩
  cases q with
  | false =>
    go_wp2_with fail
    refine (awake_any _).mono ?_
    rintro e w1 ⟨rfl, hb1⟩
    go_wp2
    go_ret
    exact ⟨rfl, hb1⟩
  | true =>
    obtain ⟨r, hr⟩ : ∃ r, Hid (foldL l = r) := ⟨_, Lib.hid rfl⟩
    obtain ⟨en, hen⟩ : ∃ en, Hid (errOf placedN l = en) := ⟨_, Lib.hid rfl⟩
    have hF := Lib.hid (fold_any A c l w' H1.out hl64)
    rw [hr.out, hen.out] at hF
    go_wp2_with fail
    refine (hF.out.mono fun _ _ h => h.bl).mono ?_
    rintro e w1 ⟨A1, c1, rfl, hs1, hb1⟩
    have HS1 := Lib.hid hs1; clear hs1
    go_wp2_with fail
    refine ((refFoldX A c _ l r en rfl hr.out hen.out w1 (H1.out.fwd hb1) hl64).mono fun _ _ h => h.bl).mono ?_
    rintro e w2 ⟨A2, c2, rfl, hs2, hb2⟩
    have HS2 := Lib.hid hs2; clear hs2
    go_wp2_with fail
    refine (sameX _ _ _ _ _ _ r r rfl rfl _ (HS1.out.2.2.fwd hb2) HS2.out.2.2 (max_len HS1.out.1 HS1.out.2.1) (max_len HS2.out.1 HS2.out.2.1) rfl).mono ?_
    rintro e w3 ⟨rfl, hb3⟩
    go_wp2_with fail
    refine (awake_any _).mono ?_
    rintro e w4 ⟨rfl, hb4⟩
    have hend : Below w'.heap.size w' w4 := (by repeat (first | exact Below.refl _ _ | assumption | refine ext_alloc ?_ | refine ext_drew ?_ | refine ext_trans ?_ (by assumption)))
    go_wp2
    go_ret
    exact ⟨rfl, hend⟩
set_option maxHeartbeats 2000000 in
theorem merges_any (A A' : Option Addr) (c c' : Nat) (l m : List Wr) (w : World) (h1 : SlAt encWr w (Bl w.heap.size) A l) (h2 : l.length ≤ c) (h3 : c ≤ maxLen) (h1' : SlAt encWr w (Bl w.heap.size) A' m) (h2' : m.length ≤ c') (h3' : c' ≤ maxLen) :
    Calls Try.prog 4 #[.slice A l.length c, .slice A' m.length c'] w (LawRet w) := by
  have H1 := Lib.hid h1; clear h1
  have H1' := Lib.hid h1'; clear h1'
  obtain ⟨q, HQ⟩ : ∃ q, Hid (fewL l = q) := ⟨_, Lib.hid rfl⟩
  obtain ⟨q', HQ'⟩ : ∃ q, Hid (fewL m = q) := ⟨_, Lib.hid rfl⟩
  have hl64 := max_len h2 h3
  have hm64 := max_len h2' h3'
  go_enter Try.func4, Try.ntmps4
  go_wp2_with fail
  refine (fewX _ _ _ _ q HQ.out H1.out hl64).mono ?_
  rintro e w' ⟨rfl, rfl⟩
  cases q with
  | false =>
    go_wp2_with fail
    refine (awake_any _).mono ?_
    rintro e w1 ⟨rfl, hb1⟩
    go_wp2
    go_ret
    exact ⟨rfl, hb1⟩
  | true =>
    go_wp2_with fail
    refine (fewX _ _ _ _ q' HQ'.out H1'.out hm64).mono ?_
    rintro e w' ⟨rfl, rfl⟩
    cases q' with
    | false =>
      go_wp2_with fail
      refine (awake_any _).mono ?_
      rintro e w1 ⟨rfl, hb1⟩
      go_wp2
      go_ret
      exact ⟨rfl, hb1⟩
    | true =>
      have k1 := few_len HQ.out
      have k2 := few_len HQ'.out
      obtain ⟨r, hr⟩ : ∃ r, Hid (mergeL l m = r) := ⟨_, Lib.hid rfl⟩
      obtain ⟨en, hen⟩ : ∃ en, Hid (mergeErr l m = en) := ⟨_, Lib.hid rfl⟩
      have hF := Lib.hid (merge_any A A' c c' l m w' H1.out H1'.out h2 h3 h2' h3' (by omega))
      rw [hr.out, hen.out] at hF
      go_wp2_with fail
      refine (hF.out.mono fun _ _ h => h.bl).mono ?_
      rintro e w1 ⟨A1, c1, rfl, hs1, hb1⟩
      have HS1 := Lib.hid hs1; clear hs1
      have hG := Lib.hid (refMerge_any A A' c c' l m w1 (H1.out.fwd hb1) (H1'.out.fwd hb1) (by omega))
      rw [hr.out, hen.out] at hG
      go_wp2_with fail
      refine (hG.out.mono fun _ _ h => h.bl).mono ?_
      rintro e w2 ⟨A2, c2, rfl, hs2, hb2⟩
      have HS2 := Lib.hid hs2; clear hs2
      go_wp2_with fail
      refine (sameX _ _ _ _ _ _ r r rfl rfl _ (HS1.out.2.2.fwd hb2) HS2.out.2.2 (max_len HS1.out.1 HS1.out.2.1) (max_len HS2.out.1 HS2.out.2.1) rfl).mono ?_
      rintro e w3 ⟨rfl, hb3⟩
      go_wp2_with fail
      refine (awake_any _).mono ?_
      rintro e w4 ⟨rfl, hb4⟩
      have hend : Below w'.heap.size w' w4 := (by repeat (first | exact Below.refl _ _ | assumption | refine ext_alloc ?_ | refine ext_drew ?_ | refine ext_trans ?_ (by assumption)))
      go_wp2
      go_ret
      exact ⟨rfl, hend⟩
end Go.Proofs.Ytfahbhjlkdcnpaa

namespace Go.Proofs.Ytfahbhjlkdcnpaa
open Go.RowKit Go.ChangeMaps

theorem errOf_conv2 {α : Type} {f : α → Int} {l : List α} (h : errOf f l = 0) : ∀ x ∈ l, f x = 0 := by
  intro p hp
  rcases Decidable.em (f p = 0) with h0 | h0
  · exact h0
  · exfalso
    unfold errOf at h
    cases hf : l.find? (fun x => f x != 0) with
    | none => have := List.find?_eq_none.1 hf p hp; simp at this; exact h0 this
    | some q =>
      rw [hf] at h
      have h1 := List.find?_some hf
      simp only [Option.map_some, Option.getD_some] at h
      rw [h] at h1
      simp at h1
theorem plOf_len (l : List Wr) : (plOf l).length ≤ 32768 := by
  unfold plOf
  rw [List.length_flatMap]
  have h : ∀ ns : List Nat, (ns.map fun (v : Nat) => ((secsOf l v).map fun s => ((v : Int), s)).length).sum ≤ ns.length * 4096 := by
    intro ns
    induction ns with
    | nil => simp
    | cons n ns ih =>
      have := secsOf_len l n
      simp only [List.map_cons, List.sum_cons, List.length_map, List.length_cons] at ih ⊢
      omega
  have := h (List.range 8)
  rw [List.length_range] at this
  omega
theorem foldS_len (l : List Wr) : (foldS l).length ≤ 32768 := by
  have h1 := (canonL_len (assoc l)).1
  have h2 : (assoc l).length = (plOf l).length := by rw [← assoc_places, List.length_map]
  have := plOf_len l
  unfold foldS
  omega
theorem mergeY (A A' : Option Addr) (c c' n m : Nat) (a b r : List Wr) (hn : a.length = n) (hm : b.length = m) (hr : mergeL a b = r) (he : mergeErr a b = 0) (w : World) (h1 : SlAt encWr w (Bl w.heap.size) A a) (h2 : SlAt encWr w (Bl w.heap.size) A' b) (k1 : n ≤ c ∧ c ≤ maxLen) (k3 : m ≤ c' ∧ c' ≤ maxLen) (hs : n ≤ 32768 ∧ m ≤ 32768) :
    Calls Try.prog 17 #[.slice A n c, .slice A' m c'] w fun e w' => ∃ A c, e = .returned (.tuple #[.slice A r.length c, .int .i64 0]) ∧ (r.length ≤ c ∧ c ≤ maxLen ∧ SlAt encWr w' (Bl w'.heap.size) A r) ∧ Below w.heap.size w w' :=
  (mergeX A A' c c' n m a b r hn hm hr he w h1 h2 k1.1 k1.2 k3.1 k3.2 (by omega)).mono fun _ _ h => h.bl
theorem mergeErr_folds (a b : List Wr) : mergeErr (foldS a) (foldS b) = 0 := by rw [mergeErr, chk_fold, if_neg (by simp), chk_fold]
theorem mergeL_folds {a b : List Wr} (ha : ∀ x ∈ a, placedN x = 0) (hb : ∀ x ∈ b, placedN x = 0) : mergeL (foldS a) (foldS b) = foldS (a ++ b) := by
  rw [mergeL, mergeErr_folds, if_pos rfl, fold_append ha hb]

set_option maxHeartbeats 8000000 in
set_option maxRecDepth 100000 in
theorem associates_any (A1 A2 A3 : Option Addr) (c1 c2 c3 : Nat) (a b c : List Wr) (w : World) (h1 : SlAt encWr w (Bl w.heap.size) A1 a) (k1 : a.length ≤ c1) (k1' : c1 ≤ maxLen) (h2 : SlAt encWr w (Bl w.heap.size) A2 b) (k2 : b.length ≤ c2) (k2' : c2 ≤ maxLen) (h3 : SlAt encWr w (Bl w.heap.size) A3 c) (k3 : c.length ≤ c3) (k3' : c3 ≤ maxLen) :
    Calls Try.prog 6 #[.slice A1 a.length c1, .slice A2 b.length c2, .slice A3 c.length c3] w (LawRet w) := by
  have H1 := Lib.hid h1; clear h1
  have H2 := Lib.hid h2; clear h2
  have H3 := Lib.hid h3; clear h3
  obtain ⟨q1, HQ1⟩ : ∃ q, Hid (fewL a = q) := ⟨_, Lib.hid rfl⟩
  obtain ⟨q2, HQ2⟩ : ∃ q, Hid (fewL b = q) := ⟨_, Lib.hid rfl⟩
  obtain ⟨q3, HQ3⟩ : ∃ q, Hid (fewL c = q) := ⟨_, Lib.hid rfl⟩
  have hl1 := max_len k1 k1'
  have hl2 := max_len k2 k2'
  have hl3 := max_len k3 k3'
  have hb0 := Below.refl w.heap.size w
  go_enter Try.func6, Try.ntmps6
  go_wp2_with fail
  refine (fewX _ _ _ _ q1 HQ1.out H1.out hl1).mono ?_
  rintro e w' ⟨rfl, rfl⟩
  cases q1 with
  | false =>
    go_wp2_with fail
    refine (awake_any _).mono ?_
    rintro e w9 ⟨rfl, hb9⟩
    go_wp2
    go_ret
    exact ⟨rfl, hb9⟩
  | true =>
    go_wp2_with fail
    refine (fewX _ _ _ _ q2 HQ2.out H2.out hl2).mono ?_
    rintro e w' ⟨rfl, rfl⟩
    cases q2 with
    | false =>
      go_wp2_with fail
      refine (awake_any _).mono ?_
      rintro e w9 ⟨rfl, hb9⟩
      go_wp2
      go_ret
      exact ⟨rfl, hb9⟩
    | true =>
      go_wp2_with fail
      refine (fewX _ _ _ _ q3 HQ3.out H3.out hl3).mono ?_
      rintro e w' ⟨rfl, rfl⟩
      cases q3 with
      | false =>
        go_wp2_with fail
        refine (awake_any _).mono ?_
        rintro e w9 ⟨rfl, hb9⟩
        go_wp2
        go_ret
        exact ⟨rfl, hb9⟩
      | true =>
        obtain ⟨e1, he1⟩ : ∃ en, Hid (errOf placedN a = en) := ⟨_, Lib.hid rfl⟩
        obtain ⟨e2, he2⟩ : ∃ en, Hid (errOf placedN b = en) := ⟨_, Lib.hid rfl⟩
        obtain ⟨e3, he3⟩ : ∃ en, Hid (errOf placedN c = en) := ⟨_, Lib.hid rfl⟩
        obtain ⟨x, hx⟩ : ∃ r, Hid (foldL a = r) := ⟨_, Lib.hid rfl⟩
        obtain ⟨y, hy⟩ : ∃ r, Hid (foldL b = r) := ⟨_, Lib.hid rfl⟩
        obtain ⟨z, hz⟩ : ∃ r, Hid (foldL c = r) := ⟨_, Lib.hid rfl⟩
        have hF := fold_any A1 c1 a w' H1.out hl1
        rw [hx.out, he1.out] at hF
        go_wp2_with fail
        refine (hF.mono fun _ _ h => h.bl).mono ?_
        rintro e w1 ⟨B1, d1, rfl, hs1, hb1⟩
        have HS1 := Lib.hid hs1; clear hs1 hF
        have hF := fold_any A2 c2 b w1 (H2.out.fwd hb1) hl2
        rw [hy.out, he2.out] at hF
        go_wp2_with fail
        refine (hF.mono fun _ _ h => h.bl).mono ?_
        rintro e w2 ⟨B2, d2, rfl, hs2, hb2⟩
        have HS2 := Lib.hid hs2; clear hs2 hF
        have hF := fold_any A3 c3 c w2 (H3.out.fwd (by repeat (first | exact Below.refl _ _ | assumption | refine ext_alloc ?_ | refine ext_drew ?_ | refine ext_trans ?_ (by assumption)))) hl3
        rw [hz.out, he3.out] at hF
        go_wp2_with fail
        refine (hF.mono fun _ _ h => h.bl).mono ?_
        rintro e w3 ⟨B3, d3, rfl, hs3, hb3⟩
        have HS3 := Lib.hid hs3; clear hs3 hF
        by_cases g1 : e1 = 0
        · have g1' : (e1 != 0) = false := by simp [g1]
          have G1 := Lib.hid g1; clear g1
          by_cases g2 : e2 = 0
          · have g2' : (e2 != 0) = false := by simp [g2]
            have G2 := Lib.hid g2; clear g2
            by_cases g3 : e3 = 0
            · have g3' : (e3 != 0) = false := by simp [g3]
              have G3 := Lib.hid g3; clear g3
              have pa : Hid (∀ x ∈ a, placedN x = 0) := errOf_conv2 (he1.out.trans G1.out)
              have pb : Hid (∀ x ∈ b, placedN x = 0) := errOf_conv2 (he2.out.trans G2.out)
              have pc : Hid (∀ x ∈ c, placedN x = 0) := errOf_conv2 (he3.out.trans G3.out)
              have ex : Hid (x = foldS a) := by rw [Hid, ← hx.out, foldL, he1.out, if_pos G1.out]
              have ey : Hid (y = foldS b) := by rw [Hid, ← hy.out, foldL, he2.out, if_pos G2.out]
              have ez : Hid (z = foldS c) := by rw [Hid, ← hz.out, foldL, he3.out, if_pos G3.out]
              obtain ⟨xy, hxy⟩ : ∃ r, Hid (r = foldS (a ++ b)) := ⟨_, Lib.hid rfl⟩
              obtain ⟨yz, hyz⟩ : ∃ r, Hid (r = foldS (b ++ c)) := ⟨_, Lib.hid rfl⟩
              obtain ⟨r, hr⟩ : ∃ r, Hid (r = foldS (a ++ b ++ c)) := ⟨_, Lib.hid rfl⟩
              have lx : x.length ≤ 32768 := by rw [ex.out]; exact foldS_len _
              have ly : y.length ≤ 32768 := by rw [ey.out]; exact foldS_len _
              have lz : z.length ≤ 32768 := by rw [ez.out]; exact foldS_len _
              have lxy : xy.length ≤ 32768 := by rw [hxy.out]; exact foldS_len _
              have lyz : yz.length ≤ 32768 := by rw [hyz.out]; exact foldS_len _
              have pab : ∀ x ∈ a ++ b, placedN x = 0 := fun x hx => by rcases List.mem_append.1 hx with h | h; exact pa.out x h; exact pb.out x h
              have pbc : ∀ x ∈ b ++ c, placedN x = 0 := fun x hx => by rcases List.mem_append.1 hx with h | h; exact pb.out x h; exact pc.out x h
              have pabc : ∀ x ∈ a ++ b ++ c, placedN x = 0 := fun x hx => by rcases List.mem_append.1 hx with h | h; exact pab x h; exact pc.out x h
              have m1 : Hid (mergeL x y = xy ∧ mergeErr x y = 0) := ⟨by rw [ex.out, ey.out, hxy.out]; exact mergeL_folds pa.out pb.out, by rw [ex.out, ey.out]; exact mergeErr_folds _ _⟩
              have m2 : Hid (mergeL xy z = r ∧ mergeErr xy z = 0) := ⟨by rw [hxy.out, ez.out, hr.out]; exact mergeL_folds pab pc.out, by rw [hxy.out, ez.out]; exact mergeErr_folds _ _⟩
              have m3 : Hid (mergeL y z = yz ∧ mergeErr y z = 0) := ⟨by rw [ey.out, ez.out, hyz.out]; exact mergeL_folds pb.out pc.out, by rw [ey.out, ez.out]; exact mergeErr_folds _ _⟩
              have m4 : Hid (mergeL x yz = r ∧ mergeErr x yz = 0) := ⟨by rw [ex.out, hyz.out, hr.out, List.append_assoc]; exact mergeL_folds pa.out pbc, by rw [ex.out, hyz.out]; exact mergeErr_folds _ _⟩
              have m5 : Hid (foldL (a ++ b ++ c) = r ∧ errOf placedN (a ++ b ++ c) = 0) := ⟨by rw [hr.out, foldL, errOf_zero pabc, if_pos rfl], errOf_zero pabc⟩
              have hen := G1.out; have hen2 := G2.out; have hen3 := G3.out
              clear pab pbc pabc hen hen2 hen3
              go_wp2_with fail
              refine (mergeY _ _ _ _ _ _ x y xy rfl rfl m1.out.1 m1.out.2 w3 (HS1.out.2.2.fwd (by repeat (first | exact Below.refl _ _ | assumption | refine ext_alloc ?_ | refine ext_drew ?_ | refine ext_trans ?_ (by assumption)))) (HS2.out.2.2.fwd (by repeat (first | exact Below.refl _ _ | assumption | refine ext_alloc ?_ | refine ext_drew ?_ | refine ext_trans ?_ (by assumption)))) ⟨HS1.out.1, HS1.out.2.1⟩ ⟨HS2.out.1, HS2.out.2.1⟩ ⟨lx, ly⟩).mono ?_
              rintro e w4 ⟨B4, d4, rfl, hs4, hb4⟩
              have HS4 := Lib.hid hs4; clear hs4
              go_wp2_with fail
              refine (mergeY _ _ _ _ _ _ xy z r rfl rfl m2.out.1 m2.out.2 w4 HS4.out.2.2 (HS3.out.2.2.fwd (by repeat (first | exact Below.refl _ _ | assumption | refine ext_alloc ?_ | refine ext_drew ?_ | refine ext_trans ?_ (by assumption)))) ⟨HS4.out.1, HS4.out.2.1⟩ ⟨HS3.out.1, HS3.out.2.1⟩ ⟨lxy, lz⟩).mono ?_
              rintro e w5 ⟨B5, d5, rfl, hs5, hb5⟩
              have HS5 := Lib.hid hs5; clear hs5
              go_wp2_with fail
              refine (mergeY _ _ _ _ _ _ y z yz rfl rfl m3.out.1 m3.out.2 w5 (HS2.out.2.2.fwd (by repeat (first | exact Below.refl _ _ | assumption | refine ext_alloc ?_ | refine ext_drew ?_ | refine ext_trans ?_ (by assumption)))) (HS3.out.2.2.fwd (by repeat (first | exact Below.refl _ _ | assumption | refine ext_alloc ?_ | refine ext_drew ?_ | refine ext_trans ?_ (by assumption)))) ⟨HS2.out.1, HS2.out.2.1⟩ ⟨HS3.out.1, HS3.out.2.1⟩ ⟨ly, lz⟩).mono ?_
              rintro e w6 ⟨B6, d6, rfl, hs6, hb6⟩
              have HS6 := Lib.hid hs6; clear hs6
              go_wp2_with fail
              refine (mergeY _ _ _ _ _ _ x yz r rfl rfl m4.out.1 m4.out.2 w6 (HS1.out.2.2.fwd (by repeat (first | exact Below.refl _ _ | assumption | refine ext_alloc ?_ | refine ext_drew ?_ | refine ext_trans ?_ (by assumption)))) HS6.out.2.2 ⟨HS1.out.1, HS1.out.2.1⟩ ⟨HS6.out.1, HS6.out.2.1⟩ ⟨lx, lyz⟩).mono ?_
              rintro e w7 ⟨B7, d7, rfl, hs7, hb7⟩
              have HS7 := Lib.hid hs7; clear hs7
              have hB7 : Below w'.heap.size w' w7 := (by repeat (first | exact Below.refl _ _ | assumption | refine ext_alloc ?_ | refine ext_drew ?_ | refine ext_trans ?_ (by assumption)))
              have hsz7 := hB7.size
              have hO0 : OwnW encWr (w7.alloc (.cells #[] 35)) w7.heap.size 0 35 (.slice (some ⟨w7.heap.size, 0, none⟩) 0 0) [] := ⟨[], World.ownsRow_made w7 #[] 0 (Nat.le_refl _) (by unfold maxLen; omega) rfl, trivial, fun g hg h => h.2 hg⟩
              have HO0 := Lib.hid hO0; clear hO0
              have ka := few_len HQ1.out
              have kb := few_len HQ2.out
              have kc := few_len HQ3.out
              have hB8 : Below w7.heap.size w7 (w7.alloc (.cells #[] 35)) := ext_alloc (Below.refl _ _)
              have hsrc := Lib.hid (((H1.out.fwd hB7).belowUp hB8 (Nat.le_refl _)).more (S' := fun g => Nw 0 (w7.alloc (.cells #[] 35)).heap.size g ∧ _ ≠ some g) (fun g hg => ⟨⟨Nat.zero_le _, Nat.lt_of_lt_of_le hg (hB8).size⟩, fun e => by have := (HO0.out.lt g e).1; have : g < w7.heap.size := hg; omega⟩))
              go_wp2_with (at_builtin; refine Hid.out ?_)
              change wpList _ _ _ _ _ _
              refine wpList_appAll (E := encWr) tyWrs rfl _ _ rfl rfl HO0.out rfl rfl hsrc.out (fun _ h => h.1.2) (hB8).size (by (try simp only [List.length_nil, List.length_append]); unfold maxLen; omega) (by (try simp only [List.length_nil, List.length_append]); omega) ?_
              intro B8 d8 w8 hown8 hg8 hat8
              have hok8 := Lib.hid (OwnW.app hown8 hg8 hat8)
              clear hsrc
              simp only [List.length_nil, Nat.zero_add, List.nil_append] at hok8
              have hBn8 : Below w7.heap.size w7 w8 := hB8.grown hg8 hB8.size (fun g hg => (HO0.out.lt g hg).1)
              clear hown8 hg8 hat8
              have hsrc := Lib.hid (((H2.out.fwd hB7).belowUp hBn8 (Nat.le_refl _)).more (S' := fun g => Nw 0 (w8).heap.size g ∧ _ ≠ some g) (fun g hg => ⟨⟨Nat.zero_le _, Nat.lt_of_lt_of_le hg (hBn8).size⟩, fun e => by have := (hok8.out.lt g e).1; have : g < w7.heap.size := hg; omega⟩))
              go_wp2_with (at_builtin; refine Hid.out ?_)
              change wpList _ _ _ _ _ _
              refine wpList_appAll (E := encWr) tyWrs rfl _ _ rfl rfl hok8.out rfl rfl hsrc.out (fun _ h => h.1.2) (hBn8).size (by (try simp only [List.length_nil, List.length_append]); unfold maxLen; omega) (by (try simp only [List.length_nil, List.length_append]); omega) ?_
              intro B9 d9 w9 hown9 hg9 hat9
              have hok9 := Lib.hid (OwnW.app hown9 hg9 hat9)
              clear hsrc
              have hBn9 : Below w7.heap.size w7 w9 := hBn8.grown hg9 hBn8.size (fun g hg => (hok8.out.lt g hg).1)
              clear hown9 hg9 hat9
              have hsrc := Lib.hid (((H3.out.fwd hB7).belowUp hBn9 (Nat.le_refl _)).more (S' := fun g => Nw 0 (w9).heap.size g ∧ _ ≠ some g) (fun g hg => ⟨⟨Nat.zero_le _, Nat.lt_of_lt_of_le hg (hBn9).size⟩, fun e => by have := (hok9.out.lt g e).1; have : g < w7.heap.size := hg; omega⟩))
              go_wp2_with (at_builtin; refine Hid.out ?_)
              change wpList _ _ _ _ _ _
              refine wpList_appAll (E := encWr) tyWrs rfl _ _ rfl rfl hok9.out rfl rfl hsrc.out (fun _ h => h.1.2) (hBn9).size (by (try simp only [List.length_nil, List.length_append]); unfold maxLen; omega) (by (try simp only [List.length_nil, List.length_append]); omega) ?_
              intro B10 d10 w10 hown10 hg10 hat10
              have hok10 := Lib.hid (OwnW.app hown10 hg10 hat10)
              clear hsrc
              have hBn10 : Below w7.heap.size w7 w10 := hBn9.grown hg10 hBn9.size (fun g hg => (hok9.out.lt g hg).1)
              clear hown10 hg10 hat10
              have hrd := Own.rd0 hok10.out (fun _ h => h.1.2)
              obtain ⟨A', c', he4, _, _, r3⟩ := hrd
              have HR3 := Lib.hid r3; clear r3
              simp only [List.cons.injEq, Value.slice.injEq, and_true] at he4
              obtain ⟨u1, u2, u3⟩ := he4
              have U2 := Lib.hid u2
              subst u1 u3
              clear u2 hok8 hok9 hok10 HO0
              go_wp2_with fail
              have hlen : (a ++ b ++ c).length = a.length + b.length + c.length := by simp only [List.length_append]
              have hFF := foldX B10 d10 (a.length + b.length + c.length) (a ++ b ++ c) r hlen m5.out.1 m5.out.2 w10 HR3.out (by omega)
              clear hlen
              refine (hFF.mono fun _ _ h => h.bl).mono ?_
              clear hFF
              rintro e w11 ⟨B11, d11, rfl, hs11, hb11⟩
              have HS11 := Lib.hid hs11; clear hs11
              clear hB7 hB8 hBn8 hBn9 hb0
              go_wp2_with fail
              refine (sameX _ _ _ _ _ _ r r rfl rfl _ (HS5.out.2.2.fwd (by repeat (first | exact Below.refl _ _ | assumption | refine ext_alloc ?_ | refine ext_drew ?_ | refine ext_trans ?_ (by assumption)))) (HS7.out.2.2.fwd (by repeat (first | exact Below.refl _ _ | assumption | refine ext_alloc ?_ | refine ext_drew ?_ | refine ext_trans ?_ (by assumption)))) (max_len HS5.out.1 HS5.out.2.1) (max_len HS7.out.1 HS7.out.2.1) rfl).mono ?_
              rintro e w12 ⟨rfl, hb12⟩
              go_wp2_with fail
              refine (sameX _ _ _ _ _ _ r r rfl rfl _ (HS5.out.2.2.fwd (by repeat (first | exact Below.refl _ _ | assumption | refine ext_alloc ?_ | refine ext_drew ?_ | refine ext_trans ?_ (by assumption)))) (HS11.out.2.2.fwd (by repeat (first | exact Below.refl _ _ | assumption | refine ext_alloc ?_ | refine ext_drew ?_ | refine ext_trans ?_ (by assumption)))) (max_len HS5.out.1 HS5.out.2.1) (max_len HS11.out.1 HS11.out.2.1) rfl).mono ?_
              rintro e w13 ⟨rfl, hb13⟩
              go_wp2_with fail
              refine (awake_any _).mono ?_
              rintro e w14 ⟨rfl, hb14⟩
              have hend : Below w'.heap.size w' w14 := (by repeat (first | exact Below.refl _ _ | assumption | refine ext_alloc ?_ | refine ext_drew ?_ | refine ext_trans ?_ (by assumption)))
              clear hb1 hb2 hb3 hb4 hb5 hb6 hb7 hb11 hb12 hb13 hb14 hBn10
              go_wp2
              go_ret
              exact ⟨rfl, hend⟩
            · have g3' : (e3 != 0) = true := by simp [g3]
              have G3 := Lib.hid g3; clear g3
              go_wp2_with fail
              refine (awake_any _).mono ?_
              rintro e w9 ⟨rfl, hb9⟩
              have hend : Below w'.heap.size w' w9 := (by repeat (first | exact Below.refl _ _ | assumption | refine ext_alloc ?_ | refine ext_drew ?_ | refine ext_trans ?_ (by assumption)))
              go_wp2
              go_ret
              exact ⟨rfl, hend⟩
          · have g2' : (e2 != 0) = true := by simp [g2]
            have G2 := Lib.hid g2; clear g2
            go_wp2_with fail
            refine (awake_any _).mono ?_
            rintro e w9 ⟨rfl, hb9⟩
            have hend : Below w'.heap.size w' w9 := (by repeat (first | exact Below.refl _ _ | assumption | refine ext_alloc ?_ | refine ext_drew ?_ | refine ext_trans ?_ (by assumption)))
            go_wp2
            go_ret
            exact ⟨rfl, hend⟩
        · have g1' : (e1 != 0) = true := by simp [g1]
          have G1 := Lib.hid g1; clear g1
          go_wp2_with fail
          refine (awake_any _).mono ?_
          rintro e w9 ⟨rfl, hb9⟩
          have hend : Below w'.heap.size w' w9 := (by repeat (first | exact Below.refl _ _ | assumption | refine ext_alloc ?_ | refine ext_drew ?_ | refine ext_trans ?_ (by assumption)))
          go_wp2
          go_ret
          exact ⟨rfl, hend⟩
end Go.Proofs.Ytfahbhjlkdcnpaa

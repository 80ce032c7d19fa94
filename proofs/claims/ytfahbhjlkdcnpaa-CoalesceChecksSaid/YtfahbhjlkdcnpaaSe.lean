/-
  The walk of Merge (the program).
-/
import Derived.Test.YtfahbhjlkdcnpaaSd
set_option linter.unusedVariables false
set_option linter.unusedSimpArgs false
set_option linter.unusedSectionVars false
set_option linter.unnecessarySimpa false
namespace Go.Proofs.Ytfahbhjlkdcnpaa
open Go.RowKit Go.ChangeMaps

theorem two_at {w : World} {b : Nat} {T : TypeId} {S : Nat → Prop} {A A' : Option Addr} {c c' : Nat} {l m : List Wr} (h : w.heap[b]? = some (.cells #[.slice A l.length c, .slice A' m.length c'] T (0, 0))) (hS : S b) (h1 : SlAt encWr w S A l) (h2 : SlAt encWr w S A' m) (k1 : l.length ≤ c) (k2 : c ≤ maxLen) (k3 : m.length ≤ c') (k4 : c' ≤ maxLen) :
    SlAt (encSl encWr) w S (some ⟨b, 0, none⟩) [l, m] := by
  refine fun _ => ⟨b, 0, rfl, hS, fun i x hx => ?_⟩
  have hsz : (encSl encWr).size = 1 := rfl
  match i, hx with
  | 0, hx =>
    simp at hx; subst hx
    refine ⟨[.slice A l.length c], fun j v hv => ?_, ⟨A, c, rfl, k1, k2, h1⟩⟩
    rw [cell_of_row w b _ _ T _ h]
    match j, hv with
    | 0, hv => simpa [hsz] using hv
  | 1, hx =>
    simp at hx; subst hx
    refine ⟨[.slice A' m.length c'], fun j v hv => ?_, ⟨A', c', rfl, k3, k4, h2⟩⟩
    rw [cell_of_row w b _ _ T _ h]
    match j, hv with
    | 0, hv => simpa [hsz] using hv

set_option maxHeartbeats 2000000 in
theorem merge_any (A A' : Option Addr) (c c' : Nat) (a b : List Wr) (w : World) (h1 : SlAt encWr w (Bl w.heap.size) A a) (h2 : SlAt encWr w (Bl w.heap.size) A' b) (ha : a.length ≤ c) (hc : c ≤ maxLen) (hb : b.length ≤ c') (hc' : c' ≤ maxLen) (hs : a.length + b.length ≤ 1000000) :
    Calls Try.prog 17 #[.slice A a.length c, .slice A' b.length c'] w (RetSlN encWr (mergeL a b) (mergeErr a b) w) := by
  have H1 : Hid (∀ w', Below w.heap.size w w' → SlAt encWr w' (Bl w'.heap.size) A a) := fun w' hb => h1.belowUp hb hb.size
  have H2 : Hid (∀ w', Below w.heap.size w w' → SlAt encWr w' (Bl w'.heap.size) A' b) := fun w' hb => h2.belowUp hb hb.size
  clear h1 h2
  have HL := Lib.hid (And.intro ha (And.intro hc (And.intro hb hc'))); clear ha hc hb hc'
  obtain ⟨ea, hea⟩ : ∃ ea, Hid (chkN placedN a = ea) := ⟨_, Lib.hid rfl⟩
  obtain ⟨eb, heb⟩ : ∃ eb, Hid (chkN placedN b = eb) := ⟨_, Lib.hid rfl⟩
  have hca : Hid (∀ W, Below w.heap.size w W → Calls Try.prog 44 #[.slice A a.length c, .func (.func 37) #[] #[]] W fun e w' => e = .returned (.int .i64 ea) ∧ Below W.heap.size W w') := fun W hW => by
    have := checkP_any A c a W (H1.out W hW) (by omega); rw [hea.out] at this; exact this
  have hcb : Hid (∀ W, Below w.heap.size w W → Calls Try.prog 44 #[.slice A' b.length c', .func (.func 37) #[] #[]] W fun e w' => e = .returned (.int .i64 eb) ∧ Below W.heap.size W w') := fun W hW => by
    have := checkP_any A' c' b W (H2.out W hW) (by omega); rw [heb.out] at this; exact this
  go_enter Try.func17, Try.ntmps17
  go_wp2
  go_loopw [13] (fun i wr => ∃ k : Nat, k ≤ 2 ∧ i = .int .i64 k ∧ Below w.heap.size w wr ∧ Hid (wr.heap[w.heap.size]? = some (.cells #[.slice A a.length c, .slice A' b.length c'] 22 (0, 0))) ∧ Hid (1 ≤ k → ea = 0) ∧ Hid (2 ≤ k → eb = 0)) (fun i _ => 2 - (intOf i).toNat)
  case atStart => exact ⟨0, by omega, rfl, (Below.refl _ _).alloc (Nat.le_refl _) _, heap_alloc_new _ _, fun h => by omega, fun h => by omega⟩
  case round =>
    obtain ⟨k, hk, rfl, hB, hbox, hza, hzb⟩ := hrel
    obtain ⟨r0, r1, rf⟩ := blk2 hbox.out
    have hwl : w.heap.size < wr.heap.size := (Array.getElem?_eq_some_iff.1 hbox.out).1
    have hsz := hB.size
    match k, hk with
    | 0, _ =>
      by_cases he : ea = 0
      · have he1 : (ea != 0) = false := by simp [he]
        have HE := Lib.hid he; clear he
        go_wp2_with fail
        refine (hca.out wr hB).mono ?_
        rintro e w1 ⟨rfl, hb1⟩
        have hb2 : Hid (w1.heap[w.heap.size]? = some (.cells #[.slice A a.length c, .slice A' b.length c'] 22 (0, 0))) := (hb1.block _ hwl).trans hbox.out
        clear r0 r1 rf
        go_wp2
        go_roundw
        case rel => exact ⟨1, by omega, by go_num, hB.trans (hb1.mono hsz), hb2, fun _ => HE.out, fun h => by omega⟩
        case measure => simp [intOf]
      · have he1 : (ea != 0) = true := by simp [he]
        have HE := Lib.hid he; clear he
        go_wp2_with fail
        refine (hca.out wr hB).mono ?_
        rintro e w1 ⟨rfl, hb1⟩
        clear r0 r1 rf
        go_wp2
        go_ret2
        have herr : mergeErr a b = ea := by rw [mergeErr, hea.out, if_pos HE.out]
        have hm : mergeL a b = [] := by rw [mergeL, herr, if_neg HE.out]
        rw [hm, herr]
        exact ⟨none, 0, rfl, by simp, by simp, SlAt.nil_, hB.trans (hb1.mono hsz)⟩
    | 1, _ =>
      by_cases he : eb = 0
      · have he1 : (eb != 0) = false := by simp [he]
        have HE := Lib.hid he; clear he
        go_wp2_with fail
        refine (hcb.out wr hB).mono ?_
        rintro e w1 ⟨rfl, hb1⟩
        have hb2 : Hid (w1.heap[w.heap.size]? = some (.cells #[.slice A a.length c, .slice A' b.length c'] 22 (0, 0))) := (hb1.block _ hwl).trans hbox.out
        clear r0 r1 rf
        go_wp2
        go_roundw
        case rel => exact ⟨2, by omega, by go_num, hB.trans (hb1.mono hsz), hb2, fun _ => hza.out (by omega), fun _ => HE.out⟩
        case measure => simp [intOf]
      · have he1 : (eb != 0) = true := by simp [he]
        have HE := Lib.hid he; clear he
        go_wp2_with fail
        refine (hcb.out wr hB).mono ?_
        rintro e w1 ⟨rfl, hb1⟩
        clear r0 r1 rf
        go_wp2
        go_ret2
        have herr : mergeErr a b = eb := by rw [mergeErr, hea.out, heb.out, hza.out (by omega)]; simp
        have hm : mergeL a b = [] := by rw [mergeL, herr, if_neg HE.out]
        rw [hm, herr]
        exact ⟨none, 0, rfl, by simp, by simp, SlAt.nil_, hB.trans (hb1.mono hsz)⟩
    | 2, _ =>
      have z1 := hza.out (by omega)
      have z2 := hzb.out (by omega)
      have ha0 : chkN placedN a = 0 := by rw [hea.out, z1]
      have hb0 : chkN placedN b = 0 := by rw [heb.out, z2]
      have herr : mergeErr a b = 0 := by rw [mergeErr, ha0, hb0]; simp
      have hm : mergeL a b = foldS (a ++ b) := by rw [mergeL, herr, if_pos rfl]
      have HERR := Lib.hid herr
      have HMM := Lib.hid hm
      have HALL : Hid (∀ x ∈ a ++ b, placedN x = 0) := fun x hx => by
        rcases List.mem_append.1 hx with hx | hx
        · exact chk_all ha0 x hx
        · exact chk_all hb0 x hx
      clear z1 z2 ha0 hb0 herr hm hza hzb r0 r1 rf
      have hB2 : Below w.heap.size w (wr.alloc (.cells #[.slice A a.length c, .slice A' b.length c'] 22)) := hB.alloc hsz _
      obtain ⟨l1, l2, l3, l4⟩ := HL.out
      have hcc := Lib.hid (concatW_any (some ⟨wr.heap.size, 0, none⟩) 2 [a, b] (wr.alloc (.cells #[.slice A a.length c, .slice A' b.length c'] 22)) (two_at (T := 22) (heap_alloc_new _ _) (by simp [Bl]) (H1.out _ hB2) (H2.out _ hB2) l1 l2 l3 l4) (by simp) (by simp [totL]; omega) (a ++ b) (by simp))
      clear l1 l2 l3 l4
      go_wp2_with fail
      refine hcc.out.mono ?_
      rintro e w1 ⟨A1, c1, rfl, hs1, hb1⟩
      have hsz1 := hb1.size
      simp only [World.size_alloc] at hsz1
      have hef := Lib.hid (effect_any A1 c1 (a ++ b) w1 hs1 (by simp; omega) HALL.out)
      obtain ⟨ab, hab⟩ : ∃ ab, Hid (ab = a ++ b) := ⟨_, Lib.hid rfl⟩
      rw [← hab.out] at hef HALL HMM ⊢
      clear hs1 hcc
      go_wp2_with fail
      refine hef.out.mono ?_
      rintro e w2 ⟨bm, rfl, hM, hbb, hb2⟩
      have hsz2 := hb2.size
      have hkeys := hM.keys
      have hokM := eff_ok ab HALL.out
      have HK := Lib.hid hkeys
      have hcan := Lib.hid (canonical_any bm (effM ab) w2 hM (Nat.le_trans (keys_len _ hkeys hokM) (by omega)) hokM)
      clear hkeys hokM hM hef
      go_wp2_with fail
      refine hcan.out.mono ?_
      rintro e w3 ⟨A2, c2, rfl, r1, r2, r3, hb3⟩
      have HR := Lib.hid (And.intro r1 (And.intro r2 r3))
      clear r1 r2 r3
      go_wp2
      go_ret2
      obtain ⟨r1, r2, r3⟩ := HR.out
      rw [HERR.out, HMM.out, foldS]
      rw [sortedM_assoc ab HK.out HALL.out] at r1 r3 ⊢
      exact ⟨A2, c2, rfl, r1, r2, r3.more (fun g h => h.mono (by omega) (Nat.le_refl _)), hB2.trans ((hb1.mono (by simp; omega)).trans ((hb2.mono (by omega)).trans (hb3.mono (by omega))))⟩
end Go.Proofs.Ytfahbhjlkdcnpaa

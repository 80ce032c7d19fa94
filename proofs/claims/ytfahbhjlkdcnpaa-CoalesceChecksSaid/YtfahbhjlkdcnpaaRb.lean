/-
  The walk of Fold (the program).
-/
import Derived.Test.YtfahbhjlkdcnpaaRa
set_option linter.unusedVariables false
set_option linter.unusedSimpArgs false
set_option linter.unusedSectionVars false
set_option linter.unnecessarySimpa false
namespace Go.Proofs.Ytfahbhjlkdcnpaa
open Go.RowKit Go.ChangeMaps

theorem placed8 (v s : Int) (n : Nat) (D : Option Addr) (c : Nat) (w : World) (hn : n ≤ 9223372036854775807) (data : List Sec) (hd : data.length = n) (pn : Int) (hp : placedN (v, s, data) = pn) :
    Calls Try.prog 37 #[.agg #[.int .i64 v, .int .i64 s, .slice D n c]] w fun e w' => e = .returned (.int .i64 pn) ∧ Below w.heap.size w w' := by
  subst hp
  exact placed_any v s n D c w hn data hd

set_option maxHeartbeats 2000000 in
theorem fold_any (A : Option Addr) (c : Nat) (l : List Wr) (w : World) (h1 : SlAt encWr w (Bl w.heap.size) A l) (hs : l.length ≤ 9223372036854775807) :
    Calls Try.prog 14 #[.slice A l.length c] w (RetSlN encWr (foldL l) (errOf placedN l) w) := by
  have H1 : Hid (∀ w', Below w.heap.size w w' → SlAt encWr w' (Bl w'.heap.size) A l) := fun w' hb => h1.belowUp hb hb.size
  have H2 : Hid (∀ w', Below w.heap.size w w' → SlAt encWr w' (Bl w.heap.size) A l) := fun w' hb => h1.below hb
  clear h1
  go_enter Try.func14, Try.ntmps14
  go_wp2
  go_loopw [9] (fun i wr => ∃ k : Nat, k ≤ l.length ∧ i = .int .i64 k ∧ Below w.heap.size w wr ∧ Hid (∀ x ∈ l.take k, placedN x = 0)) (fun i _ => l.length - (intOf i).toNat)
  case atStart => exact ⟨0, by omega, rfl, Below.refl _ _, by simp [Hid]⟩
  case round =>
    obtain ⟨k, hk, rfl, hB, hz⟩ := hrel
    by_cases hlt : k < l.length
    · obtain ⟨b, off, D, dc, rfl, hb, g0, g1, g2, hD, hn1, hn2, hi1, hi2⟩ := (H2.out wr hB).wr hlt
      have hbl : b < w.heap.size := hb
      have hnn : (0 : Int) ≤ k := by omega
      have hki : (k : Int) < l.length := by omega
      unfold maxLen at hn2
      have hn3 : l[k].2.2.length ≤ 9223372036854775807 := by omega
      have hsz := hB.size
      obtain ⟨pn, hpn⟩ : ∃ pn, Hid (placedN l[k] = pn) := ⟨placedN l[k], Lib.hid rfl⟩
      by_cases hp0 : pn = 0
      · have hp1 : (pn != 0) = false := by simp [hp0]
        have HP := Lib.hid hp0; clear hp0
        go_wp2_with fail
        refine (placed8 _ _ _ _ _ _ hn3 l[k].2.2 rfl pn hpn.out).mono ?_
        rintro e w1 ⟨rfl, hb1⟩
        have hB1 : Below w.heap.size w w1 := (hB.alloc hsz _).trans (hb1.mono (by simp; omega))
        have HB1 := Lib.hid hB1; clear hB1
        clear g0 g1 g2
        go_wp2
        go_roundw
        case rel =>
          refine ⟨k + 1, hlt, by go_num, HB1.out, ?_⟩
          intro x hx
          rw [List.take_succ_eq_append_getElem hlt] at hx
          rcases List.mem_append.1 hx with hx | hx
          · exact hz.out x hx
          · rw [List.mem_singleton.1 hx, hpn.out, HP.out]
        case measure => simp [intOf]; omega
      · have hp1 : (pn != 0) = true := by simp [hp0]
        have HP := Lib.hid hp0; clear hp0
        go_wp2_with fail
        refine (placed8 _ _ _ _ _ _ hn3 l[k].2.2 rfl pn hpn.out).mono ?_
        rintro e w1 ⟨rfl, hb1⟩
        have hB1 : Below w.heap.size w w1 := (hB.alloc hsz _).trans (hb1.mono (by simp; omega))
        have HB1 := Lib.hid hB1; clear hB1
        clear g0 g1 g2
        go_wp2
        go_ret2
        have herr : errOf placedN l = pn := by
          rw [← hpn.out]
          exact errOf_at hlt hz.out (by rw [hpn.out]; exact HP.out)
        have hf : foldL l = [] := by rw [foldL, herr, if_neg HP.out]
        rw [hf, herr]
        exact ⟨none, 0, rfl, by simp, by simp, SlAt.nil_, HB1.out⟩
    · have hkk : k = l.length := by omega
      subst hkk
      have hall : ∀ x ∈ l, placedN x = 0 := by have := hz.out; rw [List.take_length] at this; exact this
      have herr : errOf placedN l = 0 := errOf_zero hall
      have hf : foldL l = foldS l := by rw [foldL, herr, if_pos rfl]
      have HF := Lib.hid hf
      have HE0 := Lib.hid herr
      have HALL := Lib.hid hall
      clear hz herr hf hall
      go_wp2_with fail
      refine (effect_any A c l wr (H1.out wr hB) hs HALL.out).mono ?_
      rintro e w1 ⟨b, rfl, hM, hbb, hb1⟩
      have hsz := hB.size
      have hsz1 := hb1.size
      have hkeys := hM.keys
      have hokM := eff_ok l HALL.out
      have HK := Lib.hid hkeys
      have hcan := Lib.hid (canonical_any b (effM l) w1 hM (Nat.le_trans (keys_len _ hkeys hokM) (by omega)) hokM)
      clear hkeys hokM hM
      go_wp2_with fail
      refine hcan.out.mono ?_
      rintro e w2 ⟨A2, c2, rfl, r1, r2, r3, hb2⟩
      have HR := Lib.hid (And.intro r1 (And.intro r2 r3))
      clear r1 r2 r3
      go_wp2
      go_ret2
      obtain ⟨r1, r2, r3⟩ := HR.out
      rw [HE0.out, HF.out, foldS]
      rw [sortedM_assoc l HK.out HALL.out] at r1 r3 ⊢
      exact ⟨A2, c2, rfl, r1, r2, r3.more (fun g h => h.mono (by omega) (Nat.le_refl _)), hB.trans ((hb1.mono hsz).trans (hb2.mono (by omega)))⟩
end Go.Proofs.Ytfahbhjlkdcnpaa

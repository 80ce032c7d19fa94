/-
  slices.Concat over sectors: the walk.
-/
import Derived.Test.YthneomehfmjbkaaJi
import Derived.Lib.AppendZerosOnto
set_option linter.unusedVariables false
set_option linter.unusedSimpArgs false
set_option linter.unusedSectionVars false
set_option linter.unnecessarySimpa false
namespace Go.Proofs.Ythneomehfmjbkaa
open Go.RowKit Go.Shelf
attribute [local go_sem] Oper.semAt_some

theorem growSec (n : Nat) (w : World) (hn : n ≤ 100000) : Calls Try.prog 53 #[.slice none 0 0, .int .i64 n] w fun e w' => ∃ A c, e = .returned (.slice A 0 c) ∧ (∀ S : Nat → Prop, (∀ b, S b → b < w.heap.size) → Own encSec w' w.heap.size 50 S (.slice A 0 c) []) ∧ Below w.heap.size w w' := by
  by_cases h0 : n = 0
  · subst h0
    go_enter Try.func53, Try.ntmps53
    go_wp2
    go_ret
    exact ⟨none, 0, rfl, fun _ _ => Own.nil_, Below.refl _ _⟩
  · obtain ⟨i, z, hi, hz, hsz, hby, hzs⟩ := (tySecs11).info
    have hold : (Builtin.firstCells i.size 0 (.slice none 0 0)).run Try.prog w.drew = .ok #[] w.drew := run_firstCells_none w.drew i.size 0 0 0
    have hg0 : 0 < 0 + n := by omega
    have hb1 : n * i.bytes ≤ 281474976710656 := by rw [hby]; omega
    have hb2 : (0 + n) * i.bytes ≤ 140737488355328 := by rw [hby]; omega
    have hr := fun ty => Lib.run_append_grow_zeros (P := Try.prog) w 22 3 ty 50 i z .i64 .i64 Try.underlying22 Try.underlying3 hi hz none 0 0 [] hold n (by omega) (by rw [hsz]; decide) hg0 (by omega) hb1 (growslice_fits hg0 hb2)
    have hG1 := grownCap_ge w (0 + n) 0 50
    have hG2 := grownCap_le_maxLen w (0 + n) 0 50 (by unfold maxLen; omega)
    obtain ⟨G, hG⟩ : ∃ G, grownCap w (0 + n) 0 50 = G := ⟨_, rfl⟩
    rw [hG] at hr hG1 hG2
    obtain ⟨cur, hcur⟩ : ∃ cur : Array Value, (([] : List Value).toArray ++ Builtin.zeroCells z.cells n ++ Builtin.zeroCells z.cells (G - (0 + n))) = cur := ⟨_, rfl⟩
    have hsize : cur.size = G * (encSec).size := by
      rw [← hcur, Array.size_append, Array.size_append, size_zeroCells, size_zeroCells, hzs]
      show 0 + n * (encSec).size + (G - (0 + n)) * (encSec).size = G * (encSec).size
      rw [Nat.zero_add, ← Nat.add_mul, show n + (G - (0 + n)) = G by omega]
    rw [hcur] at hr
    have hO : Hid (∀ S : Nat → Prop, (∀ b, S b → b < w.heap.size) → Own encSec (w.drew.alloc (.cells cur 50)) w.heap.size 50 S (.slice (some ⟨w.heap.size, 0, none⟩) 0 G) []) := fun S hS =>
      Own.make0 (w := w.drew) (Nat.le_refl _) hG2 hsize (fun h => Nat.lt_irrefl _ (hS _ h))
    have e1 : ((0 + n : Nat) : Int) = (n : Int) := by simp
    have hn0 : (0 : Int) < n := by omega
    simp only [Nat.zero_add] at hr
    have hGi : (n : Int) ≤ G := by omega
    unfold maxLen at hG2
    clear hi hz hsz hby hzs hold hb1 hb2 hG hcur hsize hG1
    go_enter Try.func53, Try.ntmps53
    go_wp2_with (at_builtin; refine Lib.wpList_append_run _ rfl _ _ _ _ rfl _ _ rfl rfl _ _ (hr _) ?_)
    all_goals (go_ret; exact ⟨_, _, rfl, hO.out, (Below.refl _ w).drew.alloc (Nat.le_refl _) _⟩)
set_option maxHeartbeats 1000000 in
theorem concatSec (A : Option Addr) (c n N : Nat) (ls : List (List _)) (w : World) (hn : ls.length = n) (h1 : SlAt (encSl encSec) w (Bl w.heap.size) A ls) (hN : ls.flatten.length = N) (hl : N ≤ 100000) (hn4 : n ≤ 100000) :
    Calls Try.prog 34 #[.slice A n c] w fun e w' => ∃ A c, e = .returned (.slice A N c) ∧ Own encSec w' w.heap.size 50 (Bl w.heap.size) (.slice A N c) ls.flatten ∧ Below w.heap.size w w' := by
  subst hn
  have H1 : Hid (∀ w', Below w.heap.size w w' → SlAt (encSl encSec) w' (Bl w.heap.size) A ls) := fun w' hb => h1.below hb
  clear h1
  have hpre : ∀ k, (ls.take k).flatten.length ≤ N := fun k => by
    rw [← hN]
    conv => rhs; rw [← List.take_append_drop k ls]
    rw [List.flatten_append, List.length_append]; omega
  have HP := Lib.hid hpre; clear hpre
  have HN := Lib.hid hN; clear hN
  have HG := Lib.hid (fun W => growSec N W hl)
  have hl64 : (N : Int) ≤ 100000 := by omega
  go_enter Try.func34, Try.ntmps34
  go_wp2
  go_loopw [3, 11] (fun sz i wr => ∃ (k q : Nat), k ≤ ls.length ∧ i = .int .i64 k ∧ sz = .int .i64 q ∧ Hid (q = (ls.take k).flatten.length) ∧ Drew w wr) (fun _ i _ => ls.length - (intOf i).toNat)
  case atStart => exact ⟨0, 0, by omega, rfl, rfl, by simp [Hid], Drew.refl _⟩
  case round =>
    obtain ⟨wo, rfl⟩ : ∃ wo : World, wo = wr := ⟨_, rfl⟩
    obtain ⟨k, q, hk, rfl, rfl, hq, hd⟩ := hrel
    have hqN : q ≤ N := by rw [hq.out]; exact HP.out k
    by_cases hlt : k < ls.length
    · obtain ⟨b, off, D, dc, rfl, hb, g0, hD, hd1, hd2⟩ := (H1.out wo (hd.below _)).sl hlt
      have hst : Hid (q + (ls[k]'hlt).length = (ls.take (k + 1)).flatten.length) := by rw [Hid, hq.out, List.take_succ_eq_append_getElem hlt, List.flatten_append, List.flatten_singleton, List.length_append]
      have hst2 : q + (ls[k]'hlt).length ≤ N := by rw [hst.out]; exact HP.out _
      obtain ⟨x, hx⟩ : ∃ x, Hid (x = ls[k]'hlt) := ⟨_, Lib.hid rfl⟩
      rw [← hx.out] at g0 hst hst2
      have hnn : (0 : Int) ≤ k := by omega
      have hki : (k : Int) < ls.length := by omega
      have hneg : ¬ (q : Int) + (x.length : Int) < 0 := by omega
      clear hD hd1 hd2
      go_wp2
      go_roundw
      case rel => exact ⟨k + 1, q + x.length, hlt, by go_num, by go_num, hst.out, hd⟩
      case measure => simp [intOf]; omega
    · have hkk : k = ls.length := by omega
      subst hkk
      have hqn : q = N := by rw [hq.out, List.take_length]; exact HN.out
      subst hqn
      have hB0 : Below w.heap.size w wo := hd.below _
      clear hqN hq hd HP
      go_wp2_with fail
      refine (HG.out wo).mono ?_
      rintro e w1 ⟨A1, c1, rfl, hO1, hb1⟩
      have hB1 : Below w.heap.size w w1 := hB0.trans (hb1.mono hB0.size)
      have HO1 : Hid (Own encSec w1 w.heap.size 50 (Bl w.heap.size) (.slice A1 0 c1) []) := by
        have h := hO1 (Bl w.heap.size) (fun b hb => Nat.lt_of_lt_of_le hb hB0.size)
        obtain ⟨css, ⟨k0, k1⟩, k2, k3⟩ := h
        refine ⟨css, ⟨k0, ?_⟩, k2, k3⟩
        rcases k1 with k1 | ⟨g, cap, cur, e1, hg, r⟩
        · exact Or.inl k1
        · exact Or.inr ⟨g, cap, cur, e1, Nat.le_trans hB0.size hg, r⟩
      clear hO1 HG
      go_wp2
      go_loopw [6, 27] (fun v i wr => ∃ (k : Nat) (B : Option Addr) (vc : Nat) (out : List _), k ≤ ls.length ∧ i = .int .i64 k ∧ v = .slice B out.length vc ∧ Hid (out = (ls.take k).flatten) ∧ Below w.heap.size w wr ∧ Hid (Own encSec wr w.heap.size 50 (Bl w.heap.size) (.slice B out.length vc) out)) (fun _ i _ => ls.length - (intOf i).toNat)
      case atStart => exact ⟨0, A1, c1, [], by omega, rfl, rfl, by simp [Hid], hB1, HO1.out⟩
      case round =>
        obtain ⟨wo2, rfl⟩ : ∃ wo : World, wo = wr := ⟨_, rfl⟩
        obtain ⟨k, B, vc, out, hk, rfl, rfl, hout, hB, hown⟩ := hrel
        by_cases hlt : k < ls.length
        · obtain ⟨b, off, D, dc, he, hb, g0, hD, hd1, hd2⟩ := (H1.out wo2 hB).sl hlt
          subst he
          have hst : Hid (out ++ (ls[k]'hlt) = (ls.take (k + 1)).flatten) := by rw [Hid, hout.out, List.take_succ_eq_append_getElem hlt, List.flatten_append, List.flatten_singleton]
          have hst2 : out.length + (ls[k]'hlt).length ≤ q := by
            rw [← List.length_append, hst.out, ← HN.out]
            conv => rhs; rw [← List.take_append_drop (k + 1) ls]
            rw [List.flatten_append, List.length_append]; omega
          obtain ⟨x, hx⟩ : ∃ x, Hid (x = ls[k]'hlt) := ⟨_, Lib.hid rfl⟩
          rw [← hx.out] at g0 hst hst2 hD hd1
          have hDh := Lib.hid hD; clear hD
          have hnn : (0 : Int) ≤ k := by omega
          have hki : (k : Int) < ls.length := by omega
          have hszw := hB.size
          go_wp2_with (at_builtin; refine Hid.out ?_)
          change wpList _ _ _ _ _ _
          refine wpList_appAll (E := encSec) tySecs11 rfl _ _ rfl rfl hown.out rfl rfl hDh.out (fun g hg => Nat.lt_of_lt_of_le hg hszw) hszw (by unfold maxLen; omega) (by omega) ?_
          intro A5 c5 w5 hown5 hg5 hat5
          have hB5 := Lib.hid (hB.grown hg5 hszw (fun g h => (hown.out.lt g h).1))
          have HO5 : Hid (Own encSec w5 w.heap.size 50 (Bl w.heap.size) (.slice A5 (out ++ x).length c5) (out ++ x)) := by rw [List.length_append]; exact hown5
          clear hown5 hg5 hat5 hd1 hd2 g0
          go_wp2
          go_roundw
          case rel => exact ⟨k + 1, A5, c5, out ++ x, hlt, by go_num, by simp, hst.out, hB5.out, HO5.out⟩
          case measure => simp [intOf]; omega
        · have hkk : k = ls.length := by omega
          subst hkk
          go_wp2
          go_ret
          have e := hout.out
          rw [List.take_length] at e
          have el : out.length = q := by rw [e]; exact HN.out
          refine ⟨B, vc, by rw [← el]; rfl, ?_, hB⟩
          rw [← e, ← el]
          exact hown.out
end Go.Proofs.Ythneomehfmjbkaa

/-
  Complement, and the extents of a list of writes.
-/
import Derived.Test.YtgmeghandjkkcaaGreatUm
import Derived.Test.YtgmeghandjkkcaaGreatRc
import Derived.Test.YtgmeghandjkkcaaGreatPg
set_option linter.unusedVariables false
set_option linter.unusedSimpArgs false
set_option linter.unusedSectionVars false
set_option linter.unnecessarySimpa false
namespace Go.Proofs.YtgmeghandjkkcaaGreat
open Go.RowKit Go.Shelf

set_option maxHeartbeats 2000000 in
theorem extents_any (A : Option Addr) (c : Nat) (l : List Wr) (V : Int) (w : World) (h1 : SlAt encWr w (Bl w.heap.size) A l) (hs : l.length ≤ 100000) (hV : I64 V) :
    Calls Tryz.prog 51 #[.slice A l.length c, .int .i64 V] w (RetSl encExt (runsL (secsOf l V)) w) := by
  have H1 : Hid (∀ w', Below w.heap.size w w' → SlAt encWr w' (Bl w.heap.size) A l) := fun w' hb => h1.below hb
  clear h1
  go_enter Tryz.func51, Tryz.ntmps51
  go_wp2
  go_loopw [5, 10] (fun v i wr => ∃ (k : Nat) (B : Option Addr) (vc : Nat) (out : List Ext), k ≤ l.length ∧ i = .int .i64 k ∧ v = .slice B out.length vc ∧ Below w.heap.size w wr ∧ Hid (out = extL (l.take k) V) ∧ Hid (OwnW encExt wr w.heap.size w.heap.size 104 (.slice B out.length vc) out)) (fun _ i _ => l.length - (intOf i).toNat)
  case atStart => exact ⟨0, none, 0, [], by omega, rfl, rfl, Below.refl _ _, by simp [Hid, extL], OwnW.nil_⟩
  case round =>
    obtain ⟨k, B, vc, out, hk, rfl, rfl, hB, hout, hown⟩ := hrel
    have hol : out.length ≤ 100000 := by
      have h3 := extL_len (l.take k) V
      have h4 : (l.take k).length ≤ l.length := by rw [List.length_take]; omega
      rw [hout.out]; omega
    by_cases hlt : k < l.length
    · obtain ⟨b, off, D, dc, rfl, hb, g0, g1, g2, hD, hn1, hn2, hi1, hi2⟩ := (H1.out wr hB).wr hlt
      have hnn : (0 : Int) ≤ k := by omega
      have hki : (k : Int) < l.length := by omega
      have hsz := hB.size
      unfold maxLen at hn2
      obtain ⟨y, hy⟩ : ∃ y, Hid (y = l[k]'hlt) := ⟨_, Lib.hid rfl⟩
      rw [← hy.out] at g0 g1 g2 hn1 hi1 hi2
      obtain ⟨v, s, data⟩ := y
      simp only at g0 g1 g2 hn1 hi1 hi2
      have hst : Hid (extL (l.take (k + 1)) V = out ++ (if v = V then [(s, (data.length : Int))] else [])) := by
        rw [Hid, List.take_succ_eq_append_getElem hlt, extL_snoc, ← hout.out, ← hy.out]
      by_cases hv : v = V
      · have hvb : (v == V) = true := by simp [hv]
        have HV := Lib.hid hv; clear hv
        have HO1 := Lib.hid (Own.alloc (Own.alloc hown.out (fun _ h => h.1.2) (.cells #[.int .i64 v, .int .i64 s, .slice D data.length dc] 70)) (fun _ h => by simp; have := h.1.2; omega) (.cells #[.int .i64 s, .int .i64 data.length] 104))
        have HRD : Hid (encExt.rd ((wr.alloc (.cells #[.int .i64 v, .int .i64 s, .slice D data.length dc] 70)).alloc (.cells #[.int .i64 s, .int .i64 data.length] 104)) (fun b => Nw w.heap.size wr.heap.size b ∧ (Value.slice B out.length vc).ownBlock ≠ some b) [.int .i64 s, .int .i64 data.length] (s, (data.length : Int))) := ext_mk (x := (s, (data.length : Int))) hi2 (by unfold I64; simp only; omega)
        clear hi1 hi2
        go_wp2_with (at_builtin; refine Hid.out ?_)
        change wpList _ _ _ _ _ _
        refine wpList_app1 (E := encExt) tyExts rfl _ _ rfl rfl HO1.out (s, (data.length : Int)) [.int .i64 s, .int .i64 data.length] rfl HRD.out (heap_new2 _ _ _) (fun _ h => by simp; have := h.1.2; omega) (by simp; omega) (by unfold maxLen; omega) (by omega) ?_
        intro A' c' w5 hown5 hg5 hat5
        have hlt1 : ∀ g, (Value.slice B out.length vc).ownBlock = some g → g < wr.heap.size := fun g hg => (hown.out.lt g hg).2
        have hok5 := Lib.hid (OwnW.app (hown5.more (S' := fun b => Nw w.heap.size ((wr.alloc (.cells #[.int .i64 v, .int .i64 s, .slice D data.length dc] 70)).alloc (.cells #[.int .i64 s, .int .i64 data.length] 104)).heap.size b ∧ (Value.slice B out.length vc).ownBlock ≠ some b) (fun b hb => ⟨hb.1.mono (Nat.le_refl _) (by simp; omega), hb.2⟩) (OwnW_new hown5 hat5 hlt1 (by simp; omega))) hg5 hat5)
        have hB5 := Lib.hid ((ext_alloc (o := .cells #[.int .i64 s, .int .i64 data.length] 104) (ext_alloc (o := .cells #[.int .i64 v, .int .i64 s, .slice D data.length dc] 70) hB)).grown hg5 (by simp; omega) (fun g h => (hown.out.lt g h).1))
        clear hown5 hg5 hat5 hlt1 g0 g1 g2
        go_wp2
        go_roundw
        case rel => exact ⟨k + 1, A', c', out ++ [(s, (data.length : Int))], hlt, by go_num, by simp, hB5.out, by rw [Hid, hst.out, if_pos HV.out], by have := hok5.out; simpa [Hid] using this⟩
        case measure => simp [intOf]; omega
      · have hvb : (v == V) = false := by simp [hv]
        have HV := Lib.hid hv; clear hv
        have HO1 := Lib.hid (hown.out.below ((Below.refl _ _).alloc (Nat.le_refl _) (.cells #[.int .i64 v, .int .i64 s, .slice D data.length dc] 70)))
        go_wp2
        go_roundw
        case rel => exact ⟨k + 1, B, vc, out, hlt, by go_num, rfl, ext_alloc hB, by rw [Hid, hst.out, if_neg HV.out, List.append_nil], HO1.out⟩
        case measure => simp [intOf]; omega
    · have hkk : k = l.length := by omega
      subst hkk
      obtain ⟨_, p1, p2, p3⟩ := hown.out.parts
      have hext : opL or out [] = runsL (secsOf l V) := by
        rw [hout.out, List.take_length]
        exact extents_law l V
      have HC := Lib.hid (union_any B none vc 0 out.length 0 out [] _ rfl rfl hext wr (p3.more (fun _ h => h.2)) SlAt.nil_ hol (by omega) ⟨p1, p2⟩ ⟨Nat.le_refl _, by unfold maxLen; omega⟩)
      have hsz := hB.size
      clear hext p3
      go_wp2_with fail
      refine HC.out.mono ?_
      rintro e w1 ⟨Q, qc, rfl, k2, k3, k4, k5⟩
      have HK4 := Lib.hid k4; clear k4
      go_wp2
      go_ret
      exact ⟨Q, qc, rfl, k2, k3, HK4.out.more (fun g h => h.mono hsz (Nat.le_refl _)), ext_trans hB k5⟩
end Go.Proofs.YtgmeghandjkkcaaGreat

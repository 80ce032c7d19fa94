/-
  slices.AppendSeq and slices.Collect over an iterator of extents.
-/
import Derived.Test.YthneomehfmjbkaaLaws
import Derived.Test.YthneomehfmjbkaaProg
set_option linter.unusedVariables false
set_option linter.unusedSimpArgs false
set_option linter.unusedSectionVars false
set_option linter.unnecessarySimpa false
namespace Go.Proofs.Ythneomehfmjbkaa
open Go.RowKit Go.Shelf
attribute [local go_sem] Oper.semAt_some

abbrev ExtI := { e : Ext // I64 e.1 ∧ I64 e.2 }
def extArgs (x : ExtI) : Array Value := #[.agg #[.int .i64 x.1.1, .int .i64 x.1.2]]
theorem tyExtsI : SliceTy Try.prog 40 35 2 16 := sliceTy_mk (z := .agg #[.int .i64 0, .int .i64 0]) Try.underlying40 (by kernel_rfl) rfl (by decide)
/-- a slice of all that an iterator has given -/
def SeqExt (S : List ExtI → Prop) (w : World) (e : Ending) (W' : World) : Prop := ∃ (ys : List ExtI) (A : Option Addr) (c : Nat), S ys ∧ e = .returned (.slice A ys.length c) ∧ ys.length ≤ c ∧ c ≤ maxLen ∧ SlAt encExt W' (Nw w.heap.size W'.heap.size) A (ys.map (·.1)) ∧ Below w.heap.size w W'
set_option maxRecDepth 100000 in
set_option maxHeartbeats 2000000 in
theorem appendSeqExt_in (n : Nat) (hn : 3 ≤ n) (own : TypeId → Prop) (ho1 : ¬ own 40) (ho2 : ¬ own 35) (gf : Nat) (lb : Array Value) (eg : ∀ args w, (callFunc gf args).run Try.prog w = .ok (.enter gf args) w) (S Sp : List ExtI → Prop) (N : Nat) (hN : N ≤ 1000000) (w : World)
    (hseq : SeqStopsT own Fence.wide (n - 1) Try.prog gf lb extArgs (KpT own w.heap.size) S Sp N w) (hS : ∀ ys, S ys → ys.length ≤ N) :
    CallsIn Fence.wide n Try.prog 65 #[.slice none 0 0, .func (.func gf) #[] lb] w (SeqExt S w) := by
  have h1 : 1 ≤ n := by omega
  have HS := Lib.hid hS; clear hS
  refine callsIn_of_wp_marks Try.func65 rfl trivial ?_ rfl
  simp only [Try.ntmps65, List.size_toArray, List.length_cons, List.length_nil, Nat.reduceAdd, Nat.reduceSub, Array.replicate_succ, Array.replicate_zero, List.push_toArray, List.append_toArray, List.nil_append, List.cons_append]
  gi_wp2
  have bS := Boxed.new w 40 (.slice none 0 0)
  have hB0 : Below w.heap.size w (w.alloc (.cells #[.slice none 0 0] 40)) := ext_alloc (Below.refl _ _)
  refine wpIn_rangeFunc_ownT rfl h1 (gf := gf) (lb := lb) (own := own) rfl trivial eg hseq (fun h k => KpT.trans h k) (fun W l o o' hl h ho _ => KpT.putObj W l o o' (by simp at hl; omega) h ho (by have := (Array.getElem?_eq_some_iff.1 h).1; simp at hl; omega)) hB0 (fun _ => rfl)
    (fun pre W => BoxOwn encExt w.heap.size w.heap.size 40 35 (pre.map (·.1)) W ∧ Below w.heap.size w W)
    (fun _ _ _ => False)
    (OwnT.and (boxOwn_ownT (fun pre : List ExtI => pre.map (·.1)) ho1 ho2) (ownT_below (Nat.le_refl _) (by simp)))
    (fun _ _ _ _ _ hs _ _ => hs)
    ⟨⟨_, bS, Own.nil_⟩, hB0⟩
    (fun x a' W => ∃ Bx, w.heap.size < Bx ∧ W.heap[Bx]? = some (.cells #[.int .i64 x.1.1, .int .i64 x.1.2] 35 (0, 0)) ∧ a' = { tmps := #[.slice none 0 0, .func (.func gf) #[] lb, .pointer (some ⟨w.heap.size, 0, none⟩), undef, .slice none 0 0, .pointer (some ⟨Bx, 0, none⟩), .func (.func gf) #[] lb, .agg #[.int .i64 x.1.1, .int .i64 x.1.2], undef, undef, undef, undef, undef], defers := [] }) ?hAx ?assign ?body ?done ?stop
  case hAx =>
    rintro x a' s X Y row ⟨Bx, hb, hh, he⟩ hg hr
    refine ⟨Bx, hb, (hg.block Bx (Array.getElem?_eq_some_iff.1 hh).1 (fun e => ?_)).trans hh, he⟩
    obtain ⟨_, o', h1, h2⟩ := hr Bx e.symm
    rw [hh] at h1; cases h1; cases h2
  case assign =>
    rintro l pre x W K ⟨hi, hB⟩ hK
    unfold extArgs
    gi_wp2
    obtain ⟨v, hv, hrow⟩ := hi
    refine hK _ _ ((KeepsOthers.alloc _ _).from _) (KpT.alloc _ _ hB.size) ⟨BoxOwn.alloc ⟨v, hv, hrow⟩ _, ext_alloc hB⟩ ⟨W.heap.size, hv.lt, heap_alloc_new _ _, rfl⟩
  case body =>
    rintro l pre x a' W _ _ ⟨⟨v, hv, hrow⟩, hB⟩ ⟨Bx, hBx, hbx, rfl⟩ hlen
    have hc := hv.cell
    have hsz := hB.size
    obtain ⟨t0, tf⟩ : W.cell? ⟨Bx, 0, none⟩ = some (.int .i64 x.1.1) ∧ W.cell? ⟨Bx, 1, none⟩ = some (.int .i64 x.1.2) := ⟨cell_of_row W Bx 0 _ _ _ hbx, cell_of_row W Bx 1 _ _ _ hbx⟩
    have hpl : (pre.map (·.1)).length = pre.length := List.length_map ..
    have HPL := Lib.hid hpl; clear hpl
    have HO1 := Lib.hid (hrow.alloc (fun _ h => h.elim) (.cells #[.int .i64 x.1.1, .int .i64 x.1.2] 35))
    have HRD : Hid (encExt.rd (W.alloc (.cells #[.int .i64 x.1.1, .int .i64 x.1.2] 35)) (fun _ => False) [.int .i64 x.1.1, .int .i64 x.1.2] x.1) := ext_mk x.2.1 x.2.2
    gi_wp2_with (gi_at_builtin; refine Hid.out ?_)
    change wpListIn _ _ _ _ _ _ _ _
    refine wpListIn_app1 (E := encExt) tyExtsI rfl _ _ rfl rfl HO1.out x.1 _ rfl HRD.out (heap_alloc_new _ _) (fun _ h => h.elim) (by simp; omega) (by rw [HPL.out]; unfold maxLen; omega) (by rw [HPL.out]; omega) ?_
    intro A' c' w5 hown5 hg5 hat5
    obtain ⟨hv5, hbo5, hk5, hkp5⟩ := BoxOwn.appended hv (by decide) ho1 ho2 hrow hsz (Nat.le_refl _) hown5 hg5
    have hc5 := hv5.cell
    have hf5 := hv5.frozen
    simp only [List.length_map] at hbo5 hk5 hkp5
    have HB5 := Lib.hid hbo5; have HK5 := Lib.hid hk5; have HKP5 := Lib.hid hkp5
    clear hown5 hg5 hat5 hbo5 hk5 hkp5
    gi_wp2
    exact ⟨HK5.out.from _, HKP5.out, by rw [List.map_append]; exact HB5.out, hB.trans HKP5.out.1⟩
  case done =>
    rintro D ys W hD hS ⟨⟨v, hv, hrow⟩, hB⟩ hK
    obtain ⟨A, c, rfl⟩ := hrow.form
    have hc := hv.cell
    simp only [List.length_map] at hc
    have hrow2 : Own encExt (W.putObj D (.deferred none)) w.heap.size 35 (fun _ => False) (.slice A (ys.map (·.1)).length c) (ys.map (·.1)) := hrow.blk (fun g hg => by
      rcases hg with hg | hg
      · exact hg.elim
      · obtain ⟨_, cs, fr, hh⟩ := hrow.cellsOf g hg
        exact World.putObj_heap_other (fun e => by subst e; rw [hK] at hh; cases hh))
    have HR := Lib.hid hrow2; clear hrow2 hrow hv
    gi_wp2
    refine ⟨by simp, .inl ⟨_, _, rfl, run_takeDeferred hK, ?_⟩⟩
    obtain ⟨A', c', he, r1, r2, r3⟩ := HR.out.rd (fun _ h => h.elim)
    simp only [List.cons.injEq, Value.slice.injEq, and_true] at he
    obtain ⟨rfl, _, rfl⟩ := he
    simp only [List.length_map] at r1
    simp at hD
    exact ⟨_, results_tmp rfl _ _ _, ys, A, c, hS, rfl, r1, r2, r3, hB.grown (grownBy_putObj' W D (.deferred none)) hB.size (fun k e => by cases e; omega)⟩
  case stop =>
    rintro D c pre W _ _ h _
    exact h.elim
set_option maxHeartbeats 1000000 in
theorem collectExt_in (n : Nat) (hn : 4 ≤ n) (own : TypeId → Prop) (ho1 : ¬ own 40) (ho2 : ¬ own 35) (gf : Nat) (lb : Array Value) (eg : ∀ args w, (callFunc gf args).run Try.prog w = .ok (.enter gf args) w) (S Sp : List ExtI → Prop) (N : Nat) (hN : N ≤ 1000000) (w : World)
    (hseq : SeqStopsT own Fence.wide (n - 1 - 1) Try.prog gf lb extArgs (KpT own w.heap.size) S Sp N w) (hS : ∀ ys, S ys → ys.length ≤ N) :
    CallsIn Fence.wide n Try.prog 61 #[.func (.func gf) #[] lb] w (SeqExt S w) := by
  have HC := Lib.hid (appendSeqExt_in (n - 1) (by omega) own ho1 ho2 gf lb eg S Sp N hN w hseq hS)
  clear hseq hS
  refine callsIn_of_wp Try.func61 rfl trivial ?_ rfl
  simp only [Try.ntmps61, List.size_toArray, List.length_cons, List.length_nil, Nat.reduceAdd, Nat.reduceSub, Array.replicate_succ, Array.replicate_zero, List.push_toArray, List.append_toArray, List.nil_append, List.cons_append]
  gi_wp2_with fail
  refine ⟨trivial, fun _ => by omega, CallsIn.mono HC.out ?_⟩
  rintro e w1 ⟨ys, A, c, k1, rfl, k2, k3, k4, k5⟩
  have HK4 := Lib.hid k4; clear k4
  gi_wp2
  go_ret
  exact ⟨ys, A, c, k1, rfl, k2, k3, HK4.out, k5⟩
end Go.Proofs.Ythneomehfmjbkaa

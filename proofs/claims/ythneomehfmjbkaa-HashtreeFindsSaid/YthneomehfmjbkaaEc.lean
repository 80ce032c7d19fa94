/-
  The set operations on extents: Union, Intersect, Subtract.
-/
import Derived.Test.YthneomehfmjbkaaUc
set_option linter.unusedVariables false
set_option linter.unusedSimpArgs false
set_option linter.unusedSectionVars false
set_option linter.unnecessarySimpa false
namespace Go.Proofs.Ythneomehfmjbkaa
open Go.RowKit Go.Shelf
attribute [local go_sem] Oper.semAt_some

theorem sweep_any (A A' : Option Addr) (n c m c' kf : Nat) (w : World) : Calls Try.prog 62 #[.slice A n c, .slice A' m c', .func (.func kf) #[] #[]] w fun e w' => e = .returned (.func (.func 66) #[] #[.pointer (some ⟨w.heap.size, 0, none⟩), .pointer (some ⟨w.heap.size + 1, 0, none⟩), .pointer (some ⟨w.heap.size + 1 + 1, 0, none⟩)]) ∧
    w' = ((w.alloc (.cells #[.slice A n c] 40)).alloc (.cells #[.slice A' m c'] 40)).alloc (.cells #[.func (.func kf) #[] #[]] 108) := by
  go_enter Try.func62, Try.ntmps62
  go_wp2
  go_ret
  exact ⟨rfl, rfl⟩
def opSeq (keep : Bool → Bool → Bool) (a b : List Ext) (ys : List ExtI) : Prop := ys.map (·.1) = opL keep a b
theorem sweep_stops {kf : Nat} {keep : Bool → Bool → Bool} (hkf : KeepFn kf keep) (n : Nat) (hn : 3 ≤ n) (A A' : Option Addr) (c c' B1 B2 B3 : Nat) (a b : List Ext) (w : World)
    (h1 : w.cell? ⟨B1, 0, none⟩ = some (.slice A a.length c)) (h2 : w.cell? ⟨B2, 0, none⟩ = some (.slice A' b.length c')) (h3 : w.cell? ⟨B3, 0, none⟩ = some (.func (.func kf) #[] #[])) (l1 : B1 < w.heap.size) (l2 : B2 < w.heap.size) (l3 : B3 < w.heap.size) (ha : SlAt encExt w (Bl w.heap.size) A a) (hb : SlAt encExt w (Bl w.heap.size) A' b) (hla : a.length ≤ 100000) (hlb : b.length ≤ 100000) (hca : a.length ≤ c ∧ c ≤ maxLen) (hcb : b.length ≤ c' ∧ c' ≤ maxLen) :
    SeqStopsT swOwn Fence.wide n Try.prog 66 #[.pointer (some ⟨B1, 0, none⟩), .pointer (some ⟨B2, 0, none⟩), .pointer (some ⟨B3, 0, none⟩)] extArgs (KpT swOwn w.heap.size) (opSeq keep a b) (fun pre => pre.map (·.1) <+: opL keep a b) 1000000 w :=
  fun l J Jx W hW hJ _ hY h0 => sweep_in kf keep hkf n hn l B1 B2 B3 w.heap.size A A' c c' a b J Jx hY W hW.size hJ ((hW.cell (p := ⟨B1, 0, none⟩) l1).trans h1) ((hW.cell (p := ⟨B2, 0, none⟩) l2).trans h2) ((hW.cell (p := ⟨B3, 0, none⟩) l3).trans h3) l3 h0 (ha.fwd hW) (hb.fwd hW) hla hlb hca hcb
theorem opSeq_len {keep : Bool → Bool → Bool} {a b : List Ext} (ys : List ExtI) (h : opSeq keep a b ys) : ys.length ≤ 1000000 := by
  have := congrArg List.length h
  rw [List.length_map] at this
  have := (opL_bound keep a b).2
  omega
theorem alloc3_cells (w : World) (o1 o2 o3 : Obj) : (((w.alloc o1).alloc o2).alloc o3).heap[w.heap.size]? = some o1 ∧ (((w.alloc o1).alloc o2).alloc o3).heap[w.heap.size + 1]? = some o2 ∧ (((w.alloc o1).alloc o2).alloc o3).heap[w.heap.size + 1 + 1]? = some o3 := by
  refine ⟨?_, ?_, ?_⟩
  · exact (Below.heap_alloc _ _ _ (by simp <;> omega)).trans ((Below.heap_alloc _ _ _ (by simp)).trans (heap_alloc_new _ _))
  · exact (Below.heap_alloc _ _ _ (by simp)).trans (heap_new2 _ _ _)
  · exact heap_new3 _ _ _ _
theorem keepU : KeepFn 63 or := ⟨enters_of Try.func63 (by kernel_rfl) rfl, union1_any, rfl⟩
theorem union_any (A A' : Option Addr) (c c' n m : Nat) (a b r : List Ext) (hn : a.length = n) (hm : b.length = m) (hr : opL or a b = r) (w : World) (h1 : SlAt encExt w (Bl w.heap.size) A a) (h2 : SlAt encExt w (Bl w.heap.size) A' b) (hla : n ≤ 100000) (hlb : m ≤ 100000) (hca : n ≤ c ∧ c ≤ maxLen) (hcb : m ≤ c' ∧ c' ≤ maxLen) :
    Calls Try.prog 46 #[.slice A n c, .slice A' m c'] w (RetSl encExt r w) := by
  subst hn hm hr
  obtain ⟨n, hn⟩ : ∃ n : Nat, 10 ≤ n := ⟨10, Nat.le_refl _⟩
  have hB3 : Below w.heap.size w (((w.alloc (.cells #[.slice A a.length c] 40)).alloc (.cells #[.slice A' b.length c'] 40)).alloc (.cells #[.func (.func 63) #[] #[]] 108)) := ext_alloc (ext_alloc (ext_alloc (Below.refl _ _)))
  have hc3 := alloc3_cells w (.cells #[.slice A a.length c] 40) (.cells #[.slice A' b.length c'] 40) (.cells #[.func (.func 63) #[] #[]] 108)
  have hstop := sweep_stops (keepU) (n - 1 - 1 - 1) (by omega) A A' c c' _ _ _ a b _ (cell_of_row _ _ 0 _ _ _ hc3.1) (cell_of_row _ _ 0 _ _ _ hc3.2.1) (cell_of_row _ _ 0 _ _ _ hc3.2.2) (by simp <;> omega) (by simp <;> omega) (by simp) (h1.fwd hB3) (h2.fwd hB3) hla hlb hca hcb
  have HC := Lib.hid (collectExt_in (n - 1) (by omega) swOwn (by unfold swOwn; decide) (by unfold swOwn; decide) 66 _ (enters_of Try.func66 (by kernel_rfl) rfl) (opSeq or a b) _ 1000000 (Nat.le_refl _) _ hstop opSeq_len)
  clear hstop hc3 h1 h2
  refine (callsIn_wide (n := n)).1 ?_
  refine callsIn_of_wp Try.func46 rfl trivial ?_ rfl
  simp only [Try.ntmps46, List.size_toArray, List.length_cons, List.length_nil, Nat.reduceAdd, Nat.reduceSub, Array.replicate_succ, Array.replicate_zero, List.push_toArray, List.append_toArray, List.nil_append, List.cons_append]
  gi_wp2_with fail
  refine ⟨trivial, fun _ => by omega, CallsIn.mono (callsIn_wide.2 (sweep_any A A' a.length c b.length c' 63 _)) ?_⟩
  rintro e w1 ⟨rfl, rfl⟩
  gi_wp2_with fail
  refine ⟨trivial, fun _ => by omega, CallsIn.mono HC.out ?_⟩
  rintro e w2 ⟨ys, Q, qc, k1, rfl, k2, k3, k4, k5⟩
  have hk : ys.length = (opL or a b).length := by
    have := congrArg List.length k1
    rwa [List.length_map] at this
  rw [k1] at k4
  rw [hk] at k2 ⊢
  have HK4 := Lib.hid k4
  clear k1 k4 hk
  gi_wp2
  go_ret
  exact ⟨Q, qc, rfl, k2, k3, HK4.out.more (fun g h => h.mono hB3.size (Nat.le_refl _)), ext_trans hB3 k5⟩
end Go.Proofs.Ythneomehfmjbkaa


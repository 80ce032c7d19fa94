/-
  The set operations on extents (Union, Intersect, Subtract, Complement), and the extents of a list of writes.
  Complement, and the extents of a list of writes.
-/
import Derived.Test.YtfahbhjlkdcnpaaUc
import Derived.Test.YtfahbhjlkdcnpaaRe
import Derived.Test.YtfahbhjlkdcnpaaPg
set_option linter.unusedVariables false
set_option linter.unusedSimpArgs false
set_option linter.unusedSectionVars false
set_option linter.unnecessarySimpa false
namespace Go.Proofs.Ytfahbhjlkdcnpaa
open Go.RowKit Go.Shelf
attribute [local go_sem] Oper.semAt_some

theorem sweep_any (A A' : Option Addr) (n c m c' kf : Nat) (w : World) : Calls Try.prog 52 #[.slice A n c, .slice A' m c', .func (.func kf) #[] #[]] w fun e w' => e = .returned (.func (.func 78) #[] #[.pointer (some ⟨w.heap.size, 0, none⟩), .pointer (some ⟨w.heap.size + 1, 0, none⟩), .pointer (some ⟨w.heap.size + 1 + 1, 0, none⟩)]) ∧
    w' = ((w.alloc (.cells #[.slice A n c] 42)).alloc (.cells #[.slice A' m c'] 42)).alloc (.cells #[.func (.func kf) #[] #[]] 90) := by
  go_enter Try.func52, Try.ntmps52
  go_wp2
  go_ret
  exact ⟨rfl, rfl⟩
def opSeq (keep : Bool → Bool → Bool) (a b : List Ext) (ys : List ExtI) : Prop := ys.map (·.1) = opL keep a b
theorem sweep_stops {kf : Nat} {keep : Bool → Bool → Bool} (hkf : KeepFn kf keep) (n : Nat) (hn : 3 ≤ n) (A A' : Option Addr) (c c' B1 B2 B3 : Nat) (a b : List Ext) (w : World)
    (h1 : w.cell? ⟨B1, 0, none⟩ = some (.slice A a.length c)) (h2 : w.cell? ⟨B2, 0, none⟩ = some (.slice A' b.length c')) (h3 : w.cell? ⟨B3, 0, none⟩ = some (.func (.func kf) #[] #[])) (l1 : B1 < w.heap.size) (l2 : B2 < w.heap.size) (l3 : B3 < w.heap.size) (ha : SlAt encExt w (Bl w.heap.size) A a) (hb : SlAt encExt w (Bl w.heap.size) A' b) (hla : a.length ≤ 100000) (hlb : b.length ≤ 100000) (hca : a.length ≤ c ∧ c ≤ maxLen) (hcb : b.length ≤ c' ∧ c' ≤ maxLen) :
    SeqStopsT swOwn Fence.wide n Try.prog 78 #[.pointer (some ⟨B1, 0, none⟩), .pointer (some ⟨B2, 0, none⟩), .pointer (some ⟨B3, 0, none⟩)] extArgs (KpT swOwn w.heap.size) (opSeq keep a b) (fun pre => pre.map (·.1) <+: opL keep a b) 1000000 w :=
  fun l J Jx W hW hJ _ hY h0 => sweep_in kf keep hkf n hn l B1 B2 B3 w.heap.size A A' c c' a b J Jx hY W hW.size hJ ((hW.cell (p := ⟨B1, 0, none⟩) l1).trans h1) ((hW.cell (p := ⟨B2, 0, none⟩) l2).trans h2) ((hW.cell (p := ⟨B3, 0, none⟩) l3).trans h3) l3 h0 (ha.fwd hW) (hb.fwd hW) hla hlb hca hcb
theorem opSeq_len {keep : Bool → Bool → Bool} {a b : List Ext} (ys : List ExtI) (h : opSeq keep a b ys) : ys.length ≤ 1000000 := by
  have := congrArg List.length h
  rw [List.length_map] at this
  have := (opL_bound keep a b).2
  omega
theorem alloc3_cells (w : World) (o1 o2 o3 : Obj) : (((w.alloc o1).alloc o2).alloc o3).heap[w.heap.size]? = some o1 ∧ (((w.alloc o1).alloc o2).alloc o3).heap[w.heap.size + 1]? = some o2 ∧ (((w.alloc o1).alloc o2).alloc o3).heap[w.heap.size + 1 + 1]? = some o3 := by
  refine ⟨?_, ?_, ?_⟩
  · exact (Below.heap_alloc _ _ _ (by simp <;> omega)).trans ((Below.heap_alloc _ _ _ (by simp)).trans (heap_alloc_new _ _))
  · exact (Below.heap_alloc _ _ _ (by simp)).trans (heap_new2 _ _ _)
  · exact heap_new3 _ _ _ _
theorem keepU : KeepFn 80 or := ⟨enters_of Try.func80 (by kernel_rfl) rfl, union1_any, rfl⟩
theorem union_any (A A' : Option Addr) (c c' n m : Nat) (a b r : List Ext) (hn : a.length = n) (hm : b.length = m) (hr : opL or a b = r) (w : World) (h1 : SlAt encExt w (Bl w.heap.size) A a) (h2 : SlAt encExt w (Bl w.heap.size) A' b) (hla : n ≤ 100000) (hlb : m ≤ 100000) (hca : n ≤ c ∧ c ≤ maxLen) (hcb : m ≤ c' ∧ c' ≤ maxLen) :
    Calls Try.prog 54 #[.slice A n c, .slice A' m c'] w (RetSl encExt r w) := by
  subst hn hm hr
  obtain ⟨n, hn⟩ : ∃ n : Nat, 10 ≤ n := ⟨10, Nat.le_refl _⟩
  have hB3 : Below w.heap.size w (((w.alloc (.cells #[.slice A a.length c] 42)).alloc (.cells #[.slice A' b.length c'] 42)).alloc (.cells #[.func (.func 80) #[] #[]] 90)) := ext_alloc (ext_alloc (ext_alloc (Below.refl _ _)))
  have hc3 := alloc3_cells w (.cells #[.slice A a.length c] 42) (.cells #[.slice A' b.length c'] 42) (.cells #[.func (.func 80) #[] #[]] 90)
  have hstop := sweep_stops (keepU) (n - 1 - 1 - 1) (by omega) A A' c c' _ _ _ a b _ (cell_of_row _ _ 0 _ _ _ hc3.1) (cell_of_row _ _ 0 _ _ _ hc3.2.1) (cell_of_row _ _ 0 _ _ _ hc3.2.2) (by simp <;> omega) (by simp <;> omega) (by simp) (h1.fwd hB3) (h2.fwd hB3) hla hlb hca hcb
  have HC := Lib.hid (collectExt_in (n - 1) (by omega) swOwn (by unfold swOwn; decide) (by unfold swOwn; decide) 78 _ (enters_of Try.func78 (by kernel_rfl) rfl) (opSeq or a b) _ 1000000 (Nat.le_refl _) _ hstop opSeq_len)
  clear hstop hc3 h1 h2
  refine (callsIn_wide (n := n)).1 ?_
  refine callsIn_of_wp Try.func54 rfl trivial ?_ rfl
  simp only [Try.ntmps54, List.size_toArray, List.length_cons, List.length_nil, Nat.reduceAdd, Nat.reduceSub, Array.replicate_succ, Array.replicate_zero, List.push_toArray, List.append_toArray, List.nil_append, List.cons_append]
  gi_wp2_with fail
  refine ⟨trivial, fun _ => by omega, CallsIn.mono (callsIn_wide.2 (sweep_any A A' a.length c b.length c' 80 _)) ?_⟩
  rintro e w1 ⟨rfl, rfl⟩
  gi_wp2_with fail
  refine ⟨trivial, fun _ => by omega, CallsIn.mono HC.out ?_⟩
  rintro e w2 ⟨ys, Q, qc, k1, rfl, k2, k3, k4, k5⟩
  have hk : ys.length = (opL or a b).length := by
    have := congrArg List.length k1
    rwa [List.length_map] at this
  rw [k1] at k4
  rw [hk] at k2 ⊢
  have HK4 := Lib.hid k4
  clear k1 k4 hk
  gi_wp2
  go_ret
  exact ⟨Q, qc, rfl, k2, k3, HK4.out.more (fun g h => h.mono hB3.size (Nat.le_refl _)), ext_trans hB3 k5⟩
theorem keepI : KeepFn 53 and := ⟨enters_of Try.func53 (by kernel_rfl) rfl, inter1_any, rfl⟩
theorem inter_any (A A' : Option Addr) (c c' n m : Nat) (a b r : List Ext) (hn : a.length = n) (hm : b.length = m) (hr : opL and a b = r) (w : World) (h1 : SlAt encExt w (Bl w.heap.size) A a) (h2 : SlAt encExt w (Bl w.heap.size) A' b) (hla : n ≤ 100000) (hlb : m ≤ 100000) (hca : n ≤ c ∧ c ≤ maxLen) (hcb : m ≤ c' ∧ c' ≤ maxLen) :
    Calls Try.prog 23 #[.slice A n c, .slice A' m c'] w (RetSl encExt r w) := by
  subst hn hm hr
  obtain ⟨n, hn⟩ : ∃ n : Nat, 10 ≤ n := ⟨10, Nat.le_refl _⟩
  have hB3 : Below w.heap.size w (((w.alloc (.cells #[.slice A a.length c] 42)).alloc (.cells #[.slice A' b.length c'] 42)).alloc (.cells #[.func (.func 53) #[] #[]] 90)) := ext_alloc (ext_alloc (ext_alloc (Below.refl _ _)))
  have hc3 := alloc3_cells w (.cells #[.slice A a.length c] 42) (.cells #[.slice A' b.length c'] 42) (.cells #[.func (.func 53) #[] #[]] 90)
  have hstop := sweep_stops (keepI) (n - 1 - 1 - 1) (by omega) A A' c c' _ _ _ a b _ (cell_of_row _ _ 0 _ _ _ hc3.1) (cell_of_row _ _ 0 _ _ _ hc3.2.1) (cell_of_row _ _ 0 _ _ _ hc3.2.2) (by simp <;> omega) (by simp <;> omega) (by simp) (h1.fwd hB3) (h2.fwd hB3) hla hlb hca hcb
  have HC := Lib.hid (collectExt_in (n - 1) (by omega) swOwn (by unfold swOwn; decide) (by unfold swOwn; decide) 78 _ (enters_of Try.func78 (by kernel_rfl) rfl) (opSeq and a b) _ 1000000 (Nat.le_refl _) _ hstop opSeq_len)
  clear hstop hc3 h1 h2
  refine (callsIn_wide (n := n)).1 ?_
  refine callsIn_of_wp Try.func23 rfl trivial ?_ rfl
  simp only [Try.ntmps23, List.size_toArray, List.length_cons, List.length_nil, Nat.reduceAdd, Nat.reduceSub, Array.replicate_succ, Array.replicate_zero, List.push_toArray, List.append_toArray, List.nil_append, List.cons_append]
  gi_wp2_with fail
  refine ⟨trivial, fun _ => by omega, CallsIn.mono (callsIn_wide.2 (sweep_any A A' a.length c b.length c' 53 _)) ?_⟩
  rintro e w1 ⟨rfl, rfl⟩
  gi_wp2_with fail
  refine ⟨trivial, fun _ => by omega, CallsIn.mono HC.out ?_⟩
  rintro e w2 ⟨ys, Q, qc, k1, rfl, k2, k3, k4, k5⟩
  have hk : ys.length = (opL and a b).length := by
    have := congrArg List.length k1
    rwa [List.length_map] at this
  rw [k1] at k4
  rw [hk] at k2 ⊢
  have HK4 := Lib.hid k4
  clear k1 k4 hk
  gi_wp2
  go_ret
  exact ⟨Q, qc, rfl, k2, k3, HK4.out.more (fun g h => h.mono hB3.size (Nat.le_refl _)), ext_trans hB3 k5⟩
theorem keepS : KeepFn 76 (fun p q => and p (not q)) := ⟨enters_of Try.func76 (by kernel_rfl) rfl, subtract1_any, rfl⟩
theorem subtract_any (A A' : Option Addr) (c c' n m : Nat) (a b r : List Ext) (hn : a.length = n) (hm : b.length = m) (hr : opL (fun p q => and p (not q)) a b = r) (w : World) (h1 : SlAt encExt w (Bl w.heap.size) A a) (h2 : SlAt encExt w (Bl w.heap.size) A' b) (hla : n ≤ 100000) (hlb : m ≤ 100000) (hca : n ≤ c ∧ c ≤ maxLen) (hcb : m ≤ c' ∧ c' ≤ maxLen) :
    Calls Try.prog 50 #[.slice A n c, .slice A' m c'] w (RetSl encExt r w) := by
  subst hn hm hr
  obtain ⟨n, hn⟩ : ∃ n : Nat, 10 ≤ n := ⟨10, Nat.le_refl _⟩
  have hB3 : Below w.heap.size w (((w.alloc (.cells #[.slice A a.length c] 42)).alloc (.cells #[.slice A' b.length c'] 42)).alloc (.cells #[.func (.func 76) #[] #[]] 90)) := ext_alloc (ext_alloc (ext_alloc (Below.refl _ _)))
  have hc3 := alloc3_cells w (.cells #[.slice A a.length c] 42) (.cells #[.slice A' b.length c'] 42) (.cells #[.func (.func 76) #[] #[]] 90)
  have hstop := sweep_stops (keepS) (n - 1 - 1 - 1) (by omega) A A' c c' _ _ _ a b _ (cell_of_row _ _ 0 _ _ _ hc3.1) (cell_of_row _ _ 0 _ _ _ hc3.2.1) (cell_of_row _ _ 0 _ _ _ hc3.2.2) (by simp <;> omega) (by simp <;> omega) (by simp) (h1.fwd hB3) (h2.fwd hB3) hla hlb hca hcb
  have HC := Lib.hid (collectExt_in (n - 1) (by omega) swOwn (by unfold swOwn; decide) (by unfold swOwn; decide) 78 _ (enters_of Try.func78 (by kernel_rfl) rfl) (opSeq (fun p q => and p (not q)) a b) _ 1000000 (Nat.le_refl _) _ hstop opSeq_len)
  clear hstop hc3 h1 h2
  refine (callsIn_wide (n := n)).1 ?_
  refine callsIn_of_wp Try.func50 rfl trivial ?_ rfl
  simp only [Try.ntmps50, List.size_toArray, List.length_cons, List.length_nil, Nat.reduceAdd, Nat.reduceSub, Array.replicate_succ, Array.replicate_zero, List.push_toArray, List.append_toArray, List.nil_append, List.cons_append]
  gi_wp2_with fail
  refine ⟨trivial, fun _ => by omega, CallsIn.mono (callsIn_wide.2 (sweep_any A A' a.length c b.length c' 76 _)) ?_⟩
  rintro e w1 ⟨rfl, rfl⟩
  gi_wp2_with fail
  refine ⟨trivial, fun _ => by omega, CallsIn.mono HC.out ?_⟩
  rintro e w2 ⟨ys, Q, qc, k1, rfl, k2, k3, k4, k5⟩
  have hk : ys.length = (opL (fun p q => and p (not q)) a b).length := by
    have := congrArg List.length k1
    rwa [List.length_map] at this
  rw [k1] at k4
  rw [hk] at k2 ⊢
  have HK4 := Lib.hid k4
  clear k1 k4 hk
  gi_wp2
  go_ret
  exact ⟨Q, qc, rfl, k2, k3, HK4.out.more (fun g h => h.mono hB3.size (Nat.le_refl _)), ext_trans hB3 k5⟩
end Go.Proofs.Ytfahbhjlkdcnpaa

namespace Go.Proofs.Ytfahbhjlkdcnpaa
open Go.RowKit Go.Shelf

theorem complement_any (A : Option Addr) (c n : Nat) (l r : List Ext) (hn : l.length = n) (hr : opL (fun p q => and p (not q)) [(0, 4096)] l = r) (w : World) (h1 : SlAt encExt w (Bl w.heap.size) A l) (hla : n ≤ 100000) (hca : n ≤ c ∧ c ≤ maxLen) :
    Calls Try.prog 21 #[.slice A n c, .int .i64 4096] w (RetSl encExt r w) := by
  have hB : Below w.heap.size w (w.alloc (.cells #[.int .i64 0, .int .i64 4096] 68)) := ext_alloc (Below.refl _ _)
  have hone : SlAt encExt (w.alloc (.cells #[.int .i64 0, .int .i64 4096] 68)) (Bl (w.alloc (.cells #[.int .i64 0, .int .i64 4096] 68)).heap.size) (some ⟨w.heap.size, 0, none⟩) [(0, 4096)] := fun _ => by
    refine ⟨w.heap.size, 0, rfl, by simp [Bl], fun i x hx => ?_⟩
    match i, hx with
    | 0, hx =>
      cases hx
      exact ⟨[.int .i64 0, .int .i64 4096], fun j v hv => by
        rw [show 0 + 0 * encExt.size + j = j from by omega, cell_of_row _ _ j _ _ _ (heap_alloc_new _ _)]
        simpa using hv, ext_mk (x := ((0 : Int), (4096 : Int))) (by unfold I64; simp only; omega) (by unfold I64; simp only; omega)⟩
  have HC := Lib.hid (subtract_any (some ⟨w.heap.size, 0, none⟩) A 1 c 1 n [(0, 4096)] l r rfl hn hr _ hone (h1.fwd hB) (by omega) hla ⟨Nat.le_refl _, by unfold maxLen; omega⟩ hca)
  clear hone h1 hr hn
  go_enter Try.func21, Try.ntmps21
  go_wp2_with fail
  refine HC.out.mono ?_
  rintro e w1 ⟨Q, qc, rfl, k2, k3, k4, k5⟩
  have HK4 := Lib.hid k4; clear k4
  go_wp2
  go_ret
  exact ⟨Q, qc, rfl, k2, k3, HK4.out.more (fun g h => h.mono hB.size (Nat.le_refl _)), ext_trans hB k5⟩
set_option maxHeartbeats 2000000 in
theorem extents_any (A : Option Addr) (c : Nat) (l : List Wr) (V : Int) (w : World) (h1 : SlAt encWr w (Bl w.heap.size) A l) (hs : l.length ≤ 100000) (hV : I64 V) :
    Calls Try.prog 24 #[.slice A l.length c, .int .i64 V] w (RetSl encExt (runsL (secsOf l V)) w) := by
  have H1 : Hid (∀ w', Below w.heap.size w w' → SlAt encWr w' (Bl w.heap.size) A l) := fun w' hb => h1.below hb
  clear h1
  go_enter Try.func24, Try.ntmps24
  go_wp2
  go_loopw [5, 10] (fun v i wr => ∃ (k : Nat) (B : Option Addr) (vc : Nat) (out : List Ext), k ≤ l.length ∧ i = .int .i64 k ∧ v = .slice B out.length vc ∧ Below w.heap.size w wr ∧ Hid (out = extL (l.take k) V) ∧ Hid (OwnW encExt wr w.heap.size w.heap.size 68 (.slice B out.length vc) out)) (fun _ i _ => l.length - (intOf i).toNat)
  case atStart => exact ⟨0, none, 0, [], by omega, rfl, rfl, Below.refl _ _, by simp [Hid, extL], OwnW.nil_⟩
  case round =>
    obtain ⟨k, B, vc, out, hk, rfl, rfl, hB, hout, hown⟩ := hrel
    have hol : out.length ≤ 100000 := by
      have h3 := extL_len (l.take k) V
      have h4 : (l.take k).length ≤ l.length := by rw [List.length_take]; omega
      rw [hout.out]; omega
    by_cases hlt : k < l.length
    · obtain ⟨b, off, D, dc, rfl, hb, g0, g1, g2, hD, hn1, hn2, hi1, hi2⟩ := (H1.out wr hB).wr hlt
      have hnn : (0 : Int) ≤ k := by omega
      have hki : (k : Int) < l.length := by omega
      have hsz := hB.size
      unfold maxLen at hn2
      obtain ⟨y, hy⟩ : ∃ y, Hid (y = l[k]'hlt) := ⟨_, Lib.hid rfl⟩
      rw [← hy.out] at g0 g1 g2 hn1 hi1 hi2
      obtain ⟨v, s, data⟩ := y
      simp only at g0 g1 g2 hn1 hi1 hi2
      have hst : Hid (extL (l.take (k + 1)) V = out ++ (if v = V then [(s, (data.length : Int))] else [])) := by
        rw [Hid, List.take_succ_eq_append_getElem hlt, extL_snoc, ← hout.out, ← hy.out]
      by_cases hv : v = V
      · have hvb : (v == V) = true := by simp [hv]
        have HV := Lib.hid hv; clear hv
        have HO1 := Lib.hid (Own.alloc (Own.alloc hown.out (fun _ h => h.1.2) (.cells #[.int .i64 v, .int .i64 s, .slice D data.length dc] 35)) (fun _ h => by simp; have := h.1.2; omega) (.cells #[.int .i64 s, .int .i64 data.length] 68))
        have HRD : Hid (encExt.rd ((wr.alloc (.cells #[.int .i64 v, .int .i64 s, .slice D data.length dc] 35)).alloc (.cells #[.int .i64 s, .int .i64 data.length] 68)) (fun b => Nw w.heap.size wr.heap.size b ∧ (Value.slice B out.length vc).ownBlock ≠ some b) [.int .i64 s, .int .i64 data.length] (s, (data.length : Int))) := ext_mk (x := (s, (data.length : Int))) hi2 (by unfold I64; simp only; omega)
        clear hi1 hi2
        go_wp2_with (at_builtin; refine Hid.out ?_)
        change wpList _ _ _ _ _ _
        refine wpList_app1 (E := encExt) tyExts rfl _ _ rfl rfl HO1.out (s, (data.length : Int)) [.int .i64 s, .int .i64 data.length] rfl HRD.out (heap_new2 _ _ _) (fun _ h => by simp; have := h.1.2; omega) (by simp; omega) (by unfold maxLen; omega) (by omega) ?_
        intro A' c' w5 hown5 hg5 hat5
        have hlt1 : ∀ g, (Value.slice B out.length vc).ownBlock = some g → g < wr.heap.size := fun g hg => (hown.out.lt g hg).2
        have hok5 := Lib.hid (OwnW.app (hown5.more (S' := fun b => Nw w.heap.size ((wr.alloc (.cells #[.int .i64 v, .int .i64 s, .slice D data.length dc] 35)).alloc (.cells #[.int .i64 s, .int .i64 data.length] 68)).heap.size b ∧ (Value.slice B out.length vc).ownBlock ≠ some b) (fun b hb => ⟨hb.1.mono (Nat.le_refl _) (by simp; omega), hb.2⟩) (OwnW_new hown5 hat5 hlt1 (by simp; omega))) hg5 hat5)
        have hB5 := Lib.hid ((ext_alloc (o := .cells #[.int .i64 s, .int .i64 data.length] 68) (ext_alloc (o := .cells #[.int .i64 v, .int .i64 s, .slice D data.length dc] 35) hB)).grown hg5 (by simp; omega) (fun g h => (hown.out.lt g h).1))
        clear hown5 hg5 hat5 hlt1 g0 g1 g2
        go_wp2
        go_roundw
        case rel => exact ⟨k + 1, A', c', out ++ [(s, (data.length : Int))], hlt, by go_num, by simp, hB5.out, by rw [Hid, hst.out, if_pos HV.out], by have := hok5.out; simpa [Hid] using this⟩
        case measure => simp [intOf]; omega
      · have hvb : (v == V) = false := by simp [hv]
        have HV := Lib.hid hv; clear hv
        have HO1 := Lib.hid (hown.out.below ((Below.refl _ _).alloc (Nat.le_refl _) (.cells #[.int .i64 v, .int .i64 s, .slice D data.length dc] 35)))
        go_wp2
        go_roundw
        case rel => exact ⟨k + 1, B, vc, out, hlt, by go_num, rfl, ext_alloc hB, by rw [Hid, hst.out, if_neg HV.out, List.append_nil], HO1.out⟩
        case measure => simp [intOf]; omega
    · have hkk : k = l.length := by omega
      subst hkk
      obtain ⟨_, p1, p2, p3⟩ := hown.out.parts
      have hext : opL or out [] = runsL (secsOf l V) := by
        rw [hout.out, List.take_length]
        exact extents_law l V
      have HC := Lib.hid (union_any B none vc 0 out.length 0 out [] _ rfl rfl hext wr (p3.more (fun _ h => h.2)) SlAt.nil_ hol (by omega) ⟨p1, p2⟩ ⟨Nat.le_refl _, by unfold maxLen; omega⟩)
      have hsz := hB.size
      clear hext p3
      go_wp2_with fail
      refine HC.out.mono ?_
      rintro e w1 ⟨Q, qc, rfl, k2, k3, k4, k5⟩
      have HK4 := Lib.hid k4; clear k4
      go_wp2
      go_ret
      exact ⟨Q, qc, rfl, k2, k3, HK4.out.more (fun g h => h.mono hsz (Nat.le_refl _)), ext_trans hB k5⟩
end Go.Proofs.Ytfahbhjlkdcnpaa

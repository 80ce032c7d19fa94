/-
  Drawn regions whose last operation stores into a cell that the region has read: the loads may be taken first all the same. No program in sight.
  retention.Merge: the walk.
-/
import Derived.OrdersHeld
import Derived.RegionTactic
import Derived.Deep.RegionHeld3
import Derived.Test.YtnkmklnlaepdeaaGreatYi
import Derived.WalkMore
set_option linter.unusedVariables false
set_option linter.unusedSimpArgs false
set_option linter.unusedSectionVars false
set_option linter.unnecessarySimpa false
namespace Go.Proofs.YtnkmklnlaepdeaaGreat

section
variable {P : Program} {ops : Array Oper} {Q : Exit → Act → World → Prop} {md : Region.Mode} {S : World → Prop} {k : Nat}
/-- whatever order is picked from here on; a condition holds behind every operation but the last one, number k -/
def wpAnyU (P : Program) (md : Region.Mode) (ops : Array Oper) (Q : Exit → Act → World → Prop) (S : World → Prop) (k : Nat) : Nat → Array Bool → Act → World → Prop
  | 0, listed, a, w => Region.ready md ops listed = [] ∧ Q .normal a w
  | fuel + 1, listed, a, w =>
    (Region.ready md ops listed = [] → Q .normal a w) ∧
    ∀ i ∈ Region.ready md ops listed, wpOp P ops Q i (fun a' w' => (i ≠ k → S w') ∧ wpAnyU P md ops Q S k fuel (listed.setIfInBounds i true) a' w') a w
theorem wpAny_ofU : ∀ (fuel : Nat) (listed : Array Bool) (a : Act) (w : World), wpAnyU P md ops Q S k fuel listed a w → wpAny P md ops Q fuel listed a w
  | 0, _, _, _, h => h
  | fuel + 1, _, _, _, h => ⟨h.1, fun i hi => wpOp_mono (fun a' w' h' => wpAny_ofU fuel _ a' w' h'.2) (h.2 i hi)⟩
/-- operation k waits for operation i -/
def waitsFor (md : Region.Mode) (ops : Array Oper) (k i : Nat) : Bool := match ops[k]? with
  | none => false
  | some o => o.after.any fun e => Region.binds md e && e.on == i
theorem waits_not {i : Nat} {listed : Array Bool} (h : waitsFor md ops k i = true) (hi : i ∈ Region.ready md ops listed) : ¬ k ∈ Region.ready md ops listed := fun hk => by
  obtain ⟨_, o, ho, hall⟩ := mem_ready.1 hk
  unfold waitsFor at h
  rw [ho] at h
  simp only [Array.any_eq_true] at h
  obtain ⟨j, hj, hb⟩ := h
  simp only [Bool.and_eq_true, beq_iff_eq] at hb
  have h1 := hall _ (Array.getElem_mem hj) hb.1
  have h0 := (mem_ready.1 hi).1
  rw [hb.2] at h1
  rcases Nat.lt_or_ge i listed.size with h' | h'
  · simp [h'] at h0 h1; rw [h0] at h1; cases h1
  · simp [Array.getElem?_eq_none h'] at h1
theorem waits_set {i j : Nat} {listed : Array Bool} (hi : i ∈ Region.ready md ops listed) (hne : i ≠ j) : i ∈ Region.ready md ops (listed.setIfInBounds j true) := ready_mono hi hne
theorem wpAnyU_first {i : Nat} {oi : Oper} {v : Value} (hi : ops[i]? = some oi) (hsel : ∀ (j : Nat) (o : Oper) cs b, ops[j]? = some o → o.op ≠ .select cs b)
    (hQ : ∀ c a w, Q (.panic c) (a.put oi.dst v) w → Q (.panic c) a w) (hik : i ≠ k) (hwt : waitsFor md ops k i = true) :
    ∀ (fuel : Nat) (listed : Array Bool) (a : Act) (w : World),
      (∀ j oj, ops[j]? = some oj → j ≠ i → listed.getD j true = false → (∀ e ∈ oj.after, Region.binds md e = true → e.on ≠ i) → oi.apart ops oj = true) →
      i ∈ Region.ready md ops listed → YieldsIf P ops S oi v a → S w →
      wpAnyU P md ops Q S k fuel (listed.setIfInBounds i true) (a.put oi.dst v) w → wpAnyU P md ops Q S k (fuel + 1) listed a w := by
  intro fuel
  induction fuel with
  | zero =>
    intro listed a w _ hr hy hS H
    refine ⟨fun h => (by rw [h] at hr; cases hr), fun j hj => ?_⟩
    by_cases hji : j = i
    · subst hji; exact hy.wpOp hi hS ⟨fun _ => hS, H⟩
    · have := ready_mono hj hji
      rw [H.1] at this
      cases this
  | succ fuel ih =>
    intro listed a w hfree hr hy hS H
    refine ⟨fun h => (by rw [h] at hr; cases hr), fun j hj => ?_⟩
    by_cases hji : j = i
    · subst hji; exact hy.wpOp hi hS ⟨fun _ => hS, H⟩
    · have hjk : j ≠ k := fun e => by subst e; exact waits_not hwt hr hj
      have h1 := H.2 j (ready_mono hj hji)
      obtain ⟨hjun, oj, hoj, hall⟩ := mem_ready.1 hj
      have hnot : ∀ e ∈ oj.after, Region.binds md e = true → e.on ≠ i := fun e he hb heq => by
        have h1 := hall e he hb
        have h0 := (mem_ready.1 hr).1
        rw [heq] at h1
        rcases Nat.lt_or_ge i listed.size with h' | h'
        · simp [h'] at h0 h1; rw [h0] at h1; cases h1
        · simp [Array.getElem?_eq_none h'] at h1
      have h2 := wpOp_putIf hoj (hfree j oj hoj hji hjun hnot) (fun cs b => hsel i oi cs b hi) (fun cs b => hsel j oj cs b hoj) hQ hy h1
      have hfree' : ∀ m ok, ops[m]? = some ok → m ≠ i → (listed.setIfInBounds j true).getD m true = false →
          (∀ e ∈ ok.after, Region.binds md e = true → e.on ≠ i) → oi.apart ops ok = true := fun m ok hm hmi hun hno => by
        refine hfree m ok hm hmi ?_ hno
        by_cases hjm : j = m
        · subst hjm; exact hjun
        · rw [getD_set_ne true hjm] at hun; exact hun
      refine wpOp_mono (fun a' w' h3 => ⟨h3.2.1, ih (listed.setIfInBounds j true) a' w' hfree' (ready_mono hr (Ne.symm hji)) h3.1 (h3.2.1 hjk) ?_⟩) h2
      rw [Array.setIfInBounds_comm _ _ hji]
      exact h3.2.2
/-- take number i first -/
theorem wpAnyU_take {i : Nat} {oi : Oper} {v : Value} {fuel : Nat} {listed : Array Bool} {a : Act} {w : World} (hi : ops[i]? = some oi)
    (hs : Region.noSelect ops = true) (hf : Region.free md ops listed i = true) (hr : (Region.ready md ops listed).contains i = true) (hk : (waitsFor md ops k i && !(i == k)) = true)
    (hQ : ∀ c a w, Q (.panic c) (a.put oi.dst v) w → Q (.panic c) a w) (hw : Region.wanted oi (yielded ops a.tmps) = true) (hy : ∀ w, S w → (execOp a.eval oi).run P w = .ok (.value v) w) (hS : S w)
    (h : wpAnyU P md ops Q S k fuel (listed.setIfInBounds i true) (a.put oi.dst v) w) : wpAnyU P md ops Q S k (fuel + 1) listed a w := by
  simp only [Bool.and_eq_true, Bool.not_eq_true', beq_eq_false_iff_ne] at hk
  exact wpAnyU_first hi (Region.noSelect_spec hs) hQ hk.2 hk.1 fuel listed a w (Region.free_spec hi hf) (by simpa using hr) (Or.inl ⟨hw, hy⟩) hS h
/-- the only one that may come up -/
theorem wpAnyU_one {i : Nat} {o : Oper} {fuel : Nat} {listed : Array Bool} {a : Act} {w : World} (hr : Region.ready md ops listed = [i]) (ho : ops[i]? = some o)
    (h : ∀ K' : Act → World → Prop, Shut (∀ a w, (i ≠ k → S w) → wpAnyU P md ops Q S k fuel (listed.setIfInBounds i true) a w → K' a w) → if Region.wanted o (yielded ops a.tmps) = true then Oper.wp P o a w K' Q else K' (a.put o.dst undef) w) :
    wpAnyU P md ops Q S k (fuel + 1) listed a w :=
  ⟨fun h0 => by rw [hr] at h0; simp at h0, fun j hj => by
    rw [hr, List.mem_singleton] at hj
    subst hj
    exact wpOp_step ho (fun K' hK => h K' (fun a w hS hW => hK a w ⟨hS, hW⟩))⟩
theorem wpAnyU_done {listed : Array Bool} {a : Act} {w : World} (hr : Region.ready md ops listed = []) (h : Q .normal a w) : ∀ fuel, wpAnyU P md ops Q S k fuel listed a w
  | 0 => ⟨hr, h⟩
  | _ + 1 => ⟨fun _ => h, by rw [hr]; simp⟩
theorem wp_region_U {id : Nat} {a : Act} {w : World} (S : World → Prop) (k : Nat) (hm : P.follows .mixedOrders = true)
    (h : wpAnyU P .any ops Q S k ops.size (Array.replicate ops.size false) a w.drew) : (Code.region id ops true).wp P Q a w :=
  wp_region_any hm (wpAny_ofU _ _ _ _ h)
end
end Go.Proofs.YtnkmklnlaepdeaaGreat

namespace Go.Proofs.YtnkmklnlaepdeaaGreat
open Go.RowKit Go.Shelf
attribute [local go_sem] Oper.semAt_some

/-- a policy and an error, the policy's rules in new memory -/
def PolRet (p : Pol) (r : Int) (w : World) (e : Ending) (w' : World) : Prop :=
  ∃ A c, e = .returned (.tuple #[.agg #[.int .i64 p.1, .slice A p.2.length c], .int .i64 r]) ∧ p.2.length ≤ c ∧ c ≤ maxLen ∧ SlAt encExt w' (Nw w.heap.size w'.heap.size) A p.2 ∧ Below w.heap.size w w'
theorem mergeR_nil (x : List Rule) : mergeR x [] = x := by
  cases x with
  | nil => rw [mergeR]
  | cons a x => rw [mergeR]; simp
theorem mergeR_nil' (y : List Rule) : mergeR [] y = y := by rw [mergeR]
theorem mergeR_lt {a b : Rule} {x y : List Rule} (h : a.1 < b.1) : mergeR (a :: x) (b :: y) = a :: mergeR x (b :: y) := by rw [mergeR, if_pos h]
theorem mergeR_gt {a b : Rule} {x y : List Rule} (h : b.1 < a.1) : mergeR (a :: x) (b :: y) = b :: mergeR (a :: x) y := by rw [mergeR, if_neg (by omega), if_pos h]
theorem mergeR_eq {a b : Rule} {x y : List Rule} (h : a.1 = b.1) : mergeR (a :: x) (b :: y) = (a.1, max a.2 b.2) :: mergeR x y := by rw [mergeR, if_neg (by omega), if_neg (by omega)]
def slLen : Value → Nat
  | .slice _ n _ => n
  | _ => 0
theorem tyRules : SliceTy Tryz.prog 22 48 2 16 := sliceTy_mk (z := .agg #[.int .i64 0, .int .i64 0]) Tryz.underlying22 (by kernel_rfl) rfl (by decide)
/-- the first of a list of rules, and the rest -/
theorem SlAt.uncons {w : World} {S : Nat → Prop} {A : Option Addr} {l : List Rule} (h : SlAt encExt w S A l) (h0 : 0 < l.length) (cx : Nat) (hc : l.length ≤ cx) :
    ∃ b off x t, l = x :: t ∧ A = some ⟨b, off, none⟩ ∧ S b ∧ w.cell? ⟨b, off, none⟩ = some (.int .i64 x.1) ∧ w.cell? ⟨b, off + 1, none⟩ = some (.int .i64 x.2) ∧ I64 x.1 ∧ I64 x.2 ∧ SlAt encExt w S (if cx = 1 then some ⟨b, off, none⟩ else some ⟨b, off + 2, none⟩) t := by
  cases l with
  | nil => simp at h0
  | cons x t =>
    obtain ⟨b, off, rfl, hb, g0, g1, i0, i1⟩ := h.ext (k := 0) h0
    refine ⟨b, off, x, t, rfl, rfl, hb, by simpa using g0, by simpa using g1, i0, i1, ?_⟩
    by_cases h1 : cx = 1
    · have : t = [] := by
        cases t with
        | nil => rfl
        | cons y t => simp at hc; omega
      subst this
      exact SlAt.nil_
    · rw [if_neg h1]
      have := h.drop (k := 1)
      simpa [encExt, encPair, encInt] using this
set_option maxHeartbeats 8000000 in
set_option maxRecDepth 100000 in
theorem merge_any (A B : Option Addr) (ca cb na nb : Nat) (wa wb : Int) (la lb : List Rule) (w : World) (hna : la.length = na) (hnb : lb.length = nb) (h1 : SlAt encExt w (Bl w.heap.size) A la) (h2 : SlAt encExt w (Bl w.heap.size) B lb) (hca : na ≤ ca ∧ ca ≤ maxLen) (hcb : nb ≤ cb ∧ cb ≤ maxLen) :
    Calls Tryz.prog 12 #[.agg #[.int .i64 wa, .slice A na ca], .agg #[.int .i64 wb, .slice B nb cb]] w (PolRet (mergeP (wa, la) (wb, lb)) (mergeE (wa, la) (wb, lb)) w) := by
  subst hna hnb
  obtain ⟨n0, hn0⟩ : ∃ n0, w.heap.size = n0 := ⟨_, rfl⟩
  rw [hn0] at h1 h2
  have H1 : Hid (∀ w', Below n0 w w' → SlAt encExt w' (Bl n0) A la) := fun w' hb => h1.below hb
  have H2 : Hid (∀ w', Below n0 w w' → SlAt encExt w' (Bl n0) B lb) := fun w' hb => h2.below hb
  clear h1 h2
  obtain ⟨hca0, hca1⟩ := hca
  obtain ⟨hcb0, hcb1⟩ := hcb
  unfold maxLen at hca1 hcb1
  obtain ⟨Wa, hWa⟩ : ∃ W, w.alloc (.cells #[.int .i64 wa, .slice A la.length ca] 24) = W := ⟨_, rfl⟩
  obtain ⟨Wb, hWb⟩ : ∃ W, Wa.alloc (.cells #[.int .i64 wb, .slice B lb.length cb] 24) = W := ⟨_, rfl⟩
  obtain ⟨Wc, hWc⟩ : ∃ W, Wb.alloc (.cells #[.int .i64 0, .slice none 0 0] 24) = W := ⟨_, rfl⟩
  obtain ⟨W1, hW1⟩ : ∃ W, Wc.alloc (.cells #[.int .i64 wa, .slice A la.length ca, .int .i64 wb, .slice B lb.length cb] 24) = W := ⟨_, rfl⟩
  have sa : Wa.heap.size = n0 + 1 := by rw [← hWa, ← hn0]; simp
  have sb : Wb.heap.size = n0 + 1 + 1 := by rw [← hWb, World.size_alloc, sa]
  have sc : Wc.heap.size = n0 + 1 + 1 + 1 := by rw [← hWc, World.size_alloc, sb]
  have sd : W1.heap.size = n0 + 1 + 1 + 1 + 1 := by rw [← hW1, World.size_alloc, sc]
  have bba : Below n0 w Wa := by rw [← hWa, ← hn0]; exact ext_alloc (Below.refl _ _)
  have bab : Below (n0 + 1) Wa Wb := by rw [← hWb, ← sa]; exact ext_alloc (Below.refl _ _)
  have bbc : Below (n0 + 1 + 1) Wb Wc := by rw [← hWc, ← sb]; exact ext_alloc (Below.refl _ _)
  have bcd : Below (n0 + 1 + 1 + 1) Wc W1 := by rw [← hW1, ← sc]; exact ext_alloc (Below.refl _ _)
  have ra : Wa.heap[n0]? = some (.cells #[.int .i64 wa, .slice A la.length ca] 24 (0, 0)) := by rw [← hWa, ← hn0]; exact heap_alloc_new _ _
  have rb : Wb.heap[n0 + 1]? = some (.cells #[.int .i64 wb, .slice B lb.length cb] 24 (0, 0)) := by rw [← hWb, ← sa]; exact heap_alloc_new _ _
  have rc : Wc.heap[n0 + 1 + 1]? = some (.cells #[.int .i64 0, .slice none 0 0] 24 (0, 0)) := by rw [← hWc, ← sb]; exact heap_alloc_new _ _
  have rd : W1.heap[n0 + 1 + 1 + 1]? = some (.cells #[.int .i64 wa, .slice A la.length ca, .int .i64 wb, .slice B lb.length cb] 24 (0, 0)) := by rw [← hW1, ← sc]; exact heap_alloc_new _ _
  have bac := bab.trans (bbc.mono (by omega))
  have ra1 := (bcd.block n0 (by omega)).trans ((bac.block n0 (by omega)).trans ra)
  have rb1 := (bcd.block (n0 + 1) (by omega)).trans ((bbc.block (n0 + 1) (by omega)).trans rb)
  have rc1 := (bcd.block (n0 + 1 + 1) (by omega)).trans rc
  have rac := (bac.block n0 (by omega)).trans ra
  have rbc := (bbc.block (n0 + 1) (by omega)).trans rb
  have hB1 : Below n0 w W1 := (bba.trans (bac.mono (by omega))).trans (bcd.mono (by omega))
  obtain ⟨n1, hn1⟩ : ∃ n1, n1 = n0 + 1 + 1 + 1 + 1 := ⟨_, rfl⟩
  have HAB : Hid (∀ W : World, (∀ g, g < n0 + 1 + 1 → W.heap[g]? = W1.heap[g]?) → (W.cell? ⟨n0, 0, none⟩ = some (.int .i64 wa) ∧ W.cell? ⟨n0, 1, none⟩ = some (.slice A la.length ca)) ∧ W.cell? ⟨n0 + 1, 0, none⟩ = some (.int .i64 wb) ∧ W.cell? ⟨n0 + 1, 1, none⟩ = some (.slice B lb.length cb)) := fun W hb => by
    obtain ⟨a, b, _⟩ := blk2 ((hb n0 (by omega)).trans ra1)
    obtain ⟨c, d, _⟩ := blk2 ((hb (n0 + 1) (by omega)).trans rb1)
    exact ⟨⟨a, b⟩, c, d⟩
  have HLIT : Hid (∀ W, Below n1 W1 W → W.cell? ⟨n0 + 1 + 1 + 1, 0, none⟩ = some (.int .i64 wa) ∧ W.cell? ⟨n0 + 1 + 1 + 1, 1, none⟩ = some (.slice A la.length ca) ∧ W.cell? ⟨n0 + 1 + 1 + 1, 2, none⟩ = some (.int .i64 wb) ∧ W.cell? ⟨n0 + 1 + 1 + 1, 3, none⟩ = some (.slice B lb.length cb)) := fun W hb => by
    have h := (hb.block (n0 + 1 + 1 + 1) (by omega)).trans rd
    exact ⟨cell_of_row W _ 0 _ _ _ h, cell_of_row W _ 1 _ _ _ h, cell_of_row W _ 2 _ _ _ h, cell_of_row W _ 3 _ _ _ h⟩
  have HRZ : Hid (∀ W, Below n1 W1 W → W.heap[n0 + 1 + 1]? = some (.cells #[.int .i64 0, .slice none 0 0] 24 (0, 0))) := fun W hb => (hb.block (n0 + 1 + 1) (by omega)).trans rc1
  obtain ⟨p0, p1, _⟩ := blk2 rac
  obtain ⟨p2, p3, _⟩ := blk2 rbc
  have HW := Lib.hid (And.intro hWa (And.intro hWb (And.intro hWc hW1)))
  have hs1 : n1 ≤ W1.heap.size := by omega
  have SA := Lib.hid sa
  have SB := Lib.hid sb
  have SC := Lib.hid sc
  clear ra rb rc rd ra1 rb1 rc1 rac rbc bba bab bbc bcd bac sd
  have HW1 := Lib.hid hW1
  clear hW1
  go_enter Tryz.func12, Tryz.ntmps12
  go_wp2_with fail
  try go_step3
  go_upto_region 2 with (fail)
  rw [HW1.out]
  clear p0 p1 p2 p3 hWa hWb hWc sa sb sc
  go_wp2_with fail
  go_loopw [16] (fun i wr => ∃ k : Nat, k ≤ 2 ∧ i = .int .i64 k ∧ Below n1 W1 wr ∧ Hid (0 < k → polE (wa, la) = 0) ∧ Hid (1 < k → polE (wb, lb) = 0)) (fun i _ => 2 - (intOf i).toNat)
  case atStart => exact ⟨0, by omega, rfl, Below.refl _ _, fun h => by omega, fun h => by omega⟩
  case round =>
    obtain ⟨k, hk, rfl, hB, hp0, hp1⟩ := hrel
    obtain rfl | rfl | rfl : k = 0 ∨ k = 1 ∨ k = 2 := by omega
    ·   have e0 : wr.cell? ⟨n0 + 1 + 1 + 1, 0 * 2, none⟩ = some (.int .i64 wa) := by have h := HLIT.out wr hB; first | exact h.1 | exact h.2.2.1
        have e1 : wr.cell? ⟨n0 + 1 + 1 + 1, 0 * 2 + 1, none⟩ = some (.slice A la.length ca) := by have h := HLIT.out wr hB; first | exact h.2.1 | exact h.2.2.2
        have hBw := hB1.trans (hB.mono (by omega))
        obtain ⟨W4, hW4⟩ : ∃ W4, wr.alloc (.cells #[.int .i64 wa, .slice A la.length ca] 24) = W4 := ⟨_, rfl⟩
        have hb4 : Below wr.heap.size wr W4 := by rw [← hW4]; exact ext_alloc (Below.refl _ _)
        have hr4 : W4.heap[wr.heap.size]? = some (.cells #[.int .i64 wa, .slice A la.length ca] 24 (0, 0)) := by rw [← hW4]; exact heap_alloc_new _ _
        have HW4 := Lib.hid hW4
        have hszr := hB.size
        have hBw4 : Below n0 w W4 := hBw.trans (hb4.mono (by omega))
        have hB4 : Below n1 W1 W4 := hB.trans (hb4.mono (by omega))
        clear hW4
        simp only [Nat.zero_mul, Nat.one_mul, Nat.zero_add] at e0 e1
        go_upto_region 4 with (fail)
        rw [HW4.out]
        obtain ⟨x0, x1, _⟩ := blk2 hr4
        obtain ⟨pe, hpe⟩ : ∃ q, Hid (polE (wa, la) = q) := ⟨_, Lib.hid rfl⟩
        have HC := Lib.hid (polCheck_any A ca la.length wa la pe W4 rfl hpe.out ((H1.out W4 hBw4).more (fun g hg => by have : g < n0 := hg; have := hBw4.size; show g < W4.heap.size; omega)) (by omega))
        clear e0 e1 HW4 hr4
        go_wp2_with fail
        refine HC.out.mono ?_
        rintro e w5 ⟨rfl, hb5⟩
        have hB5 : Below n1 W1 w5 := hB4.trans (hb5.mono (by have := hb4.size; omega))
        have hBw5 : Below n0 w w5 := hBw4.trans (hb5.mono (by have := hb4.size; omega))
        clear HC x0 x1
        by_cases hx0 : pe = 0
        · have hx0' : (pe != 0) = false := by simp [hx0]
          have HX : Hid (polE (wa, la) = 0) := hpe.out.trans hx0
          clear hx0 hpe
          go_wp2_with fail
          go_roundw
          case rel => exact ⟨0 + 1, by omega, by go_num, hB5, fun _ => HX.out, fun h => by omega⟩
          case measure => simp [intOf]
        · have hx0' : (pe != 0) = true := by simp [hx0]
          have HX : Hid (mergeE (wa, la) (wb, lb) = pe ∧ mergeP (wa, la) (wb, lb) = zPol) := by
            have hm : mergeE (wa, la) (wb, lb) = pe := by
              unfold mergeE
              first
              | (rw [if_pos (by rw [hpe.out]; exact hx0), hpe.out]; done)
              | (rw [if_neg (by have := hp0.out (by omega); simp [this]), if_pos (by rw [hpe.out]; exact hx0), hpe.out]; done)
            exact ⟨hm, by unfold mergeP; rw [if_neg (by rw [hm]; exact hx0)]⟩
          clear hx0 hpe
          have hrz := HRZ.out w5 hB5
          obtain ⟨z0, z1, zf⟩ := blk2 hrz
          go_wp2_with fail
          try rw [Exit.noGoto_ret]
          have hz := blk2_set hrz (.int .i64 0) (.slice none 0 0)
          have hbe := ((hBw5.setCell (p := ⟨n0 + 1 + 1, 0, none⟩) (by show n0 ≤ n0 + 1 + 1; omega) (.int .i64 0)).setCell (p := ⟨n0 + 1 + 1, 1, none⟩) (by show n0 ≤ n0 + 1 + 1; omega) (.slice none 0 0))
          have hse := trivial
          change bodyPost _ _ _ _ _ ((w5.setCell ⟨(n0 + 1 + 1), 0, none⟩ (.int .i64 0)).setCell ⟨(n0 + 1 + 1), 1, none⟩ (.slice none 0 0))
          generalize (w5.setCell ⟨(n0 + 1 + 1), 0, none⟩ (.int .i64 0)).setCell ⟨(n0 + 1 + 1), 1, none⟩ (.slice none 0 0) = W3 at hz hbe hse ⊢
          obtain ⟨z0, z1, _⟩ := blk2 hz
          refine bodyPost_ret (v := .tuple #[.agg #[(.int .i64 0), (.slice none 0 0)], .int .i64 pe]) ?_ rfl ?_
          · simp [results, Tryz.results12, Tryz.f12, go_sem, z0, z1]
          rw [HX.out.1, HX.out.2]
          exact ⟨none, 0, rfl, by simp [zPol], by simp, SlAt.nil_, by rw [hn0]; exact hbe⟩
    ·   have e0 : wr.cell? ⟨n0 + 1 + 1 + 1, 1 * 2, none⟩ = some (.int .i64 wb) := by have h := HLIT.out wr hB; first | exact h.1 | exact h.2.2.1
        have e1 : wr.cell? ⟨n0 + 1 + 1 + 1, 1 * 2 + 1, none⟩ = some (.slice B lb.length cb) := by have h := HLIT.out wr hB; first | exact h.2.1 | exact h.2.2.2
        have hBw := hB1.trans (hB.mono (by omega))
        obtain ⟨W4, hW4⟩ : ∃ W4, wr.alloc (.cells #[.int .i64 wb, .slice B lb.length cb] 24) = W4 := ⟨_, rfl⟩
        have hb4 : Below wr.heap.size wr W4 := by rw [← hW4]; exact ext_alloc (Below.refl _ _)
        have hr4 : W4.heap[wr.heap.size]? = some (.cells #[.int .i64 wb, .slice B lb.length cb] 24 (0, 0)) := by rw [← hW4]; exact heap_alloc_new _ _
        have HW4 := Lib.hid hW4
        have hszr := hB.size
        have hBw4 : Below n0 w W4 := hBw.trans (hb4.mono (by omega))
        have hB4 : Below n1 W1 W4 := hB.trans (hb4.mono (by omega))
        clear hW4
        simp only [Nat.zero_mul, Nat.one_mul, Nat.zero_add] at e0 e1
        go_upto_region 4 with (fail)
        rw [HW4.out]
        obtain ⟨x0, x1, _⟩ := blk2 hr4
        obtain ⟨pe, hpe⟩ : ∃ q, Hid (polE (wb, lb) = q) := ⟨_, Lib.hid rfl⟩
        have HC := Lib.hid (polCheck_any B cb lb.length wb lb pe W4 rfl hpe.out ((H2.out W4 hBw4).more (fun g hg => by have : g < n0 := hg; have := hBw4.size; show g < W4.heap.size; omega)) (by omega))
        clear e0 e1 HW4 hr4
        go_wp2_with fail
        refine HC.out.mono ?_
        rintro e w5 ⟨rfl, hb5⟩
        have hB5 : Below n1 W1 w5 := hB4.trans (hb5.mono (by have := hb4.size; omega))
        have hBw5 : Below n0 w w5 := hBw4.trans (hb5.mono (by have := hb4.size; omega))
        clear HC x0 x1
        by_cases hx0 : pe = 0
        · have hx0' : (pe != 0) = false := by simp [hx0]
          have HX : Hid (polE (wb, lb) = 0) := hpe.out.trans hx0
          clear hx0 hpe
          go_wp2_with fail
          go_roundw
          case rel => exact ⟨1 + 1, by omega, by go_num, hB5, fun _ => hp0.out (by omega), fun _ => HX.out⟩
          case measure => simp [intOf]
        · have hx0' : (pe != 0) = true := by simp [hx0]
          have HX : Hid (mergeE (wa, la) (wb, lb) = pe ∧ mergeP (wa, la) (wb, lb) = zPol) := by
            have hm : mergeE (wa, la) (wb, lb) = pe := by
              unfold mergeE
              first
              | (rw [if_pos (by rw [hpe.out]; exact hx0), hpe.out]; done)
              | (rw [if_neg (by have := hp0.out (by omega); simp [this]), if_pos (by rw [hpe.out]; exact hx0), hpe.out]; done)
            exact ⟨hm, by unfold mergeP; rw [if_neg (by rw [hm]; exact hx0)]⟩
          clear hx0 hpe
          have hrz := HRZ.out w5 hB5
          obtain ⟨z0, z1, zf⟩ := blk2 hrz
          go_wp2_with fail
          try rw [Exit.noGoto_ret]
          have hz := blk2_set hrz (.int .i64 0) (.slice none 0 0)
          have hbe := ((hBw5.setCell (p := ⟨n0 + 1 + 1, 0, none⟩) (by show n0 ≤ n0 + 1 + 1; omega) (.int .i64 0)).setCell (p := ⟨n0 + 1 + 1, 1, none⟩) (by show n0 ≤ n0 + 1 + 1; omega) (.slice none 0 0))
          have hse := trivial
          change bodyPost _ _ _ _ _ ((w5.setCell ⟨(n0 + 1 + 1), 0, none⟩ (.int .i64 0)).setCell ⟨(n0 + 1 + 1), 1, none⟩ (.slice none 0 0))
          generalize (w5.setCell ⟨(n0 + 1 + 1), 0, none⟩ (.int .i64 0)).setCell ⟨(n0 + 1 + 1), 1, none⟩ (.slice none 0 0) = W3 at hz hbe hse ⊢
          obtain ⟨z0, z1, _⟩ := blk2 hz
          refine bodyPost_ret (v := .tuple #[.agg #[(.int .i64 0), (.slice none 0 0)], .int .i64 pe]) ?_ rfl ?_
          · simp [results, Tryz.results12, Tryz.f12, go_sem, z0, z1]
          rw [HX.out.1, HX.out.2]
          exact ⟨none, 0, rfl, by simp [zPol], by simp, SlAt.nil_, by rw [hn0]; exact hbe⟩
    · have HPA := Lib.hid (hp0.out (by omega))
      have HPB := Lib.hid (hp1.out (by omega))
      have hA := Lib.hid (polE_ok HPA.out)
      have hBp := Lib.hid (polE_ok HPB.out)
      have hBw := hB1.trans (hB.mono (by omega))
      have hszr := hB.size
      obtain ⟨⟨c0, c1⟩, c2, c3⟩ := HAB.out wr (fun g hg => hB.block g (by omega))
      go_upto_region 9 with (fail)
      obtain ⟨wm, hwm⟩ : ∃ wm, max wa wb = wm := ⟨_, rfl⟩
      rw [hwm]
      have HWM := Lib.hid hwm
      obtain ⟨ob, hob⟩ : ∃ ob, wr.heap.size = ob := ⟨_, rfl⟩
      obtain ⟨W5, hW5⟩ : ∃ W5, wr.alloc (.cells #[.int .i64 wm, .slice none 0 0] 24) = W5 := ⟨_, rfl⟩
      rw [hW5, hob]
      have hb5 : Below ob wr W5 := by rw [← hW5, ← hob]; exact ext_alloc (Below.refl _ _)
      have hr5 : W5.heap[ob]? = some (.cells #[.int .i64 wm, .slice none 0 0] 24 (0, 0)) := by rw [← hW5, ← hob]; exact heap_alloc_new _ _
      have hob1 : n1 ≤ ob := by omega
      have hB5 : Below n1 W1 W5 := hB.trans (hb5.mono hob1)
      have hBw5 : Below n0 w W5 := hBw.trans (hb5.mono (by omega))
      have hobl : ob < W5.heap.size := (Array.getElem?_eq_some_iff.1 hr5).1
      clear hwm hW5 c0 c1 c2 c3 hp0 hp1
      obtain ⟨⟨c0, c1⟩, c2, c3⟩ := HAB.out W5 (fun g hg => hB5.block g (by omega))
      go_quiet (fail)
      generalize hW6 : W5.drewN _ = W6
      have hr6 : W6.heap[ob]? = some (.cells #[.int .i64 wm, .slice none 0 0] 24 (0, 0)) := by rw [← hW6]; exact hr5
      have hB6 : Below n1 W1 W6 := by rw [← hW6]; exact bDrew hB5 _
      have hBw6 : Below n0 w W6 := by rw [← hW6]; exact bDrew hBw5 _
      obtain ⟨n6, hn6⟩ : ∃ n6, W6.heap.size = n6 := ⟨_, rfl⟩
      have hob6 : ob < n6 := by rw [← hn6]; exact (Array.getElem?_eq_some_iff.1 hr6).1
      clear hW6 hr5 hB5 hBw5 hobl c0 c1 c2 c3 hb5 hBw hszr hB
      go_wp2_with fail
      try go_step3
      go_wp2_with fail
      go_loopw [10, 11] (fun xv yv wr => ∃ (nx ny cax cay dc : Nat) (Ax Ay D : Option Addr) (xs ys out : List Rule), xv = .slice Ax nx cax ∧ yv = .slice Ay ny cay ∧ (nx ≤ cax ∧ cax ≤ 9223372036854775807) ∧ (ny ≤ cay ∧ cay ≤ 9223372036854775807) ∧ Hid (xs.length = nx ∧ ys.length = ny) ∧ Hid (out.length + nx + ny ≤ 16) ∧ Hid (∀ W, Below n0 w W → SlAt encExt W (Bl n0) Ax xs) ∧ Hid (∀ W, Below n0 w W → SlAt encExt W (Bl n0) Ay ys) ∧ Hid (mergeR la lb = out ++ mergeR xs ys) ∧ Hid (W6.grownBy wr (some ob)) ∧ Hid (wr.heap[ob]? = some (.cells #[.int .i64 wm, .slice D out.length dc] 24 (0, 0))) ∧ Hid (OwnX (fun _ => False) encExt wr n6 48 (.slice D out.length dc) out)) (fun xv yv _ => slLen xv + slLen yv)
      case atStart => exact ⟨la.length, lb.length, ca, cb, 0, A, B, none, la, lb, [], rfl, rfl, ⟨hca0, by omega⟩, ⟨hcb0, by omega⟩, ⟨rfl, rfl⟩, by rw [Hid]; have := hA.out.2.2.1; have := hBp.out.2.2.1; simp; omega, H1.out, H2.out, by simp [Hid], grown_reflR _ _, hr6, OwnX.nil_⟩
      case round =>
        obtain ⟨nx, ny, cax, cay, dc, Ax, Ay, D, xs, ys, out, rfl, rfl, ⟨hxc0, hxc1⟩, ⟨hyc0, hyc1⟩, HLN, HLE, HXS, HYS, HMR, HG, HOB, HO⟩ := hrel
        obtain ⟨wz, rfl⟩ : ∃ wz : World, wz = wr := ⟨_, rfl⟩
        have hBwz : Below n0 w wz := hBw6.grown HG.out (by omega) (fun g hg => by injection hg with hg; omega)
        have hxs := Lib.hid (HXS.out wz hBwz)
        have hys := Lib.hid (HYS.out wz hBwz)
        obtain ⟨hlx, hly⟩ := HLN.out
        have HLX := Lib.hid hlx
        have HLY := Lib.hid hly
        by_cases hx0 : nx = 0
        · have hnx0 : ((nx : Int) == 0) = true := by simp [hx0]
          have hnx0' : decide ((0 : Int) < nx) = false := decide_eq_false (by omega)
          by_cases hy0 : ny = 0
          · have hny0 : ((ny : Int) == 0) = true := by simp [hy0]
            have HF : Hid (mergeR la lb = out) := by
              rw [Hid, HMR.out, List.eq_nil_of_length_eq_zero (hlx.trans hx0), List.eq_nil_of_length_eq_zero (hly.trans hy0), mergeR_nil', List.append_nil]
            have hrz := HRZ.out wz (hB6.grown HG.out (by omega) (fun g hg => by injection hg with hg; omega))
            have hwE : Hid (polE (wa, la) = 0 ∧ polE (wb, lb) = 0) := ⟨HPA.out, HPB.out⟩
            obtain ⟨y0, y1, _⟩ := blk2 HOB.out
            obtain ⟨z0, z1, zf⟩ := blk2 hrz
            clear hlx hly hxs hys
            by_cases h8 : 8 < out.length
            · have h8' : (8 : Int) < out.length := by omega
              have HX : Hid (mergeE (wa, la) (wb, lb) = 6 ∧ mergeP (wa, la) (wb, lb) = zPol) := by
                have hm : mergeE (wa, la) (wb, lb) = 6 := by
                  unfold mergeE
                  rw [if_neg (by simp [hwE.out.1]), if_neg (by simp [hwE.out.2]), if_pos (by show 8 < (mergeR la lb).length; rw [HF.out]; exact h8)]
                exact ⟨hm, by unfold mergeP; rw [if_neg (by rw [hm]; decide)]⟩
              clear h8
              go_wp2_with fail
              try rw [Exit.noGoto_ret]
              have hz := blk2_set hrz (.int .i64 0) (.slice none 0 0)
              have hbe := ((hBwz.setCell (p := ⟨n0 + 1 + 1, 0, none⟩) (by show n0 ≤ n0 + 1 + 1; omega) (.int .i64 0)).setCell (p := ⟨n0 + 1 + 1, 1, none⟩) (by show n0 ≤ n0 + 1 + 1; omega) (.slice none 0 0))
              have hse := trivial
              change bodyPost _ _ _ _ _ ((wz.setCell ⟨(n0 + 1 + 1), 0, none⟩ (.int .i64 0)).setCell ⟨(n0 + 1 + 1), 1, none⟩ (.slice none 0 0))
              generalize (wz.setCell ⟨(n0 + 1 + 1), 0, none⟩ (.int .i64 0)).setCell ⟨(n0 + 1 + 1), 1, none⟩ (.slice none 0 0) = W3 at hz hbe hse ⊢
              obtain ⟨z0, z1, _⟩ := blk2 hz
              refine bodyPost_ret (v := .tuple #[.agg #[(.int .i64 0), (.slice none 0 0)], .int .i64 6]) ?_ rfl ?_
              · simp [results, Tryz.results12, Tryz.f12, go_sem, z0, z1]
              rw [HX.out.1, HX.out.2]
              exact ⟨none, 0, rfl, by simp [zPol], by simp, SlAt.nil_, by rw [hn0]; exact hbe⟩
            · have h8' : ¬ (8 : Int) < out.length := by omega
              have HX : Hid (mergeE (wa, la) (wb, lb) = 0 ∧ mergeP (wa, la) (wb, lb) = (wm, out)) := by
                have hm : mergeE (wa, la) (wb, lb) = 0 := by
                  unfold mergeE
                  rw [if_neg (by simp [hwE.out.1]), if_neg (by simp [hwE.out.2]), if_neg (by show ¬ 8 < (mergeR la lb).length; rw [HF.out]; exact h8)]
                refine ⟨hm, ?_⟩
                unfold mergeP
                rw [if_pos hm]
                show (max wa wb, mergeR la lb) = _
                rw [HF.out, HWM.out]
              obtain ⟨_, o1, o2, o3⟩ := HO.out.parts
              clear h8
              go_wp2_with fail
              try rw [Exit.noGoto_ret]
              have hz := blk2_set hrz (.int .i64 wm) (.slice D out.length dc)
              have hbe := ((hBwz.setCell (p := ⟨n0 + 1 + 1, 0, none⟩) (by show n0 ≤ n0 + 1 + 1; omega) (.int .i64 wm)).setCell (p := ⟨n0 + 1 + 1, 1, none⟩) (by show n0 ≤ n0 + 1 + 1; omega) (.slice D out.length dc))
              have hse := (show SlAt encExt ((wz.setCell ⟨n0 + 1 + 1, 0, none⟩ (.int .i64 wm)).setCell ⟨n0 + 1 + 1, 1, none⟩ (.slice D out.length dc)) (Nw n0 ((wz.setCell ⟨n0 + 1 + 1, 0, none⟩ (.int .i64 wm)).setCell ⟨n0 + 1 + 1, 1, none⟩ (.slice D out.length dc)).heap.size) D out from (o3.blk (fun g hg => (heap_setCell_other _ ⟨n0 + 1 + 1, 1, none⟩ g _ (by have := hg.1.1; show g ≠ n0 + 1 + 1; omega)).trans (heap_setCell_other _ ⟨n0 + 1 + 1, 0, none⟩ g _ (by have := hg.1.1; show g ≠ n0 + 1 + 1; omega)))).more (fun g hg => ⟨by have := hg.1.1; omega, by have := hg.1.2; simp [World.setCell]; exact this⟩))
              change bodyPost _ _ _ _ _ ((wz.setCell ⟨(n0 + 1 + 1), 0, none⟩ (.int .i64 wm)).setCell ⟨(n0 + 1 + 1), 1, none⟩ (.slice D out.length dc))
              generalize (wz.setCell ⟨(n0 + 1 + 1), 0, none⟩ (.int .i64 wm)).setCell ⟨(n0 + 1 + 1), 1, none⟩ (.slice D out.length dc) = W3 at hz hbe hse ⊢
              obtain ⟨z0, z1, _⟩ := blk2 hz
              refine bodyPost_ret (v := .tuple #[.agg #[(.int .i64 wm), (.slice D out.length dc)], .int .i64 0]) ?_ rfl ?_
              · simp [results, Tryz.results12, Tryz.f12, go_sem, z0, z1]
              rw [HX.out.1, HX.out.2]
              exact ⟨D, dc, rfl, o1, o2, by rw [hn0]; exact hse, by rw [hn0]; exact hbe⟩
          · obtain ⟨by_, oy, ⟨ey, cy⟩, yt, hye, rfl, hby, gy0, gy1, iy0, iy1, hyt⟩ := (hys.out).uncons (by omega) cay (by omega)
            simp only at gy0 gy1 iy0 iy1
            have HYE := Lib.hid hye
            have HYT := Lib.hid hyt
            have HYL : Hid (yt.length + 1 = ny) := by rw [Hid, ← hly, hye]; rfl
            have hnyI : (0 : Int) < ny := by omega
            have hnyN : 0 < ny := by omega
            have hny1 : (1 : Int) ≤ ny := by omega
            have hcyN : 1 ≤ cay := by omega
            have hnye : ((ny : Int) == 0) = false := by simp; omega
            have hcyI : (1 : Int) ≤ cay := by omega
            have hycI : (ny : Int) ≤ cay := by omega
            clear hye hyt
            clear hlx hly hy0
            go_upto_region 13 with (fail)
            go_quiet (fail)
            generalize hWq : World.drewN wz _ = wq
            obtain ⟨HG, HOB, HO⟩ : Hid (W6.grownBy wq (some ob)) ∧ Hid (wq.heap[ob]? = some (.cells #[.int .i64 wm, .slice D out.length dc] 24 (0, 0))) ∧ Hid (OwnX (fun _ => False) encExt wq n6 48 (.slice D out.length dc) out) := by
              rw [← hWq]
              exact ⟨grown_drewR HG.out _, HOB.out, HO.out.below (bDrew (Below.refl _ _) _)⟩
            replace gy0 : wq.cell? ⟨by_, oy, none⟩ = some (.int .i64 ey) := by rw [← hWq]; exact gy0
            replace gy1 : wq.cell? ⟨by_, oy + 1, none⟩ = some (.int .i64 cy) := by rw [← hWq]; exact gy1
            clear hWq
            go_upto_region 15 with (fail)
            go_quiet (fail)
            generalize hWq : World.drewN wq _ = wp
            obtain ⟨HG, HOB, HO⟩ : Hid (W6.grownBy wp (some ob)) ∧ Hid (wp.heap[ob]? = some (.cells #[.int .i64 wm, .slice D out.length dc] 24 (0, 0))) ∧ Hid (OwnX (fun _ => False) encExt wp n6 48 (.slice D out.length dc) out) := by
              rw [← hWq]
              exact ⟨grown_drewR HG.out _, HOB.out, HO.out.below (bDrew (Below.refl _ _) _)⟩
            replace gy0 : wp.cell? ⟨by_, oy, none⟩ = some (.int .i64 ey) := by rw [← hWq]; exact gy0
            replace gy1 : wp.cell? ⟨by_, oy + 1, none⟩ = some (.int .i64 cy) := by rw [← hWq]; exact gy1
            clear hWq
            go_upto_region 16 with (fail)
            have hO4 := Lib.hid ((HO.out.below (Below.refl wp.heap.size wp).drew).alloc (.cells #[.int .i64 ey, .int .i64 cy] 48))
            have hO4o := Lib.hid hO4.out.1
            have HRD : Hid (encExt.rd (wp.drew.alloc (.cells #[.int .i64 ey, .int .i64 cy] 48)) (fun b => Nw n6 (wp.drew.alloc (.cells #[.int .i64 ey, .int .i64 cy] 48)).heap.size b ∧ ¬ (fun _ => False) b ∧ (Value.slice D out.length dc).ownBlock ≠ some b) [.int .i64 ey, .int .i64 cy] (ey, cy)) := ext_mk (x := (ey, cy)) iy0 iy1
            have hol : out.length ≤ 16 := by have := HLE.out; omega
            have hgz := HG.out.size
            have hal : ∀ b, b = ob ∨ b < n0 → b < wp.heap.size := fun b hb => by omega
            have HAL := Lib.hid hal
            have hoown : Hid (∀ b, b = ob ∨ b < n0 → (Value.slice D out.length dc).ownBlock ≠ some b) := fun b hb h => by have := (HO.out.lt b h).1; omega
            have HSY : Hid (∀ W : World, (∀ b, b = ob ∨ b < n0 → W.heap[b]? = wp.heap[b]?) → (W.cell? ⟨ob, 1, none⟩ = some (.slice D out.length dc) ∧ W.frozen? ⟨ob, 1, none⟩ = false) ∧ W.cell? ⟨by_, oy, none⟩ = some (.int .i64 ey) ∧ W.cell? ⟨by_, oy + 1, none⟩ = some (.int .i64 cy)) := fun W hb => by
              obtain ⟨_, q1, qf⟩ := blk2 ((hb ob (Or.inl rfl)).trans HOB.out)
              exact ⟨⟨q1, qf 1⟩, (World.cell?_of_block (a := ⟨by_, oy, none⟩) (hb by_ (Or.inr hby))).trans gy0, (World.cell?_of_block (a := ⟨by_, oy + 1, none⟩) (hb by_ (Or.inr hby))).trans gy1⟩
            obtain ⟨⟨s0, sf⟩, s2, s3⟩ := HSY.out wp.drew (fun _ _ => rfl)
            obtain ⟨⟨v0, vf⟩, v2, v3⟩ := HSY.out (wp.alloc (.cells #[.int .i64 ey, .int .i64 cy] 48)) (fun b hb => Below.heap_alloc wp _ b (hal b hb))
            obtain ⟨⟨u0, uf⟩, u2, u3⟩ := HSY.out (wp.drew.alloc (.cells #[.int .i64 ey, .int .i64 cy] 48)) (fun b hb => Below.heap_alloc wp.drew _ b (hal b hb))
            clear hal
            go_region_law (refine step_app1 (E := encExt) tyRules rfl _ _ rfl rfl hO4o.out (ey, cy) [.int .i64 ey, .int .i64 cy] rfl HRD.out (heap_alloc_new _ _) (fun _ h => h.1.2) (by simp; omega) (by unfold maxLen; omega) (by omega) ?_; intro A6 c6 w6 hown6 hg6 hat6; have hk6 : Hid (∀ b, b = ob ∨ b < n0 → w6.heap[b]? = wp.heap[b]?) := fun b hb => (hg6.block b (by have := HAL.out b hb; simp; omega) (fun e => hoown.out b hb e.symm)).trans (Below.heap_alloc wp.drew _ b (HAL.out b hb)); obtain ⟨⟨t0, tf⟩, t2, t3⟩ := HSY.out w6 hk6.out)
            all_goals
              have hro7 : Hid ((w6.setCell ⟨ob, 1, none⟩ (.slice A6 (out.length + 1) c6)).heap[ob]? = some (.cells #[.int .i64 wm, .slice A6 (out.length + 1) c6] 24 (0, 0))) := blk2_1 ((hk6.out ob (Or.inl rfl)).trans HOB.out) (.slice A6 (out.length + 1) c6)
              have hO7 : Hid (OwnX (fun _ => False) encExt (w6.setCell ⟨ob, 1, none⟩ (.slice A6 (out.length + 1) c6)) n6 48 (.slice A6 (out.length + 1) c6) (out ++ [(ey, cy)])) := by
                have h := hO4.out.app hown6 hg6 hat6 (fun b hb => hb.elim)
                refine h.keep (by simp [World.setCell]) (fun g hg _ _ => heap_setCell_other w6 ⟨ob, 1, none⟩ g _ (by show g ≠ ob; omega))
              have hlo := hO4.out.lt
              have hG7 : Hid (W6.grownBy (w6.setCell ⟨ob, 1, none⟩ (.slice A6 (out.length + 1) c6)) (some ob)) := by
                refine grown_setR ⟨hg6.os.trans HG.out.os, hg6.tape.trans HG.out.tape, hg6.output.trans HG.out.output, Nat.le_trans hgz (by have := hg6.size; simp at this; omega), fun k hk hn => ?_⟩ 1 _
                refine (hg6.block k (by simp; omega) (fun e => ?_)).trans ((Below.heap_alloc wp.drew _ k (by show k < wp.heap.size; omega)).trans (HG.out.block k hk hn))
                have := (hlo k e.symm).1
                omega
              have hle7 : (out ++ [(ey, cy)]).length = out.length + 1 := by simp
              have HL7 := Lib.hid hle7
              clear hown6 hg6 hat6 hk6 hlo hle7 t0 tf
              try clear s0 sf v0 vf u0 uf
              generalize w6.setCell ⟨ob, 1, none⟩ (.slice A6 (out.length + 1) c6) = w7 at hro7 hO7 hG7 ⊢
            all_goals
              (try go_simp)
              go_roundw
              case rel =>
                iterate 89 apply Exists.intro
                refine And.intro ?ql ?qr
                case qr => rfl
                case ql =>
                  exact ⟨0, ny - 1, cax, cay - 1, c6, Ax, (if cay = 1 then some ⟨by_, oy, none⟩ else some ⟨by_, oy + 2, none⟩), A6, xs, yt, out ++ [(ey, cy)], rfl, rfl, ⟨by omega, by omega⟩, ⟨by omega, by omega⟩, ⟨HLX.out.trans hx0, by have := HYL.out; omega⟩, by rw [Hid, HL7.out]; have := HLE.out; omega, HXS.out, (fun W hW => HYT.out.blk (fun b hb => (hW.block b hb).trans (hBwz.block b hb).symm)), by rw [Hid, HMR.out]; rw [HYE.out, List.eq_nil_of_length_eq_zero (HLX.out.trans hx0), mergeR_nil', mergeR_nil']; simp, hG7.out, by rw [Hid, HL7.out]; exact hro7.out, by rw [Hid, HL7.out]; exact hO7.out⟩
              case measure => simp [slLen]; omega
        · by_cases hy0 : ny = 0
          · have hny0 : ((ny : Int) == 0) = true := by simp [hy0]
            obtain ⟨bx, ox, ⟨ex, cx⟩, xt, hxe, rfl, hbx, gx0, gx1, ix0, ix1, hxt⟩ := (hxs.out).uncons (by omega) cax (by omega)
            simp only at gx0 gx1 ix0 ix1
            have HXE := Lib.hid hxe
            have HXT := Lib.hid hxt
            have HXL : Hid (xt.length + 1 = nx) := by rw [Hid, ← hlx, hxe]; rfl
            have hnxI : (0 : Int) < nx := by omega
            have hnxN : 0 < nx := by omega
            have hnx1 : (1 : Int) ≤ nx := by omega
            have hcxN : 1 ≤ cax := by omega
            have hnxe : ((nx : Int) == 0) = false := by simp; omega
            have hcxI : (1 : Int) ≤ cax := by omega
            have hxcI : (nx : Int) ≤ cax := by omega
            clear hxe hxt
            clear hlx hly hx0
            go_upto_region 13 with (fail)
            go_quiet (fail)
            generalize hWq : World.drewN wz _ = wq
            obtain ⟨HG, HOB, HO⟩ : Hid (W6.grownBy wq (some ob)) ∧ Hid (wq.heap[ob]? = some (.cells #[.int .i64 wm, .slice D out.length dc] 24 (0, 0))) ∧ Hid (OwnX (fun _ => False) encExt wq n6 48 (.slice D out.length dc) out) := by
              rw [← hWq]
              exact ⟨grown_drewR HG.out _, HOB.out, HO.out.below (bDrew (Below.refl _ _) _)⟩
            replace gx0 : wq.cell? ⟨bx, ox, none⟩ = some (.int .i64 ex) := by rw [← hWq]; exact gx0
            replace gx1 : wq.cell? ⟨bx, ox + 1, none⟩ = some (.int .i64 cx) := by rw [← hWq]; exact gx1
            clear hWq
            go_upto_region 14 with (fail)
            have hO4 := Lib.hid ((HO.out.below (Below.refl wq.heap.size wq).drew).alloc (.cells #[.int .i64 ex, .int .i64 cx] 48))
            have hO4o := Lib.hid hO4.out.1
            have HRD : Hid (encExt.rd (wq.drew.alloc (.cells #[.int .i64 ex, .int .i64 cx] 48)) (fun b => Nw n6 (wq.drew.alloc (.cells #[.int .i64 ex, .int .i64 cx] 48)).heap.size b ∧ ¬ (fun _ => False) b ∧ (Value.slice D out.length dc).ownBlock ≠ some b) [.int .i64 ex, .int .i64 cx] (ex, cx)) := ext_mk (x := (ex, cx)) ix0 ix1
            have hol : out.length ≤ 16 := by have := HLE.out; omega
            have hgz := HG.out.size
            have hal : ∀ b, b = ob ∨ b < n0 → b < wq.heap.size := fun b hb => by omega
            have HAL := Lib.hid hal
            have hoown : Hid (∀ b, b = ob ∨ b < n0 → (Value.slice D out.length dc).ownBlock ≠ some b) := fun b hb h => by have := (HO.out.lt b h).1; omega
            have HSY : Hid (∀ W : World, (∀ b, b = ob ∨ b < n0 → W.heap[b]? = wq.heap[b]?) → (W.cell? ⟨ob, 1, none⟩ = some (.slice D out.length dc) ∧ W.frozen? ⟨ob, 1, none⟩ = false) ∧ W.cell? ⟨bx, ox, none⟩ = some (.int .i64 ex) ∧ W.cell? ⟨bx, ox + 1, none⟩ = some (.int .i64 cx)) := fun W hb => by
              obtain ⟨_, q1, qf⟩ := blk2 ((hb ob (Or.inl rfl)).trans HOB.out)
              exact ⟨⟨q1, qf 1⟩, (World.cell?_of_block (a := ⟨bx, ox, none⟩) (hb bx (Or.inr hbx))).trans gx0, (World.cell?_of_block (a := ⟨bx, ox + 1, none⟩) (hb bx (Or.inr hbx))).trans gx1⟩
            obtain ⟨⟨s0, sf⟩, s2, s3⟩ := HSY.out wq.drew (fun _ _ => rfl)
            obtain ⟨⟨v0, vf⟩, v2, v3⟩ := HSY.out (wq.alloc (.cells #[.int .i64 ex, .int .i64 cx] 48)) (fun b hb => Below.heap_alloc wq _ b (hal b hb))
            obtain ⟨⟨u0, uf⟩, u2, u3⟩ := HSY.out (wq.drew.alloc (.cells #[.int .i64 ex, .int .i64 cx] 48)) (fun b hb => Below.heap_alloc wq.drew _ b (hal b hb))
            clear hal
            go_region_law (refine step_app1 (E := encExt) tyRules rfl _ _ rfl rfl hO4o.out (ex, cx) [.int .i64 ex, .int .i64 cx] rfl HRD.out (heap_alloc_new _ _) (fun _ h => h.1.2) (by simp; omega) (by unfold maxLen; omega) (by omega) ?_; intro A6 c6 w6 hown6 hg6 hat6; have hk6 : Hid (∀ b, b = ob ∨ b < n0 → w6.heap[b]? = wq.heap[b]?) := fun b hb => (hg6.block b (by have := HAL.out b hb; simp; omega) (fun e => hoown.out b hb e.symm)).trans (Below.heap_alloc wq.drew _ b (HAL.out b hb)); obtain ⟨⟨t0, tf⟩, t2, t3⟩ := HSY.out w6 hk6.out)
            all_goals
              have hro7 : Hid ((w6.setCell ⟨ob, 1, none⟩ (.slice A6 (out.length + 1) c6)).heap[ob]? = some (.cells #[.int .i64 wm, .slice A6 (out.length + 1) c6] 24 (0, 0))) := blk2_1 ((hk6.out ob (Or.inl rfl)).trans HOB.out) (.slice A6 (out.length + 1) c6)
              have hO7 : Hid (OwnX (fun _ => False) encExt (w6.setCell ⟨ob, 1, none⟩ (.slice A6 (out.length + 1) c6)) n6 48 (.slice A6 (out.length + 1) c6) (out ++ [(ex, cx)])) := by
                have h := hO4.out.app hown6 hg6 hat6 (fun b hb => hb.elim)
                refine h.keep (by simp [World.setCell]) (fun g hg _ _ => heap_setCell_other w6 ⟨ob, 1, none⟩ g _ (by show g ≠ ob; omega))
              have hlo := hO4.out.lt
              have hG7 : Hid (W6.grownBy (w6.setCell ⟨ob, 1, none⟩ (.slice A6 (out.length + 1) c6)) (some ob)) := by
                refine grown_setR ⟨hg6.os.trans HG.out.os, hg6.tape.trans HG.out.tape, hg6.output.trans HG.out.output, Nat.le_trans hgz (by have := hg6.size; simp at this; omega), fun k hk hn => ?_⟩ 1 _
                refine (hg6.block k (by simp; omega) (fun e => ?_)).trans ((Below.heap_alloc wq.drew _ k (by show k < wq.heap.size; omega)).trans (HG.out.block k hk hn))
                have := (hlo k e.symm).1
                omega
              have hle7 : (out ++ [(ex, cx)]).length = out.length + 1 := by simp
              have HL7 := Lib.hid hle7
              clear hown6 hg6 hat6 hk6 hlo hle7 t0 tf
              try clear s0 sf v0 vf u0 uf
              generalize w6.setCell ⟨ob, 1, none⟩ (.slice A6 (out.length + 1) c6) = w7 at hro7 hO7 hG7 ⊢
            all_goals
              (try go_simp)
              go_roundw
              case rel =>
                iterate 89 apply Exists.intro
                refine And.intro ?ql ?qr
                case qr => rfl
                case ql =>
                  exact ⟨nx - 1, 0, cax - 1, cay, c6, (if cax = 1 then some ⟨bx, ox, none⟩ else some ⟨bx, ox + 2, none⟩), Ay, A6, xt, ys, out ++ [(ex, cx)], rfl, rfl, ⟨by omega, by omega⟩, ⟨by omega, by omega⟩, ⟨by have := HXL.out; omega, HLY.out.trans hy0⟩, by rw [Hid, HL7.out]; have := HLE.out; omega, (fun W hW => HXT.out.blk (fun b hb => (hW.block b hb).trans (hBwz.block b hb).symm)), HYS.out, by rw [Hid, HMR.out]; rw [HXE.out, List.eq_nil_of_length_eq_zero (HLY.out.trans hy0), mergeR_nil, mergeR_nil]; simp, hG7.out, by rw [Hid, HL7.out]; exact hro7.out, by rw [Hid, HL7.out]; exact hO7.out⟩
              case measure => simp [slLen]; omega
          · obtain ⟨bx, ox, ⟨ex, cx⟩, xt, hxe, rfl, hbx, gx0, gx1, ix0, ix1, hxt⟩ := (hxs.out).uncons (by omega) cax (by omega)
            simp only at gx0 gx1 ix0 ix1
            have HXE := Lib.hid hxe
            have HXT := Lib.hid hxt
            have HXL : Hid (xt.length + 1 = nx) := by rw [Hid, ← hlx, hxe]; rfl
            have hnxI : (0 : Int) < nx := by omega
            have hnxN : 0 < nx := by omega
            have hnx1 : (1 : Int) ≤ nx := by omega
            have hcxN : 1 ≤ cax := by omega
            have hnxe : ((nx : Int) == 0) = false := by simp; omega
            have hcxI : (1 : Int) ≤ cax := by omega
            have hxcI : (nx : Int) ≤ cax := by omega
            clear hxe hxt
            obtain ⟨by_, oy, ⟨ey, cy⟩, yt, hye, rfl, hby, gy0, gy1, iy0, iy1, hyt⟩ := (hys.out).uncons (by omega) cay (by omega)
            simp only at gy0 gy1 iy0 iy1
            have HYE := Lib.hid hye
            have HYT := Lib.hid hyt
            have HYL : Hid (yt.length + 1 = ny) := by rw [Hid, ← hly, hye]; rfl
            have hnyI : (0 : Int) < ny := by omega
            have hnyN : 0 < ny := by omega
            have hny1 : (1 : Int) ≤ ny := by omega
            have hcyN : 1 ≤ cay := by omega
            have hnye : ((ny : Int) == 0) = false := by simp; omega
            have hcyI : (1 : Int) ≤ cay := by omega
            have hycI : (ny : Int) ≤ cay := by omega
            clear hye hyt
            clear hlx hly hx0 hy0
            by_cases hxy : ex < ey
            · have hd : decide (ex < ey) = true := decide_eq_true hxy
              go_upto_region 13 with (fail)
              go_quiet (fail)
              generalize hWq : World.drewN wz _ = wq
              obtain ⟨HG, HOB, HO⟩ : Hid (W6.grownBy wq (some ob)) ∧ Hid (wq.heap[ob]? = some (.cells #[.int .i64 wm, .slice D out.length dc] 24 (0, 0))) ∧ Hid (OwnX (fun _ => False) encExt wq n6 48 (.slice D out.length dc) out) := by
                rw [← hWq]
                exact ⟨grown_drewR HG.out _, HOB.out, HO.out.below (bDrew (Below.refl _ _) _)⟩
              replace gx0 : wq.cell? ⟨bx, ox, none⟩ = some (.int .i64 ex) := by rw [← hWq]; exact gx0
              replace gx1 : wq.cell? ⟨bx, ox + 1, none⟩ = some (.int .i64 cx) := by rw [← hWq]; exact gx1
              clear hWq
              go_upto_region 14 with (fail)
              have hO4 := Lib.hid ((HO.out.below (Below.refl wq.heap.size wq).drew).alloc (.cells #[.int .i64 ex, .int .i64 cx] 48))
              have hO4o := Lib.hid hO4.out.1
              have HRD : Hid (encExt.rd (wq.drew.alloc (.cells #[.int .i64 ex, .int .i64 cx] 48)) (fun b => Nw n6 (wq.drew.alloc (.cells #[.int .i64 ex, .int .i64 cx] 48)).heap.size b ∧ ¬ (fun _ => False) b ∧ (Value.slice D out.length dc).ownBlock ≠ some b) [.int .i64 ex, .int .i64 cx] (ex, cx)) := ext_mk (x := (ex, cx)) ix0 ix1
              have hol : out.length ≤ 16 := by have := HLE.out; omega
              have hgz := HG.out.size
              have hal : ∀ b, b = ob ∨ b < n0 → b < wq.heap.size := fun b hb => by omega
              have HAL := Lib.hid hal
              have hoown : Hid (∀ b, b = ob ∨ b < n0 → (Value.slice D out.length dc).ownBlock ≠ some b) := fun b hb h => by have := (HO.out.lt b h).1; omega
              have HSY : Hid (∀ W : World, (∀ b, b = ob ∨ b < n0 → W.heap[b]? = wq.heap[b]?) → (W.cell? ⟨ob, 1, none⟩ = some (.slice D out.length dc) ∧ W.frozen? ⟨ob, 1, none⟩ = false) ∧ W.cell? ⟨bx, ox, none⟩ = some (.int .i64 ex) ∧ W.cell? ⟨bx, ox + 1, none⟩ = some (.int .i64 cx)) := fun W hb => by
                obtain ⟨_, q1, qf⟩ := blk2 ((hb ob (Or.inl rfl)).trans HOB.out)
                exact ⟨⟨q1, qf 1⟩, (World.cell?_of_block (a := ⟨bx, ox, none⟩) (hb bx (Or.inr hbx))).trans gx0, (World.cell?_of_block (a := ⟨bx, ox + 1, none⟩) (hb bx (Or.inr hbx))).trans gx1⟩
              obtain ⟨⟨s0, sf⟩, s2, s3⟩ := HSY.out wq.drew (fun _ _ => rfl)
              obtain ⟨⟨v0, vf⟩, v2, v3⟩ := HSY.out (wq.alloc (.cells #[.int .i64 ex, .int .i64 cx] 48)) (fun b hb => Below.heap_alloc wq _ b (hal b hb))
              obtain ⟨⟨u0, uf⟩, u2, u3⟩ := HSY.out (wq.drew.alloc (.cells #[.int .i64 ex, .int .i64 cx] 48)) (fun b hb => Below.heap_alloc wq.drew _ b (hal b hb))
              clear hal
              go_region_law (refine step_app1 (E := encExt) tyRules rfl _ _ rfl rfl hO4o.out (ex, cx) [.int .i64 ex, .int .i64 cx] rfl HRD.out (heap_alloc_new _ _) (fun _ h => h.1.2) (by simp; omega) (by unfold maxLen; omega) (by omega) ?_; intro A6 c6 w6 hown6 hg6 hat6; have hk6 : Hid (∀ b, b = ob ∨ b < n0 → w6.heap[b]? = wq.heap[b]?) := fun b hb => (hg6.block b (by have := HAL.out b hb; simp; omega) (fun e => hoown.out b hb e.symm)).trans (Below.heap_alloc wq.drew _ b (HAL.out b hb)); obtain ⟨⟨t0, tf⟩, t2, t3⟩ := HSY.out w6 hk6.out)
              all_goals
                have hro7 : Hid ((w6.setCell ⟨ob, 1, none⟩ (.slice A6 (out.length + 1) c6)).heap[ob]? = some (.cells #[.int .i64 wm, .slice A6 (out.length + 1) c6] 24 (0, 0))) := blk2_1 ((hk6.out ob (Or.inl rfl)).trans HOB.out) (.slice A6 (out.length + 1) c6)
                have hO7 : Hid (OwnX (fun _ => False) encExt (w6.setCell ⟨ob, 1, none⟩ (.slice A6 (out.length + 1) c6)) n6 48 (.slice A6 (out.length + 1) c6) (out ++ [(ex, cx)])) := by
                  have h := hO4.out.app hown6 hg6 hat6 (fun b hb => hb.elim)
                  refine h.keep (by simp [World.setCell]) (fun g hg _ _ => heap_setCell_other w6 ⟨ob, 1, none⟩ g _ (by show g ≠ ob; omega))
                have hlo := hO4.out.lt
                have hG7 : Hid (W6.grownBy (w6.setCell ⟨ob, 1, none⟩ (.slice A6 (out.length + 1) c6)) (some ob)) := by
                  refine grown_setR ⟨hg6.os.trans HG.out.os, hg6.tape.trans HG.out.tape, hg6.output.trans HG.out.output, Nat.le_trans hgz (by have := hg6.size; simp at this; omega), fun k hk hn => ?_⟩ 1 _
                  refine (hg6.block k (by simp; omega) (fun e => ?_)).trans ((Below.heap_alloc wq.drew _ k (by show k < wq.heap.size; omega)).trans (HG.out.block k hk hn))
                  have := (hlo k e.symm).1
                  omega
                have hle7 : (out ++ [(ex, cx)]).length = out.length + 1 := by simp
                have HL7 := Lib.hid hle7
                clear hown6 hg6 hat6 hk6 hlo hle7 t0 tf
                try clear s0 sf v0 vf u0 uf
                generalize w6.setCell ⟨ob, 1, none⟩ (.slice A6 (out.length + 1) c6) = w7 at hro7 hO7 hG7 ⊢
              all_goals
                (try go_simp)
                go_roundw
                case rel =>
                  iterate 89 apply Exists.intro
                  refine And.intro ?ql ?qr
                  case qr => rfl
                  case ql =>
                    exact ⟨nx - 1, ny, cax - 1, cay, c6, (if cax = 1 then some ⟨bx, ox, none⟩ else some ⟨bx, ox + 2, none⟩), (some ⟨by_, oy, none⟩), A6, xt, ys, out ++ [(ex, cx)], rfl, rfl, ⟨by omega, by omega⟩, ⟨by omega, by omega⟩, ⟨by have := HXL.out; omega, HLY.out⟩, by rw [Hid, HL7.out]; have := HLE.out; omega, (fun W hW => HXT.out.blk (fun b hb => (hW.block b hb).trans (hBwz.block b hb).symm)), HYS.out, by rw [Hid, HMR.out]; rw [HXE.out, HYE.out, mergeR_lt (a := (ex, cx)) (b := (ey, cy)) hxy]; simp, hG7.out, by rw [Hid, HL7.out]; exact hro7.out, by rw [Hid, HL7.out]; exact hO7.out⟩
                case measure => simp [slLen]; omega
            have hd : decide (ex < ey) = false := decide_eq_false hxy
            by_cases hyx : ey < ex
            · have hd2 : decide (ey < ex) = true := decide_eq_true hyx
              go_upto_region 13 with (fail)
              go_quiet (fail)
              generalize hWq : World.drewN wz _ = wq
              obtain ⟨HG, HOB, HO⟩ : Hid (W6.grownBy wq (some ob)) ∧ Hid (wq.heap[ob]? = some (.cells #[.int .i64 wm, .slice D out.length dc] 24 (0, 0))) ∧ Hid (OwnX (fun _ => False) encExt wq n6 48 (.slice D out.length dc) out) := by
                rw [← hWq]
                exact ⟨grown_drewR HG.out _, HOB.out, HO.out.below (bDrew (Below.refl _ _) _)⟩
              replace gx0 : wq.cell? ⟨bx, ox, none⟩ = some (.int .i64 ex) := by rw [← hWq]; exact gx0
              replace gx1 : wq.cell? ⟨bx, ox + 1, none⟩ = some (.int .i64 cx) := by rw [← hWq]; exact gx1
              replace gy0 : wq.cell? ⟨by_, oy, none⟩ = some (.int .i64 ey) := by rw [← hWq]; exact gy0
              replace gy1 : wq.cell? ⟨by_, oy + 1, none⟩ = some (.int .i64 cy) := by rw [← hWq]; exact gy1
              clear hWq
              go_upto_region 15 with (fail)
              go_quiet (fail)
              generalize hWq : World.drewN wq _ = wp
              obtain ⟨HG, HOB, HO⟩ : Hid (W6.grownBy wp (some ob)) ∧ Hid (wp.heap[ob]? = some (.cells #[.int .i64 wm, .slice D out.length dc] 24 (0, 0))) ∧ Hid (OwnX (fun _ => False) encExt wp n6 48 (.slice D out.length dc) out) := by
                rw [← hWq]
                exact ⟨grown_drewR HG.out _, HOB.out, HO.out.below (bDrew (Below.refl _ _) _)⟩
              replace gy0 : wp.cell? ⟨by_, oy, none⟩ = some (.int .i64 ey) := by rw [← hWq]; exact gy0
              replace gy1 : wp.cell? ⟨by_, oy + 1, none⟩ = some (.int .i64 cy) := by rw [← hWq]; exact gy1
              clear hWq gx0 gx1
              go_upto_region 16 with (fail)
              have hO4 := Lib.hid ((HO.out.below (Below.refl wp.heap.size wp).drew).alloc (.cells #[.int .i64 ey, .int .i64 cy] 48))
              have hO4o := Lib.hid hO4.out.1
              have HRD : Hid (encExt.rd (wp.drew.alloc (.cells #[.int .i64 ey, .int .i64 cy] 48)) (fun b => Nw n6 (wp.drew.alloc (.cells #[.int .i64 ey, .int .i64 cy] 48)).heap.size b ∧ ¬ (fun _ => False) b ∧ (Value.slice D out.length dc).ownBlock ≠ some b) [.int .i64 ey, .int .i64 cy] (ey, cy)) := ext_mk (x := (ey, cy)) iy0 iy1
              have hol : out.length ≤ 16 := by have := HLE.out; omega
              have hgz := HG.out.size
              have hal : ∀ b, b = ob ∨ b < n0 → b < wp.heap.size := fun b hb => by omega
              have HAL := Lib.hid hal
              have hoown : Hid (∀ b, b = ob ∨ b < n0 → (Value.slice D out.length dc).ownBlock ≠ some b) := fun b hb h => by have := (HO.out.lt b h).1; omega
              have HSY : Hid (∀ W : World, (∀ b, b = ob ∨ b < n0 → W.heap[b]? = wp.heap[b]?) → (W.cell? ⟨ob, 1, none⟩ = some (.slice D out.length dc) ∧ W.frozen? ⟨ob, 1, none⟩ = false) ∧ W.cell? ⟨by_, oy, none⟩ = some (.int .i64 ey) ∧ W.cell? ⟨by_, oy + 1, none⟩ = some (.int .i64 cy)) := fun W hb => by
                obtain ⟨_, q1, qf⟩ := blk2 ((hb ob (Or.inl rfl)).trans HOB.out)
                exact ⟨⟨q1, qf 1⟩, (World.cell?_of_block (a := ⟨by_, oy, none⟩) (hb by_ (Or.inr hby))).trans gy0, (World.cell?_of_block (a := ⟨by_, oy + 1, none⟩) (hb by_ (Or.inr hby))).trans gy1⟩
              obtain ⟨⟨s0, sf⟩, s2, s3⟩ := HSY.out wp.drew (fun _ _ => rfl)
              obtain ⟨⟨v0, vf⟩, v2, v3⟩ := HSY.out (wp.alloc (.cells #[.int .i64 ey, .int .i64 cy] 48)) (fun b hb => Below.heap_alloc wp _ b (hal b hb))
              obtain ⟨⟨u0, uf⟩, u2, u3⟩ := HSY.out (wp.drew.alloc (.cells #[.int .i64 ey, .int .i64 cy] 48)) (fun b hb => Below.heap_alloc wp.drew _ b (hal b hb))
              clear hal
              go_region_law (refine step_app1 (E := encExt) tyRules rfl _ _ rfl rfl hO4o.out (ey, cy) [.int .i64 ey, .int .i64 cy] rfl HRD.out (heap_alloc_new _ _) (fun _ h => h.1.2) (by simp; omega) (by unfold maxLen; omega) (by omega) ?_; intro A6 c6 w6 hown6 hg6 hat6; have hk6 : Hid (∀ b, b = ob ∨ b < n0 → w6.heap[b]? = wp.heap[b]?) := fun b hb => (hg6.block b (by have := HAL.out b hb; simp; omega) (fun e => hoown.out b hb e.symm)).trans (Below.heap_alloc wp.drew _ b (HAL.out b hb)); obtain ⟨⟨t0, tf⟩, t2, t3⟩ := HSY.out w6 hk6.out)
              all_goals
                have hro7 : Hid ((w6.setCell ⟨ob, 1, none⟩ (.slice A6 (out.length + 1) c6)).heap[ob]? = some (.cells #[.int .i64 wm, .slice A6 (out.length + 1) c6] 24 (0, 0))) := blk2_1 ((hk6.out ob (Or.inl rfl)).trans HOB.out) (.slice A6 (out.length + 1) c6)
                have hO7 : Hid (OwnX (fun _ => False) encExt (w6.setCell ⟨ob, 1, none⟩ (.slice A6 (out.length + 1) c6)) n6 48 (.slice A6 (out.length + 1) c6) (out ++ [(ey, cy)])) := by
                  have h := hO4.out.app hown6 hg6 hat6 (fun b hb => hb.elim)
                  refine h.keep (by simp [World.setCell]) (fun g hg _ _ => heap_setCell_other w6 ⟨ob, 1, none⟩ g _ (by show g ≠ ob; omega))
                have hlo := hO4.out.lt
                have hG7 : Hid (W6.grownBy (w6.setCell ⟨ob, 1, none⟩ (.slice A6 (out.length + 1) c6)) (some ob)) := by
                  refine grown_setR ⟨hg6.os.trans HG.out.os, hg6.tape.trans HG.out.tape, hg6.output.trans HG.out.output, Nat.le_trans hgz (by have := hg6.size; simp at this; omega), fun k hk hn => ?_⟩ 1 _
                  refine (hg6.block k (by simp; omega) (fun e => ?_)).trans ((Below.heap_alloc wp.drew _ k (by show k < wp.heap.size; omega)).trans (HG.out.block k hk hn))
                  have := (hlo k e.symm).1
                  omega
                have hle7 : (out ++ [(ey, cy)]).length = out.length + 1 := by simp
                have HL7 := Lib.hid hle7
                clear hown6 hg6 hat6 hk6 hlo hle7 t0 tf
                try clear s0 sf v0 vf u0 uf
                generalize w6.setCell ⟨ob, 1, none⟩ (.slice A6 (out.length + 1) c6) = w7 at hro7 hO7 hG7 ⊢
              all_goals
                (try go_simp)
                go_roundw
                case rel =>
                  iterate 89 apply Exists.intro
                  refine And.intro ?ql ?qr
                  case qr => rfl
                  case ql =>
                    exact ⟨nx, ny - 1, cax, cay - 1, c6, (some ⟨bx, ox, none⟩), (if cay = 1 then some ⟨by_, oy, none⟩ else some ⟨by_, oy + 2, none⟩), A6, xs, yt, out ++ [(ey, cy)], rfl, rfl, ⟨by omega, by omega⟩, ⟨by omega, by omega⟩, ⟨HLX.out, by have := HYL.out; omega⟩, by rw [Hid, HL7.out]; have := HLE.out; omega, HXS.out, (fun W hW => HYT.out.blk (fun b hb => (hW.block b hb).trans (hBwz.block b hb).symm)), by rw [Hid, HMR.out]; rw [HXE.out, HYE.out, mergeR_gt (a := (ex, cx)) (b := (ey, cy)) hyx]; simp, hG7.out, by rw [Hid, HL7.out]; exact hro7.out, by rw [Hid, HL7.out]; exact hO7.out⟩
                case measure => simp [slLen]; omega
            · have hd2 : decide (ey < ex) = false := decide_eq_false hyx
              have hxe2 : ex = ey := by omega
              have HXYE := Lib.hid hxe2
              obtain ⟨cm, hcm⟩ : ∃ cm, max cx cy = cm := ⟨_, rfl⟩
              have HCM := Lib.hid hcm
              have hicm : I64 cm := by unfold I64 at *; omega
              clear hxe2
              go_upto_region 13 with (fail)
              go_quiet (fail)
              generalize hWq : World.drewN wz _ = wq
              obtain ⟨HG, HOB, HO⟩ : Hid (W6.grownBy wq (some ob)) ∧ Hid (wq.heap[ob]? = some (.cells #[.int .i64 wm, .slice D out.length dc] 24 (0, 0))) ∧ Hid (OwnX (fun _ => False) encExt wq n6 48 (.slice D out.length dc) out) := by
                rw [← hWq]
                exact ⟨grown_drewR HG.out _, HOB.out, HO.out.below (bDrew (Below.refl _ _) _)⟩
              replace gx0 : wq.cell? ⟨bx, ox, none⟩ = some (.int .i64 ex) := by rw [← hWq]; exact gx0
              replace gx1 : wq.cell? ⟨bx, ox + 1, none⟩ = some (.int .i64 cx) := by rw [← hWq]; exact gx1
              replace gy0 : wq.cell? ⟨by_, oy, none⟩ = some (.int .i64 ey) := by rw [← hWq]; exact gy0
              replace gy1 : wq.cell? ⟨by_, oy + 1, none⟩ = some (.int .i64 cy) := by rw [← hWq]; exact gy1
              clear hWq
              go_upto_region 15 with (fail)
              go_quiet (fail)
              generalize hWq : World.drewN wq _ = wp
              obtain ⟨HG, HOB, HO⟩ : Hid (W6.grownBy wp (some ob)) ∧ Hid (wp.heap[ob]? = some (.cells #[.int .i64 wm, .slice D out.length dc] 24 (0, 0))) ∧ Hid (OwnX (fun _ => False) encExt wp n6 48 (.slice D out.length dc) out) := by
                rw [← hWq]
                exact ⟨grown_drewR HG.out _, HOB.out, HO.out.below (bDrew (Below.refl _ _) _)⟩
              replace gx0 : wp.cell? ⟨bx, ox, none⟩ = some (.int .i64 ex) := by rw [← hWq]; exact gx0
              replace gx1 : wp.cell? ⟨bx, ox + 1, none⟩ = some (.int .i64 cx) := by rw [← hWq]; exact gx1
              replace gy0 : wp.cell? ⟨by_, oy, none⟩ = some (.int .i64 ey) := by rw [← hWq]; exact gy0
              replace gy1 : wp.cell? ⟨by_, oy + 1, none⟩ = some (.int .i64 cy) := by rw [← hWq]; exact gy1
              clear hWq
              go_upto_region 10 with (fail)
              go_cut [55] (fun _ wx => ∃ (A6 : Option Addr) (c6 : Nat), Hid (W6.grownBy wx (some ob)) ∧ Hid (wx.heap[ob]? = some (.cells #[.int .i64 wm, .slice A6 (out.length + 1) c6] 24 (0, 0))) ∧ Hid (OwnX (fun _ => False) encExt wx n6 48 (.slice A6 (out.length + 1) c6) (out ++ [(ex, cm)])))
              case first =>
                have hO4 := Lib.hid ((HO.out.below (Below.refl wp.heap.size wp).drew).alloc (.cells #[.int .i64 ex, .int .i64 cm] 48))
                have hO4o := Lib.hid hO4.out.1
                have HRD : Hid (encExt.rd (wp.drew.alloc (.cells #[.int .i64 ex, .int .i64 cm] 48)) (fun b => Nw n6 (wp.drew.alloc (.cells #[.int .i64 ex, .int .i64 cm] 48)).heap.size b ∧ ¬ (fun _ => False) b ∧ (Value.slice D out.length dc).ownBlock ≠ some b) [.int .i64 ex, .int .i64 cm] (ex, cm)) := ext_mk (x := (ex, cm)) ix0 hicm
                have hol : out.length ≤ 16 := by have := HLE.out; omega
                have hgz := HG.out.size
                have hal : ∀ b, b = ob ∨ b < n0 → b < wp.heap.size := fun b hb => by omega
                have HAL := Lib.hid hal
                have hoown : Hid (∀ b, b = ob ∨ b < n0 → (Value.slice D out.length dc).ownBlock ≠ some b) := fun b hb h => by have := (HO.out.lt b h).1; omega
                have HSY : Hid (∀ W : World, (∀ b, b = ob ∨ b < n0 → W.heap[b]? = wp.heap[b]?) → (W.cell? ⟨ob, 1, none⟩ = some (.slice D out.length dc) ∧ W.frozen? ⟨ob, 1, none⟩ = false) ∧ W.cell? ⟨bx, ox, none⟩ = some (.int .i64 ex) ∧ W.cell? ⟨bx, ox + 1, none⟩ = some (.int .i64 cx) ∧ W.cell? ⟨by_, oy, none⟩ = some (.int .i64 ey) ∧ W.cell? ⟨by_, oy + 1, none⟩ = some (.int .i64 cy)) := fun W hb => by
                  obtain ⟨_, q1, qf⟩ := blk2 ((hb ob (Or.inl rfl)).trans HOB.out)
                  exact ⟨⟨q1, qf 1⟩, (World.cell?_of_block (a := ⟨bx, ox, none⟩) (hb bx (Or.inr hbx))).trans gx0, (World.cell?_of_block (a := ⟨bx, ox + 1, none⟩) (hb bx (Or.inr hbx))).trans gx1, (World.cell?_of_block (a := ⟨by_, oy, none⟩) (hb by_ (Or.inr hby))).trans gy0, (World.cell?_of_block (a := ⟨by_, oy + 1, none⟩) (hb by_ (Or.inr hby))).trans gy1⟩
                obtain ⟨⟨s0, sf⟩, s2, s3, s4, s5⟩ := HSY.out wp.drew (fun _ _ => rfl)
                obtain ⟨⟨v0, vf⟩, v2, v3, v4, v5⟩ := HSY.out (wp.alloc (.cells #[.int .i64 ex, .int .i64 cm] 48)) (fun b hb => Below.heap_alloc wp _ b (hal b hb))
                obtain ⟨⟨u0, uf⟩, u2, u3, u4, u5_⟩ := HSY.out (wp.drew.alloc (.cells #[.int .i64 ex, .int .i64 cm] 48)) (fun b hb => Below.heap_alloc wp.drew _ b (hal b hb))
                clear hal
                have hSw := HSY.out wp.drew (fun _ _ => rfl)
                have hSt := HSY.out (wp.drew.alloc (.cells #[.int .i64 ex, .int .i64 cm] 48)) (fun b hb => Below.heap_alloc wp.drew _ b (HAL.out b hb))
                clear s0 sf s2 s3 s4 s5 v0 vf v2 v3 v4 v5 u0 uf u2 u3 u4 u5_
                refine wp_region_U (fun W => ((W.cell? ⟨ob, 1, none⟩ = some (.slice D out.length dc) ∧ W.frozen? ⟨ob, 1, none⟩ = false) ∧ W.cell? ⟨bx, ox, none⟩ = some (.int .i64 ex) ∧ W.cell? ⟨bx, ox + 1, none⟩ = some (.int .i64 cx) ∧ W.cell? ⟨by_, oy, none⟩ = some (.int .i64 ey) ∧ W.cell? ⟨by_, oy + 1, none⟩ = some (.int .i64 cy))) 19 (by kernel_rfl) ?_
                refine wpAnyU_take (i := 0) (v := ?_) rfl (by kernel_rfl) (by kernel_rfl) (by kernel_rfl) (by kernel_rfl) (fun _ _ _ h => h) (by rfl) ?_ hSw ?_
                rotate_left 1
                · intro W hW
                  try dsimp only at hW
                  obtain ⟨⟨o1, of⟩, x0, x1, y0, y1⟩ := hW
                  go_simp
                  try with_reducible rfl
                try simp only [Act.put, List.setIfInBounds_toArray, List.set_cons_zero, List.set_cons_succ]
                refine wpAnyU_take (i := 1) (v := ?_) rfl (by kernel_rfl) (by kernel_rfl) (by kernel_rfl) (by kernel_rfl) (fun _ _ _ h => h) (by rfl) ?_ hSw ?_
                rotate_left 1
                · intro W hW
                  try dsimp only at hW
                  obtain ⟨⟨o1, of⟩, x0, x1, y0, y1⟩ := hW
                  go_simp
                  try with_reducible rfl
                try simp only [Act.put, List.setIfInBounds_toArray, List.set_cons_zero, List.set_cons_succ]
                refine wpAnyU_take (i := 2) (v := ?_) rfl (by kernel_rfl) (by kernel_rfl) (by kernel_rfl) (by kernel_rfl) (fun _ _ _ h => h) (by rfl) ?_ hSw ?_
                rotate_left 1
                · intro W hW
                  try dsimp only at hW
                  obtain ⟨⟨o1, of⟩, x0, x1, y0, y1⟩ := hW
                  go_simp
                  try with_reducible rfl
                try simp only [Act.put, List.setIfInBounds_toArray, List.set_cons_zero, List.set_cons_succ]
                refine wpAnyU_take (i := 3) (v := ?_) rfl (by kernel_rfl) (by kernel_rfl) (by kernel_rfl) (by kernel_rfl) (fun _ _ _ h => h) (by rfl) ?_ hSw ?_
                rotate_left 1
                · intro W hW
                  try dsimp only at hW
                  obtain ⟨⟨o1, of⟩, x0, x1, y0, y1⟩ := hW
                  go_simp
                  try with_reducible rfl
                try simp only [Act.put, List.setIfInBounds_toArray, List.set_cons_zero, List.set_cons_succ]
                refine wpAnyU_take (i := 4) (v := ?_) rfl (by kernel_rfl) (by kernel_rfl) (by kernel_rfl) (by kernel_rfl) (fun _ _ _ h => h) (by rfl) ?_ hSw ?_
                rotate_left 1
                · intro W hW
                  try dsimp only at hW
                  obtain ⟨⟨o1, of⟩, x0, x1, y0, y1⟩ := hW
                  go_simp
                  try with_reducible rfl
                try simp only [Act.put, List.setIfInBounds_toArray, List.set_cons_zero, List.set_cons_succ]
                refine wpAnyU_take (i := 5) (v := ?_) rfl (by kernel_rfl) (by kernel_rfl) (by kernel_rfl) (by kernel_rfl) (fun _ _ _ h => h) (by rfl) ?_ hSw ?_
                rotate_left 1
                · intro W hW
                  try dsimp only at hW
                  obtain ⟨⟨o1, of⟩, x0, x1, y0, y1⟩ := hW
                  go_simp
                  try with_reducible rfl
                try simp only [Act.put, List.setIfInBounds_toArray, List.set_cons_zero, List.set_cons_succ]
                refine wpAnyU_take (i := 6) (v := ?_) rfl (by kernel_rfl) (by kernel_rfl) (by kernel_rfl) (by kernel_rfl) (fun _ _ _ h => h) (by rfl) ?_ hSw ?_
                rotate_left 1
                · intro W hW
                  try dsimp only at hW
                  obtain ⟨⟨o1, of⟩, x0, x1, y0, y1⟩ := hW
                  go_simp
                  try with_reducible rfl
                try simp only [Act.put, List.setIfInBounds_toArray, List.set_cons_zero, List.set_cons_succ]
                refine wpAnyU_take (i := 7) (v := ?_) rfl (by kernel_rfl) (by kernel_rfl) (by kernel_rfl) (by kernel_rfl) (fun _ _ _ h => h) (by rfl) ?_ hSw ?_
                rotate_left 1
                · intro W hW
                  try dsimp only at hW
                  obtain ⟨⟨o1, of⟩, x0, x1, y0, y1⟩ := hW
                  go_simp
                  try with_reducible rfl
                try simp only [Act.put, List.setIfInBounds_toArray, List.set_cons_zero, List.set_cons_succ]
                refine wpAnyU_take (i := 8) (v := ?_) rfl (by kernel_rfl) (by kernel_rfl) (by kernel_rfl) (by kernel_rfl) (fun _ _ _ h => h) (by rfl) ?_ hSw ?_
                rotate_left 1
                · intro W hW
                  try dsimp only at hW
                  obtain ⟨⟨o1, of⟩, x0, x1, y0, y1⟩ := hW
                  go_simp
                  try with_reducible rfl
                try simp only [Act.put, List.setIfInBounds_toArray, List.set_cons_zero, List.set_cons_succ]
                refine wpAnyU_take (i := 9) (v := ?_) rfl (by kernel_rfl) (by kernel_rfl) (by kernel_rfl) (by kernel_rfl) (fun _ _ _ h => h) (by rfl) ?_ hSw ?_
                rotate_left 1
                · intro W hW
                  try dsimp only at hW
                  obtain ⟨⟨o1, of⟩, x0, x1, y0, y1⟩ := hW
                  go_simp
                  try with_reducible rfl
                try simp only [Act.put, List.setIfInBounds_toArray, List.set_cons_zero, List.set_cons_succ]
                refine wpAnyU_take (i := 10) (v := ?_) rfl (by kernel_rfl) (by kernel_rfl) (by kernel_rfl) (by kernel_rfl) (fun _ _ _ h => h) (by rfl) ?_ hSw ?_
                rotate_left 1
                · intro W hW
                  try dsimp only at hW
                  obtain ⟨⟨o1, of⟩, x0, x1, y0, y1⟩ := hW
                  go_simp
                  try with_reducible rfl
                try simp only [Act.put, List.setIfInBounds_toArray, List.set_cons_zero, List.set_cons_succ]
                refine wpAnyU_take (i := 11) (v := ?_) rfl (by kernel_rfl) (by kernel_rfl) (by kernel_rfl) (by kernel_rfl) (fun _ _ _ h => h) (by rfl) ?_ hSw ?_
                rotate_left 1
                · intro W hW
                  try dsimp only at hW
                  obtain ⟨⟨o1, of⟩, x0, x1, y0, y1⟩ := hW
                  go_simp
                  try with_reducible rfl
                try simp only [Act.put, List.setIfInBounds_toArray, List.set_cons_zero, List.set_cons_succ]
                refine wpAnyU_take (i := 12) (v := ?_) rfl (by kernel_rfl) (by kernel_rfl) (by kernel_rfl) (by kernel_rfl) (fun _ _ _ h => h) (by rfl) ?_ hSw ?_
                rotate_left 1
                · intro W hW
                  try dsimp only at hW
                  obtain ⟨⟨o1, of⟩, x0, x1, y0, y1⟩ := hW
                  go_simp
                  try with_reducible rfl
                try simp only [Act.put, List.setIfInBounds_toArray, List.set_cons_zero, List.set_cons_succ]
                refine wpAnyU_take (i := 13) (v := ?_) rfl (by kernel_rfl) (by kernel_rfl) (by kernel_rfl) (by kernel_rfl) (fun _ _ _ h => h) (by rfl) ?_ hSw ?_
                rotate_left 1
                · intro W hW
                  try dsimp only at hW
                  obtain ⟨⟨o1, of⟩, x0, x1, y0, y1⟩ := hW
                  go_simp
                  try with_reducible rfl
                try simp only [Act.put, List.setIfInBounds_toArray, List.set_cons_zero, List.set_cons_succ]
                refine wpAnyU_take (i := 14) (v := ?_) rfl (by kernel_rfl) (by kernel_rfl) (by kernel_rfl) (by kernel_rfl) (fun _ _ _ h => h) (by rfl) ?_ hSw ?_
                rotate_left 1
                · intro W hW
                  try dsimp only at hW
                  obtain ⟨⟨o1, of⟩, x0, x1, y0, y1⟩ := hW
                  go_simp
                  try with_reducible rfl
                try simp only [Act.put, List.setIfInBounds_toArray, List.set_cons_zero, List.set_cons_succ]
                refine wpAnyU_take (i := 15) (v := ?_) rfl (by kernel_rfl) (by kernel_rfl) (by kernel_rfl) (by kernel_rfl) (fun _ _ _ h => h) (by rfl) ?_ hSw ?_
                rotate_left 1
                · intro W hW
                  try dsimp only at hW
                  obtain ⟨⟨o1, of⟩, x0, x1, y0, y1⟩ := hW
                  go_simp
                  try with_reducible rfl
                try simp only [Act.put, List.setIfInBounds_toArray, List.set_cons_zero, List.set_cons_succ]
                refine wpAnyU_one (i := 16) (by kernel_rfl) rfl (fun K hK => ?_)
                go_simp
                refine hK.out _ _ (fun _ => hSt) ?_
                clear hK K
                try simp only [Act.put, List.setIfInBounds_toArray, List.set_cons_zero, List.set_cons_succ]
                refine wpAnyU_one (i := 17) (by kernel_rfl) rfl (fun K hK => ?_)
                refine step_app1 (E := encExt) tyRules rfl _ _ rfl rfl hO4o.out (ex, cm) [.int .i64 ex, .int .i64 cm] rfl HRD.out (heap_alloc_new _ _) (fun _ h => h.1.2) (by simp; omega) (by unfold maxLen; omega) (by omega) ?_
                intro A6 c6 w6 hown6 hg6 hat6
                have hk6 : Hid (∀ b, b = ob ∨ b < n0 → w6.heap[b]? = wp.heap[b]?) := fun b hb => (hg6.block b (by have := HAL.out b hb; simp; omega) (fun e => hoown.out b hb e.symm)).trans (Below.heap_alloc wp.drew _ b (HAL.out b hb))
                refine hK.out _ _ (fun _ => HSY.out w6 hk6.out) ?_
                clear hK K
                try simp only [Act.put, List.setIfInBounds_toArray, List.set_cons_zero, List.set_cons_succ]
                obtain ⟨⟨t0, tf⟩, _⟩ := HSY.out w6 hk6.out
                refine wpAnyU_one (i := 18) (by kernel_rfl) rfl (fun K hK => ?_)
                go_simp
                refine hK.out _ _ (fun _ => HSY.out w6 hk6.out) ?_
                clear hK K
                try simp only [Act.put, List.setIfInBounds_toArray, List.set_cons_zero, List.set_cons_succ]
                refine wpAnyU_one (i := 19) (by kernel_rfl) rfl (fun K hK => ?_)
                go_simp
                refine hK.out _ _ (fun h => absurd rfl h) ?_
                clear hK K
                refine wpAnyU_done (by kernel_rfl) ?_ _
                all_goals
                  have hro7 : Hid ((w6.setCell ⟨ob, 1, none⟩ (.slice A6 (out.length + 1) c6)).heap[ob]? = some (.cells #[.int .i64 wm, .slice A6 (out.length + 1) c6] 24 (0, 0))) := blk2_1 ((hk6.out ob (Or.inl rfl)).trans HOB.out) (.slice A6 (out.length + 1) c6)
                  have hO7 : Hid (OwnX (fun _ => False) encExt (w6.setCell ⟨ob, 1, none⟩ (.slice A6 (out.length + 1) c6)) n6 48 (.slice A6 (out.length + 1) c6) (out ++ [(ex, cm)])) := by
                    have h := hO4.out.app hown6 hg6 hat6 (fun b hb => hb.elim)
                    refine h.keep (by simp [World.setCell]) (fun g hg _ _ => heap_setCell_other w6 ⟨ob, 1, none⟩ g _ (by show g ≠ ob; omega))
                  have hlo := hO4.out.lt
                  have hG7 : Hid (W6.grownBy (w6.setCell ⟨ob, 1, none⟩ (.slice A6 (out.length + 1) c6)) (some ob)) := by
                    refine grown_setR ⟨hg6.os.trans HG.out.os, hg6.tape.trans HG.out.tape, hg6.output.trans HG.out.output, Nat.le_trans hgz (by have := hg6.size; simp at this; omega), fun k hk hn => ?_⟩ 1 _
                    refine (hg6.block k (by simp; omega) (fun e => ?_)).trans ((Below.heap_alloc wp.drew _ k (by show k < wp.heap.size; omega)).trans (HG.out.block k hk hn))
                    have := (hlo k e.symm).1
                    omega
                  have hle7 : (out ++ [(ex, cm)]).length = out.length + 1 := by simp
                  have HL7 := Lib.hid hle7
                  clear hown6 hg6 hat6 hk6 hlo hle7 t0 tf
                  try clear s0 sf v0 vf u0 uf
                  generalize w6.setCell ⟨ob, 1, none⟩ (.slice A6 (out.length + 1) c6) = w7 at hro7 hO7 hG7 ⊢
                all_goals
                  first
                  | (go_meet; exact ⟨A6, c6, hG7, hro7, hO7⟩)
                  | (go_simp; go_meet; exact ⟨A6, c6, hG7, hro7, hO7⟩)
                  | (go_wp2; go_meet; exact ⟨A6, c6, hG7, hro7, hO7⟩)
              case rest =>
                obtain ⟨A6, c6, hG7, hro7, hO7⟩ := hcut
                have HL7 : Hid ((out ++ [(ex, cm)]).length = out.length + 1) := by rw [Hid]; simp
                go_upto_region 11 with (fail)
                go_quiet (fail)
                generalize hWq : World.drewN wc _ = w9
                obtain ⟨hG7, hro7, hO7⟩ : Hid (W6.grownBy w9 (some ob)) ∧ Hid (w9.heap[ob]? = some (.cells #[.int .i64 wm, .slice A6 (out.length + 1) c6] 24 (0, 0))) ∧ Hid (OwnX (fun _ => False) encExt w9 n6 48 (.slice A6 (out.length + 1) c6) (out ++ [(ex, cm)])) := by
                  rw [← hWq]
                  exact ⟨grown_drewR hG7.out _, hro7.out, hO7.out.below (bDrew (Below.refl _ _) _)⟩
                clear hWq
                all_goals
                  (try go_simp)
                  go_roundw
                  case rel =>
                    iterate 89 apply Exists.intro
                    refine And.intro ?ql ?qr
                    case qr => rfl
                    case ql =>
                      exact ⟨nx - 1, ny - 1, cax - 1, cay - 1, c6, (if cax = 1 then some ⟨bx, ox, none⟩ else some ⟨bx, ox + 2, none⟩), (if cay = 1 then some ⟨by_, oy, none⟩ else some ⟨by_, oy + 2, none⟩), A6, xt, yt, out ++ [(ex, cm)], rfl, rfl, ⟨by omega, by omega⟩, ⟨by omega, by omega⟩, ⟨by have := HXL.out; omega, by have := HYL.out; omega⟩, by rw [Hid, HL7.out]; have := HLE.out; omega, (fun W hW => HXT.out.blk (fun b hb => (hW.block b hb).trans (hBwz.block b hb).symm)), (fun W hW => HYT.out.blk (fun b hb => (hW.block b hb).trans (hBwz.block b hb).symm)), by rw [Hid, HMR.out]; rw [HXE.out, HYE.out, mergeR_eq (a := (ex, cx)) (b := (ey, cy)) HXYE.out]; show out ++ (ex, max cx cy) :: mergeR xt yt = _; rw [HCM.out]; simp, hG7.out, by rw [Hid, HL7.out]; exact hro7.out, by rw [Hid, HL7.out]; exact hO7.out⟩
                  case measure => simp [slLen]; omega
end Go.Proofs.YtnkmklnlaepdeaaGreat

/-
  A drawn region inside a fence, walked in one order: a condition holds behind every operation but perhaps the last.; compare's differing: the walk.
-/
import Derived.OrdersHeld
import Derived.OrdersIn
import Derived.WalkMore
import Derived.OwnWalkIn
import Derived.RegionTactic
import Derived.Deep.RegionHeld
import Derived.Test.YtjehedfdikdfpaaZL01
import Derived.Test.YtjehedfdikdfpaaZL03
import Derived.Test.YtjehedfdikdfpaaZL04
import Derived.Test.YtjehedfdikdfpaaZL06
import Derived.Test.YtjehedfdikdfpaaZL07
import Derived.Test.YtjehedfdikdfpaaZL08
set_option linter.unusedVariables false
set_option linter.unusedSimpArgs false
set_option linter.unusedSectionVars false
set_option linter.unnecessarySimpa false
namespace Go.Proofs.Ytjehedfdikdfpaa
open Go.RowKit

section
variable {F : Fence} {n : Nat} {P : Program} {ops : Array Oper} {Q : Exit → Act → World → Prop} {md : Region.Mode} {S : World → Prop} {k : Nat}
/-- whatever order is picked from here on; a condition holds behind every operation but number k -/
def wpAnyV (F : Fence) (n : Nat) (P : Program) (md : Region.Mode) (ops : Array Oper) (Q : Exit → Act → World → Prop) (S : World → Prop) (k : Nat) : Nat → Array Bool → Act → World → Prop
  | 0, listed, a, w => Region.ready md ops listed = [] ∧ Q .normal a w
  | fuel + 1, listed, a, w =>
    (Region.ready md ops listed = [] → Q .normal a w) ∧
    ∀ i ∈ Region.ready md ops listed, wpOpIn F n P ops Q i (fun a' w' => (i ≠ k → S w') ∧ wpAnyV F n P md ops Q S k fuel (listed.setIfInBounds i true) a' w') a w
theorem wpAnyIn_ofV : ∀ (fuel : Nat) (listed : Array Bool) (a : Act) (w : World), wpAnyV F n P md ops Q S k fuel listed a w → wpAnyIn F n P md ops Q fuel listed a w
  | 0, _, _, _, h => h
  | fuel + 1, _, _, _, h => ⟨h.1, fun i hi => wpOpIn_mono (fun a' w' h' => wpAnyIn_ofV fuel _ a' w' h'.2) (h.2 i hi)⟩
/-- operation k waits for operation i, or there is no operation k -/
def waitsV (md : Region.Mode) (ops : Array Oper) (k i : Nat) : Bool := match ops[k]? with
  | none => true
  | some o => o.after.any fun e => Region.binds md e && e.on == i
theorem waitsV_not {i : Nat} {listed : Array Bool} (h : waitsV md ops k i = true) (hi : i ∈ Region.ready md ops listed) : ¬ k ∈ Region.ready md ops listed := fun hk => by
  obtain ⟨_, o, ho, hall⟩ := mem_ready.1 hk
  unfold waitsV at h
  rw [ho] at h
  simp only [Array.any_eq_true] at h
  obtain ⟨j, hj, hb⟩ := h
  simp only [Bool.and_eq_true, beq_iff_eq] at hb
  have h1 := hall _ (Array.getElem_mem hj) hb.1
  have h0 := (mem_ready.1 hi).1
  rw [hb.2] at h1
  rcases Nat.lt_or_ge i listed.size with h' | h'
  · simp [h'] at h0 h1; rw [h0] at h1; cases h1
  · simp [Array.getElem?_eq_none h'] at h1
/-- in every world that meets S the operation leaves v and does nothing else, and it is about no function -/
def YieldsV (P : Program) (ops : Array Oper) (S : World → Prop) (o : Oper) (v : Value) (a : Act) : Prop := YieldsIf P ops S o v a ∧ ∀ w, o.about P w a.eval = none
/-- no operation defers a call -/
def noDefers (ops : Array Oper) : Bool := ops.all fun o => match o.op with
  | .defer _ => false
  | _ => true
theorem noDefers_spec (h : noDefers ops = true) {i : Nat} {o : Oper} (hi : ops[i]? = some o) : ∀ c, o.op ≠ .defer c := by
  intro c e
  unfold noDefers at h
  rw [Array.all_eq_true'] at h
  have := h o (Array.mem_of_getElem? hi)
  rw [e] at this
  cases this
theorem YieldsV.wpOpIn {i : Nat} {o : Oper} {v : Value} {a : Act} (hro : ∀ c, o.op ≠ .defer c) (hi : ops[i]? = some o) (hy : YieldsV P ops S o v a)
    {K : Act → World → Prop} {w : World} (hS : S w) (h : K (a.put o.dst v) w) : wpOpIn F n P ops Q i K a w := by
  unfold Go.wpOpIn
  simp only [hi]
  have hab : ∀ f, o.about P w a.eval = some f → F.fn f := fun f hf => by rw [hy.2 w] at hf; cases hf
  rcases hy.1 with ⟨hw, hv⟩ | ⟨hw, rfl⟩
  · simp only [hw, if_true, Oper.wpIn, Oper.semAt_plain F _ _ hro, hv w hS, Oper.uponIn]; exact ⟨hab, h⟩
  · simp only [hw, Bool.false_eq_true, if_false]; exact ⟨hab, h⟩
theorem YieldsV.of_same {o : Oper} {v : Value} {a a' : Act} (hy : YieldsV P ops S o v a) (he : execOp a'.eval o = execOp a.eval o)
    (hw : Region.wanted o (yielded ops a'.tmps) = Region.wanted o (yielded ops a.tmps)) (hb : ∀ w, o.about P w a'.eval = o.about P w a.eval) : YieldsV P ops S o v a' :=
  ⟨hy.1.of_same he hw, fun w => by rw [hb w]; exact hy.2 w⟩
theorem wpOpIn_putV {j : Nat} {oi oj : Oper} {v : Value} (hro : ∀ c, oj.op ≠ .defer c) (hj : ops[j]? = some oj) (hap : oi.apart ops oj = true)
    (hsi : ∀ cs b, oi.op ≠ .select cs b) (hsj : ∀ cs b, oj.op ≠ .select cs b)
    (hQ : ∀ c a w, Q (.panic c) (a.put oi.dst v) w → Q (.panic c) a w) {K : Act → World → Prop} {a : Act} {w : World}
    (hy : YieldsV P ops S oi v a) (h : wpOpIn F n P ops Q j K (a.put oi.dst v) w) :
    wpOpIn F n P ops Q j (fun a' w' => YieldsV P ops S oi v a' ∧ K (a'.put oi.dst v) w') a w := by
  obtain ⟨h1, h2, h3⟩ := Oper.apart_spec hap
  have keep : ∀ (a : Act), YieldsV P ops S oi v a → ∀ u, YieldsV P ops S oi v (a.put oj.dst u) := fun a hy u =>
    hy.of_same (execOp_put oi hsi a oj.dst u h3) (wanted_put oi a oj.dst u h3) (fun w => about_put oi w a oj.dst u h3)
  have keepD : ∀ d, YieldsV P ops S oi v { a with defers := d :: a.defers } := fun d => hy.of_same rfl rfl (fun _ => rfl)
  unfold wpOpIn at *
  simp only [hj] at *
  rw [wanted_put oj a oi.dst v h1, about_put oj w a oi.dst v h1] at h
  split
  · rename_i hw
    simp only [hw, if_true] at h
    unfold Oper.wpIn at *
    rw [about_put oj w a oi.dst v h1] at h
    refine ⟨h.1, ?_⟩
    have h := h.2
    rw [Oper.semAt_plain F _ _ hro, execOp_put oj hsj a oi.dst v h1] at h
    rw [Oper.semAt_plain F _ _ hro]
    generalize (execOp a.eval oj).run P w = r at *
    cases r with
    | ok x w' =>
      cases x <;> simp only [Oper.uponIn] at h ⊢
      case value u => exact ⟨keep a hy u, by rw [← Act.put_comm a v u h2]; exact h⟩
      case skip => exact ⟨keep a hy _, by rw [← Act.put_comm a v undef h2]; exact h⟩
      case defer d =>
        refine ⟨keep _ (keepD d) _, ?_⟩
        rw [← Act.put_comm _ v undef h2, ← Act.put_defers]
        exact h
      case enter f args =>
        refine ⟨h.1, CallsIn.mono h.2 fun e w'' he => ?_⟩
        cases e with
        | returned u => exact ⟨keep a hy u, by rw [← Act.put_comm a v u h2]; exact he⟩
        | panicked c => exact hQ _ _ _ he
        | outgrown => exact he
      case row row args => exact ⟨h.1, RowsIn.mono h.2 fun u w'' he => ⟨keep a hy u, by rw [← Act.put_comm a v u h2]; exact he⟩⟩
      case round l f tmps assign body =>
        refine ⟨h.1, RoundIn.mono h.2 fun e w'' he => ?_⟩
        cases e with
        | returned u => exact ⟨keep a hy u, by rw [← Act.put_comm a v u h2]; exact he⟩
        | panicked c => exact hQ _ _ _ he
        | outgrown => exact he
    | halt x w' =>
      cases x <;> simp only [Oper.uponIn] at h ⊢
      case panic u => exact hQ _ _ _ h
  · rename_i hw
    simp only [hw] at h
    exact ⟨h.1, keep a hy _, by rw [← Act.put_comm a v undef h2]; exact h.2⟩
theorem wpAnyV_first {i : Nat} {oi : Oper} {v : Value} (hro : noDefers ops = true) (hi : ops[i]? = some oi) (hsel : ∀ (j : Nat) (o : Oper) cs b, ops[j]? = some o → o.op ≠ .select cs b)
    (hQ : ∀ c a w, Q (.panic c) (a.put oi.dst v) w → Q (.panic c) a w) (hwt : waitsV md ops k i = true) :
    ∀ (fuel : Nat) (listed : Array Bool) (a : Act) (w : World),
      (∀ j oj, ops[j]? = some oj → j ≠ i → listed.getD j true = false → (∀ e ∈ oj.after, Region.binds md e = true → e.on ≠ i) → oi.apart ops oj = true) →
      i ∈ Region.ready md ops listed → YieldsV P ops S oi v a → S w →
      wpAnyV F n P md ops Q S k fuel (listed.setIfInBounds i true) (a.put oi.dst v) w → wpAnyV F n P md ops Q S k (fuel + 1) listed a w := by
  intro fuel
  induction fuel with
  | zero =>
    intro listed a w _ hr hy hS H
    refine ⟨fun h => (by rw [h] at hr; cases hr), fun j hj => ?_⟩
    by_cases hji : j = i
    · subst hji; exact hy.wpOpIn (noDefers_spec hro hi) hi hS ⟨fun _ => hS, H⟩
    · have := ready_mono hj hji
      rw [H.1] at this
      cases this
  | succ fuel ih =>
    intro listed a w hfree hr hy hS H
    refine ⟨fun h => (by rw [h] at hr; cases hr), fun j hj => ?_⟩
    by_cases hji : j = i
    · subst hji; exact hy.wpOpIn (noDefers_spec hro hi) hi hS ⟨fun _ => hS, H⟩
    · have hjk : j ≠ k := fun e => by subst e; exact waitsV_not hwt hr hj
      have h1 := H.2 j (ready_mono hj hji)
      obtain ⟨hjun, oj, hoj, hall⟩ := mem_ready.1 hj
      have hnot : ∀ e ∈ oj.after, Region.binds md e = true → e.on ≠ i := fun e he hb heq => by
        have h1 := hall e he hb
        have h0 := (mem_ready.1 hr).1
        rw [heq] at h1
        rcases Nat.lt_or_ge i listed.size with h' | h'
        · simp [h'] at h0 h1; rw [h0] at h1; cases h1
        · simp [Array.getElem?_eq_none h'] at h1
      have h2 := wpOpIn_putV (noDefers_spec hro hoj) hoj (hfree j oj hoj hji hjun hnot) (fun cs b => hsel i oi cs b hi) (fun cs b => hsel j oj cs b hoj) hQ hy h1
      have hfree' : ∀ m ok, ops[m]? = some ok → m ≠ i → (listed.setIfInBounds j true).getD m true = false →
          (∀ e ∈ ok.after, Region.binds md e = true → e.on ≠ i) → oi.apart ops ok = true := fun m ok hm hmi hun hno => by
        refine hfree m ok hm hmi ?_ hno
        by_cases hjm : j = m
        · subst hjm; exact hjun
        · rw [getD_set_ne true hjm] at hun; exact hun
      refine wpOpIn_mono (fun a' w' h3 => ⟨h3.2.1, ih (listed.setIfInBounds j true) a' w' hfree' (ready_mono hr (Ne.symm hji)) h3.1 (h3.2.1 hjk) ?_⟩) h2
      rw [Array.setIfInBounds_comm _ _ hji]
      exact h3.2.2
/-- take number i first -/
theorem wpAnyV_take {i : Nat} {oi : Oper} {v : Value} {fuel : Nat} {listed : Array Bool} {a : Act} {w : World} (hro : noDefers ops = true) (hi : ops[i]? = some oi)
    (hs : Region.noSelect ops = true) (hf : Region.free md ops listed i = true) (hr : (Region.ready md ops listed).contains i = true) (hk : waitsV md ops k i = true)
    (hQ : ∀ c a w, Q (.panic c) (a.put oi.dst v) w → Q (.panic c) a w) (hw : Region.wanted oi (yielded ops a.tmps) = true) (hb : ∀ w, oi.about P w a.eval = none) (hy : ∀ w, S w → (execOp a.eval oi).run P w = .ok (.value v) w) (hS : S w)
    (h : wpAnyV F n P md ops Q S k fuel (listed.setIfInBounds i true) (a.put oi.dst v) w) : wpAnyV F n P md ops Q S k (fuel + 1) listed a w :=
  wpAnyV_first hro hi (Region.noSelect_spec hs) hQ hk fuel listed a w (Region.free_spec hi hf) (by simpa using hr) ⟨Or.inl ⟨hw, hy⟩, hb⟩ hS h
/-- take number i first: its slot by name -/
theorem wpAnyV_takeD {i : Nat} {oi : Oper} {v : Value} {d : Nat} {fuel : Nat} {listed : Array Bool} {a : Act} {w : World} (hro : noDefers ops = true) (hi : ops[i]? = some oi) (hd : oi.dst = some d)
    (hs : Region.noSelect ops = true) (hf : Region.free md ops listed i = true) (hr : (Region.ready md ops listed).contains i = true) (hk : waitsV md ops k i = true)
    (hQ : ∀ c a w, Q (.panic c) (a.put (some d) v) w → Q (.panic c) a w) (hw : Region.wanted oi (yielded ops a.tmps) = true) (hb : ∀ w, oi.about P w a.eval = none) (hy : ∀ w, S w → (execOp a.eval oi).run P w = .ok (.value v) w) (hS : S w)
    (h : wpAnyV F n P md ops Q S k fuel (listed.setIfInBounds i true) { tmps := a.tmps.setIfInBounds d v, defers := a.defers } w) : wpAnyV F n P md ops Q S k (fuel + 1) listed a w :=
  wpAnyV_take (v := v) hro hi hs hf hr hk (by rw [hd]; exact hQ) hw hb hy hS (by rw [hd]; exact h)
/-- the only one that may come up -/
theorem wpAnyV_one {i : Nat} {o : Oper} {fuel : Nat} {listed : Array Bool} {a : Act} {w : World} (hr : Region.ready md ops listed = [i]) (ho : ops[i]? = some o)
    (h : ∀ K' : Act → World → Prop, Shut (∀ a w, (i ≠ k → S w) → wpAnyV F n P md ops Q S k fuel (listed.setIfInBounds i true) a w → K' a w) → if Region.wanted o (yielded ops a.tmps) = true then Oper.wpIn F n P o a w K' Q else (∀ f, o.about P w a.eval = some f → F.fn f) ∧ K' (a.put o.dst undef) w) :
    wpAnyV F n P md ops Q S k (fuel + 1) listed a w :=
  ⟨fun h0 => by rw [hr] at h0; simp at h0, fun j hj => by
    rw [hr, List.mem_singleton] at hj
    subst hj
    exact wpOpIn_step ho (fun K' hK => h K' (fun a w hS hW => hK a w ⟨hS, hW⟩))⟩
/-- the only one that may come up, without a guard -/
theorem wpAnyV_op {i : Nat} {o : Oper} {fuel : Nat} {listed : Array Bool} {a : Act} {w : World} (hr : Region.ready md ops listed = [i]) (ho : ops[i]? = some o) (hg : o.guard = none)
    (h : ∀ K' : Act → World → Prop, Shut (∀ a w, (i ≠ k → S w) → wpAnyV F n P md ops Q S k fuel (listed.setIfInBounds i true) a w → K' a w) → Oper.wpIn F n P o a w K' Q) :
    wpAnyV F n P md ops Q S k (fuel + 1) listed a w :=
  wpAnyV_one hr ho (fun K' hK => by rw [if_pos (by simp [Region.wanted, hg])]; exact h K' hK)
/-- two may come up -/
theorem wpAnyV_two {i j : Nat} {oi oj : Oper} {fuel : Nat} {listed : Array Bool} {a : Act} {w : World} (hr : Region.ready md ops listed = [i, j]) (hoi : ops[i]? = some oi) (hoj : ops[j]? = some oj) (hgi : oi.guard = none) (hgj : oj.guard = none)
    (hi : ∀ K' : Act → World → Prop, Shut (∀ a w, (i ≠ k → S w) → wpAnyV F n P md ops Q S k fuel (listed.setIfInBounds i true) a w → K' a w) → Oper.wpIn F n P oi a w K' Q)
    (hj : ∀ K' : Act → World → Prop, Shut (∀ a w, (j ≠ k → S w) → wpAnyV F n P md ops Q S k fuel (listed.setIfInBounds j true) a w → K' a w) → Oper.wpIn F n P oj a w K' Q) :
    wpAnyV F n P md ops Q S k (fuel + 1) listed a w :=
  ⟨fun h0 => by rw [hr] at h0; simp at h0, fun m hm => by
    rw [hr] at hm
    simp only [List.mem_cons, List.not_mem_nil, or_false] at hm
    rcases hm with rfl | rfl
    · exact wpOpIn_step hoi (fun K' hK => by rw [if_pos (by simp [Region.wanted, hgi])]; exact hi K' (fun a w hS hW => hK a w ⟨hS, hW⟩))
    · exact wpOpIn_step hoj (fun K' hK => by rw [if_pos (by simp [Region.wanted, hgj])]; exact hj K' (fun a w hS hW => hK a w ⟨hS, hW⟩))⟩
theorem wpAnyV_done {listed : Array Bool} {a : Act} {w : World} (hr : Region.ready md ops listed = []) (h : Q .normal a w) : ∀ fuel, wpAnyV F n P md ops Q S k fuel listed a w
  | 0 => ⟨hr, h⟩
  | _ + 1 => ⟨fun _ => h, by rw [hr]; simp⟩
theorem wpIn_region_V {id : Nat} {a : Act} {w : World} (S : World → Prop) (k : Nat) (hm : P.follows .mixedOrders = true)
    (h : wpAnyV F n P .any ops Q S k ops.size (Array.replicate ops.size false) a w.drew) : (Code.region id ops true).wpIn F n P Q a w :=
  wpIn_region_any hm (wpAnyIn_ofV _ _ _ _ h)
theorem wpIn_region_VF {id : Nat} {K : Act → World → Prop} {a : Act} {w : World} (S : World → Prop) (k : Nat) (hm : P.follows .mixedOrders = true)
    (h : wpAnyV F n P .any ops (Exit.then K (fun _ _ _ => False)) S k ops.size (Array.replicate ops.size false) a w.drew) : (Code.region id ops true).wpIn F n P (Exit.then K Q) a w :=
  wpIn_mono (wpIn_region_V S k hm h) (fun e a w hq => by
    cases e with
    | normal => exact hq
    | exit id => exact hq.elim
    | goto l => exact hq.elim
    | ret => exact hq.elim
    | panic ch => exact hq.elim
    | outgrown => exact hq.elim)
end
end Go.Proofs.Ytjehedfdikdfpaa
namespace Go.Proofs.Ytjehedfdikdfpaa
open Go.RowKit Go.Shelf
attribute [local go_sem] Oper.semAt_some

/-- what holds between two rounds -/
def DfI (w : World) (b n c pn pc fn fc : Nat) (s lf lv : Int) (A P F : Option Addr) (sent : Int) (done : Bool) (lev body : List Int) (m n0 : Nat) (pre : List Nat) (W : World) : Prop :=
  BoxOwn encInt (n0 + 4) (n0 + 1 + 1) 42 3 (toI (dfr lev body pre)) W ∧
  (∃ A' c', Boxed W (n0 + 1) 43 (.slice A' (m - 8 * pre.length) c') ∧ m - 8 * pre.length ≤ c' ∧ c' ≤ maxLen ∧ SlAt encU8 w (fun g => g < n0 ∧ g ≠ b) A' (body.drop (8 * pre.length))) ∧
  WkRow W b s lf A n c P pn pc lv F fn fc (sent + pre.length) done ∧ Boxed W n0 85 (.pointer (some ⟨b, 0, none⟩)) ∧
  Below b w W ∧ (∀ g, g < n0 → g ≠ b → W.heap[g]? = w.heap[g]?) ∧ n0 + 4 ≤ W.heap.size
theorem dfI_own {w : World} {b n c pn pc fn fc : Nat} {s lf lv : Int} {A P F : Option Addr} {sent : Int} {done : Bool} {lev body : List Int} {m n0 : Nat} {p : List Ext} (hb : b < n0) :
    OwnT (fun _ => False) (n0 + 4) (fun (pre : List (NumOf p)) W => DfI w b n c pn pc fn fc s lf lv A P F sent done lev body m n0 (pre.map (·.1)) W) := by
  rintro q X Y row ⟨h1, ⟨A', c', h2, h3, h4, h5⟩, h6, h7, h8, h9, h10⟩ hg hr
  have key : ∀ g, g < n0 + 4 → Y.heap[g]? = X.heap[g]? := fun g hg' => hg.block g (by omega) (fun e => by have := (hr g e.symm).1; omega)
  have hz := hg.size
  exact ⟨boxOwn_ownT (fun pre : List (NumOf p) => toI (dfr lev body (pre.map (·.1)))) (fun h => h) (fun h => h) q X Y row h1 hg hr, ⟨A', c', (key _ (by omega)).trans h2, h3, h4, h5⟩, h6.of_blk (key b (by omega)), (key _ (by omega)).trans h7,
    h8.grown hg (by omega) (fun k e => by have := (hr k e).1; omega), fun g hg' hb' => (key g (by omega)).trans (h9 g hg' hb'), by omega⟩
theorem KpN.step {S : Nat → Prop} {W W' : World} (hs : W.heap.size ≤ W'.heap.size) (hb : ∀ g, g < W.heap.size → (W'.heap[g]? = W.heap[g]? ∨ ¬ S g ∧ ∃ o : Obj, W.heap[g]? = some o ∧ ∀ cs fr, o ≠ .cells cs 67 fr)) (hS : ∀ g, S g → g < W.heap.size) : KpN S W W' :=
  ⟨fun g hg => by
    rcases hb g (hS g hg) with h | ⟨h, _⟩
    · exact h
    · exact absurd hg h, hs, fun i cs fr hi => by
    rcases hb i (Array.getElem?_eq_some_iff.1 hi).1 with h | ⟨_, o, ho, hne⟩
    · exact h
    · rw [hi] at ho; cases ho; exact absurd rfl (hne cs fr)⟩
theorem dfI_step {w W W6 : World} {b n c pn pc fn fc : Nat} {s lf lv : Int} {A P F : Option Addr} {sent : Int} {done : Bool} {lev body : List Int} {m n0 n1 mm c9 : Nat} {np : List Nat} {x : Nat} {A9 Ab : Option Addr} {cb : Nat}
    (hb : b < n0) (hn1 : n0 + 4 ≤ W.heap.size) (hr : WkRow W b s lf A n c P pn pc lv F fn fc (sent + np.length) done) (hwb : Boxed W n0 85 (.pointer (some ⟨b, 0, none⟩))) (hbb : Boxed W (n0 + 1) 43 (.slice Ab mm cb)) (hbx : ∃ v, Boxed W (n0 + 1 + 1) 42 v) (hB : Below b w W) (hK : ∀ g, g < n0 → g ≠ b → W.heap[g]? = w.heap[g]?)
    (hk6 : ∀ g, g < W.heap.size → g ≠ n0 + 1 + 1 → (g < n0 + 4 ∨ ∀ cs fr, W.heap[g]? ≠ some (.cells cs 3 fr)) → W6.heap[g]? = W.heap[g]?) (hz6 : W.heap.size ≤ W6.heap.size) (hB6 : Below b W W6)
    (hbo : BoxOwn encInt (n0 + 4) (n0 + 1 + 1) 42 3 (toI (dfr lev body (np ++ [x]))) W6) (hkf : KeepsFrom n1 W W6)
    (hmm : m - 8 * np.length = mm) (h9 : mm - 8 ≤ c9) (h9m : c9 ≤ maxLen) (hA9 : SlAt encU8 w (fun g => g < n0 ∧ g ≠ b) A9 (body.drop (8 * (np.length + 1)))) :
    KeepsFrom n1 W ((W6.setCell ⟨n0 + 1, 0, none⟩ (.slice A9 (mm - 8) c9)).setCell ⟨b, 6, none⟩ (.int .i64 (sent + np.length + 1))) ∧
    KpN (fun g => (g < n0 ∧ g ≠ b) ∨ g = n0 + 3) W ((W6.setCell ⟨n0 + 1, 0, none⟩ (.slice A9 (mm - 8) c9)).setCell ⟨b, 6, none⟩ (.int .i64 (sent + np.length + 1))) ∧
    DfI w b n c pn pc fn fc s lf lv A P F sent done lev body m n0 (np ++ [x]) ((W6.setCell ⟨n0 + 1, 0, none⟩ (.slice A9 (mm - 8) c9)).setCell ⟨b, 6, none⟩ (.int .i64 (sent + np.length + 1))) := by
  obtain ⟨W8, hW8⟩ : ∃ W8, (W6.setCell ⟨n0 + 1, 0, none⟩ (.slice A9 (mm - 8) c9)).setCell ⟨b, 6, none⟩ (.int .i64 (sent + np.length + 1)) = W8 := ⟨_, rfl⟩
  have ho : ∀ g, g ≠ n0 + 1 → g ≠ b → W8.heap[g]? = W6.heap[g]? := fun g h1 h2 => by rw [← hW8]; exact (heap_setCell_other _ ⟨b, 6, none⟩ g _ h2).trans (heap_setCell_other _ ⟨n0 + 1, 0, none⟩ g _ h1)
  have hz8 : W8.heap.size = W6.heap.size := by rw [← hW8]; simp [World.setCell]
  have hb8 : W8.heap[b]? = some (.cells #[.int .i64 s, .int .i64 lf, .slice A n c, .slice P pn pc, .int .i64 lv, .slice F fn fc, .int .i64 (sent + np.length + 1), .bool done] 88 (0, 0)) := by
    have h6 : W6.heap[b]? = _ := (hk6 b (by omega) (by omega) (Or.inl (by omega))).trans hr
    rw [← hW8]
    have h7 := (heap_setCell_other W6 ⟨n0 + 1, 0, none⟩ b (.slice A9 (mm - 8) c9) (by show b ≠ n0 + 1; omega)).trans h6
    simp [World.setCell, Array.getElem?_modify] at h7 ⊢
    simp [h7]
  have hbb8 : Boxed W8 (n0 + 1) 43 (.slice A9 (mm - 8) c9) := by
    have h6 : Boxed W6 (n0 + 1) _ _ := (hk6 (n0 + 1) (by omega) (by omega) (Or.inl (by omega))).trans hbb
    rw [← hW8]
    exact (heap_setCell_other _ ⟨b, 6, none⟩ (n0 + 1) _ (by show n0 + 1 ≠ b; omega)).trans (h6.set _)
  have hkf8 : KeepsFrom n1 W W8 := by
    rw [← hW8]
    exact hkf.trans (((KeepsOthers.setCell _ _ _).trans (KeepsOthers.setCell _ _ _)).from n1)
  obtain ⟨vx, hbx⟩ := hbx
  rw [hW8]
  refine ⟨hkf8, ⟨fun g hg => ?_, by omega, fun i cs fr hi => ?_⟩, ?_⟩
  · exact (ho g (by rcases hg with hg | hg <;> omega) (by rcases hg with hg | hg <;> omega)).trans (hk6 g (by rcases hg with hg | hg <;> omega) (by rcases hg with hg | hg <;> omega) (Or.inl (by rcases hg with hg | hg <;> omega)))
  · have e1 : i ≠ b := fun e => by subst e; rw [show W.heap[i]? = _ from hr] at hi; injection hi with hi; injection hi with _ hi; exact absurd hi (by decide)
    have e2 : i ≠ n0 + 1 := fun e => by subst e; rw [show W.heap[n0 + 1]? = _ from hbb] at hi; injection hi with hi; injection hi with _ hi; exact absurd hi (by decide)
    have e3 : i ≠ n0 + 1 + 1 := fun e => by subst e; rw [show W.heap[n0 + 1 + 1]? = _ from hbx] at hi; injection hi with hi; injection hi with _ hi; exact absurd hi (by decide)
    exact (ho i e2 e1).trans (hk6 i (Array.getElem?_eq_some_iff.1 hi).1 e3 (Or.inr (fun cs' fr' h => by rw [hi] at h; injection h with h; injection h with _ h; exact absurd h (by decide))))
  · obtain ⟨v6, hv6, ho6⟩ := hbo
    refine ⟨⟨v6, (ho _ (by omega) (by omega)).trans hv6, ho6.blk (fun g hg => ?_)⟩, ⟨A9, c9, ?_, by simp; omega, h9m, by simpa using hA9⟩, ?_, (ho n0 (by omega) (by omega)).trans ((hk6 n0 (by omega) (by omega) (Or.inl (by omega))).trans hwb), ?_, fun g hg hgb => ?_, by omega⟩
    · rcases hg with hg | hg
      · exact hg.elim
      · have := (ho6.lt g hg).1
        exact ho g (by omega) (by omega)
    · have e : m - 8 * (np ++ [x]).length = mm - 8 := by simp; omega
      rw [e]; exact hbb8
    · have e : sent + ((np ++ [x]).length : Int) = sent + np.length + 1 := by simp; omega
      unfold WkRow
      rw [e]; exact hb8
    · rw [← hW8]
      exact (((hB.trans hB6).setCell (p := ⟨n0 + 1, 0, none⟩) (by show b ≤ n0 + 1; omega) _).setCell (p := ⟨b, 6, none⟩) (Nat.le_refl _) _)
    · exact (ho g (by omega) hgb).trans ((hk6 g (by omega) (by omega) (Or.inl (by omega))).trans (hK g hg hgb))
theorem tyIntsD : SliceTy Try.prog 42 3 1 8 := sliceTy_mk (z := .int .i64 0) Try.underlying42 (by kernel_rfl) rfl (by decide)
theorem put8_any (d : Int) (w : World) (hd : 0 ≤ d ∧ d < 18446744073709551616) : Calls Try.prog 47 #[.int .u64 d] w fun e w' => ∃ A c, e = .returned (.slice A 8 c) ∧ 8 ≤ c ∧ c ≤ maxLen ∧ SlAt encU8 w' (Nw w.heap.size w'.heap.size) A (le8 d) ∧ Below w.heap.size w w' := by
  refine (put_any d w hd).mono ?_
  rintro e w' ⟨A, c, rfl, h1, h2, h3, h4⟩
  have h8 : (le8 d).length = 8 := by simp [le8]
  rw [h8] at h1 ⊢
  exact ⟨A, c, rfl, h1, h2, h3, h4⟩
set_option maxHeartbeats 4000000 in
set_option maxRecDepth 100000 in
theorem differing_any (b n c pn pc fn fc bc m k : Nat) (s lf : Int) (A P F BA : Option Addr) (sent : Int) (done : Bool) (l : List (List Int)) (p : List Ext) (body : List Int) (w : World)
    (hn : l.length = n) (hpn : p.length = pn) (hbm : body.length = m) (hk : k < l.length) (hl : n ≤ 100000) (hpl : pn ≤ 100000) (hex : ∀ e ∈ p, 0 ≤ e.1 ∧ 0 < e.2 ∧ e.1 + e.2 ≤ 4096) (hcnt : (numsL p).length ≤ 8192)
    (hin : ∀ i ∈ numsL p, i < l[k].length) (hbl : m = 8 * (numsL p).length) (hbc : m ≤ bc ∧ bc ≤ maxLen) (hsent : 0 ≤ sent ∧ sent ≤ 100000)
    (hrow : WkRow w b s lf A n c P pn pc (k : Int) F fn fc sent done) (hA : SlAt (encSl encU64) w (fun g => g < w.heap.size ∧ g ≠ b) A l) (hP : SlAt encExt w (fun g => g < w.heap.size ∧ g ≠ b) P p) (hBA : SlAt encU8 w (fun g => g < w.heap.size ∧ g ≠ b) BA body) :
    Calls Try.prog 51 #[.pointer (some ⟨b, 0, none⟩), .slice BA m bc] w fun e w' => ∃ D dc, e = .returned (.slice D (dfr l[k] body (numsL p)).length dc) ∧ (dfr l[k] body (numsL p)).length ≤ dc ∧ dc ≤ maxLen ∧ SlAt encInt w' (Nw w.heap.size w'.heap.size) D (toI (dfr l[k] body (numsL p))) ∧
      WkRow w' b s lf A n c P pn pc (k : Int) F fn fc (sent + (numsL p).length) done ∧ Below b w w' := by
  subst hn hpn
  have HBM := Lib.hid hbm
  have HBL := Lib.hid hbl
  have HROW := Lib.hid hrow
  have HSN := Lib.hid hsent
  have HIN := Lib.hid hin
  clear hbm hbl hin hrow hsent
  have hbw : b < w.heap.size := HROW.out.lt
  obtain ⟨n0, hn0⟩ : ∃ n0, w.heap.size = n0 := ⟨_, rfl⟩
  rw [hn0] at hA hP hBA hbw
  obtain ⟨W2, hW2⟩ : ∃ W2, ((w.alloc (.cells #[.pointer (some ⟨b, 0, none⟩)] 85)).alloc (.cells #[.slice BA m bc] 43)).alloc (.cells #[.slice none 0 0] 42) = W2 := ⟨_, rfl⟩
  have hs2 : W2.heap.size = n0 + 3 := by rw [← hW2, ← hn0]; simp
  have hB2 : Below n0 w W2 := by rw [← hW2, ← hn0]; exact ext_alloc (ext_alloc (ext_alloc (Below.refl _ _)))
  have a1 := heap_alloc_new w (.cells #[.pointer (some ⟨b, 0, none⟩)] 85)
  have a2 := heap_alloc_new (w.alloc (.cells #[.pointer (some ⟨b, 0, none⟩)] 85)) (.cells #[.slice BA m bc] 43)
  have a3 := heap_alloc_new ((w.alloc (.cells #[.pointer (some ⟨b, 0, none⟩)] 85)).alloc (.cells #[.slice BA m bc] 43)) (.cells #[.slice none 0 0] 42)
  simp only [World.size_alloc, hn0] at a1 a2 a3
  have hbx0 : Boxed W2 n0 85 (.pointer (some ⟨b, 0, none⟩)) := by rw [← hW2]; exact (Below.heap_alloc _ _ _ (by simp; omega)).trans ((Below.heap_alloc _ _ _ (by simp; omega)).trans a1)
  have hbx1 : Boxed W2 (n0 + 1) 43 (.slice BA m bc) := by rw [← hW2]; exact (Below.heap_alloc _ _ _ (by simp; omega)).trans a2
  have hbx2 : Boxed W2 (n0 + 2) 42 (.slice none 0 0) := by rw [← hW2]; exact a3
  have hr2 : WkRow W2 b s lf A l.length c P p.length pc (k : Int) F fn fc sent done := HROW.out.of_blk (hB2.block b hbw)
  obtain ⟨_, c3, _⟩ := hr2.cells
  have d0 := hbx0.cell
  clear a1 a2 a3
  have HW2 := Lib.hid hW2
  have HS2 := Lib.hid hs2
  have HN0 := Lib.hid hn0
  obtain ⟨W1, hW1⟩ : ∃ W1, W2.alloc (.cells #[.slice P p.length pc] 25) = W1 := ⟨_, rfl⟩
  have hB1 : Below n0 w W1 := by rw [← hW1]; exact hB2.trans (ext_alloc (Below.refl _ _) |>.mono (by omega))
  have hs1 : W1.heap.size = n0 + 4 := by rw [← hW1]; simp; omega
  obtain ⟨nn, hnn⟩ : ∃ n : Nat, 6 ≤ n := ⟨6, Nat.le_refl _⟩
  have HST := Lib.hid (numbers_stops (nn - 1) (by omega) (n0 + 3) pc (fun g => (g < n0 ∧ g ≠ b) ∨ g = n0 + 3) P p hpl hex W1 (fun g hg => by rcases hg with hg | hg <;> omega) (Or.inr rfl)
    (by rw [← hW1, ← hs2]; exact cell_of_row _ _ 0 _ _ _ (heap_alloc_new _ _)) ((hP.blk (fun g hg => hB1.block g hg.1)).more (fun g hg => Or.inl hg)))
  obtain ⟨lev, hlev⟩ : ∃ lev, l[k] = lev := ⟨_, rfl⟩
  have HLEV := Lib.hid hlev
  rw [hlev] at HIN ⊢
  have hx1 : ∀ g, g < n0 + 3 → W1.heap[g]? = W2.heap[g]? := fun g hg => by rw [← hW1]; exact Below.heap_alloc _ _ _ (by omega)
  have HST0 : Hid (DfI w b l.length c p.length pc fn fc s lf (k : Int) A P F sent done lev body m n0 (([] : List (NumOf p)).map (·.1)) W1) :=
    ⟨⟨_, (hx1 _ (by omega)).trans hbx2, Own.nil_⟩, ⟨BA, bc, (hx1 _ (by omega)).trans hbx1, by simpa using hbc.1, hbc.2, by simpa using hBA⟩, by simpa using hr2.of_blk (hx1 b (by omega)), (hx1 _ (by omega)).trans hbx0, hB1.mono (by omega), fun g hg _ => hB1.block g hg, by omega⟩
  have HS1 := Lib.hid hs1
  have HHA := Lib.hid hA
  have hmx : Try.prog.follows .mixedOrders = true := by kernel_rfl
  clear hA hP hBA hbx0 hbx1 hbx2 hr2 hlev hs2 hs1 hx1
  refine (callsIn_wide (n := nn)).1 ?_
  refine callsIn_of_wp_marks Try.func51 rfl trivial ?_ rfl
  simp only [Try.ntmps51, List.size_toArray, List.length_cons, List.length_nil, Nat.reduceAdd, Nat.reduceSub, Array.replicate_succ, Array.replicate_zero, List.push_toArray, List.append_toArray, List.nil_append, List.cons_append]
  gi_wp2_with fail
  refine ⟨trivial, fun _ => by omega, CallsIn.mono (callsIn_wide.2 (numbers_any P p.length pc _)) ?_⟩
  rintro e w1 ⟨rfl, rfl⟩
  rw [HS2.out]
  gi_wp2
  clear hW1 hW2 c3 d0
  refine wpIn_rangeFunc_ownT (own := fun _ => False) rfl (by omega) (gf := 74) (lb := #[.pointer (some ⟨n0 + 3, 0, none⟩)]) rfl trivial (enters_of Try.func74 (by kernel_rfl) rfl) HST.out KpN.trans
    (fun W l' o o' hl h ho _ => ⟨fun g hg => World.putObj_heap_other (by rw [HS1.out] at hl; rcases hg with hg | hg <;> omega), by simp, fun i cs fr hi => World.putObj_heap_other (fun e => by subst e; rw [h] at hi; cases hi; cases ho)⟩) (Below.refl _ _) (fun _ => rfl)
    (fun pre W => DfI w b l.length c p.length pc fn fc s lf (k : Int) A P F sent done lev body m n0 (pre.map (·.1)) W)
    (fun _ _ _ => False)
    (by rw [HS1.out]; exact dfI_own hbw)
    (fun _ _ _ _ _ hs _ _ => hs)
    HST0.out
    (fun x a' W => a' = { tmps := #[.pointer (some ⟨b, 0, none⟩), .slice BA m bc, .pointer (some ⟨n0, 0, none⟩), .pointer (some ⟨n0 + 1, 0, none⟩), .slice none 0 0, .pointer (some ⟨n0 + 1 + 1, 0, none⟩), .int .i64 (x.1 : Int), .pointer (some ⟨b, 0, none⟩), .pointer (some ⟨b, 0, none⟩), .pointer (some ⟨b, 0, none⟩), .pointer (some ⟨b, 3, none⟩), .slice P p.length pc, .func (.func 74) #[] #[.pointer (some ⟨n0 + 3, 0, none⟩)], .int .i64 (x.1 : Int), undef, undef, undef, undef, undef, undef, undef, undef, undef, undef, undef, undef, undef, undef, undef, undef, undef, undef, undef, undef, undef, undef, undef, undef, undef, undef], defers := [] }) ?hAx ?assign ?body ?done ?stop
  case hAx => exact fun x a' s X Y row h _ _ => h
  case assign =>
    rintro y pre x W K hi hK
    unfold natE
    have HI := Lib.hid hi; clear hi
    gi_wp2
    exact hK _ _ (KeepsFrom.refl _ _) (KpN.refl _ _) HI.out rfl
  case body =>
    rintro y pre ⟨x, hx⟩ a' W _ _ hdf rfl hlen
    obtain ⟨np, hnp⟩ : ∃ np, pre.map (·.1) = np := ⟨_, rfl⟩
    have hnl : pre.length = np.length := by rw [← hnp]; simp
    rw [hnp] at hdf
    rw [hnl] at hlen
    obtain ⟨⟨v, hv, hown⟩, ⟨A', c', hbb, hm1, hm2, hbs⟩, hr, hwb, hB, hKp, hsz⟩ := hdf
    have hxl := HIN.out x hx
    obtain ⟨mm, hmm⟩ : ∃ mm, m - 8 * np.length = mm := ⟨_, rfl⟩
    rw [hmm] at hbb hm1
    have HMM := Lib.hid hmm
    have hmm8 : 8 ≤ mm := by have := HBL.out; omega
    have hmm8I : (8 : Int) ≤ mm := by omega
    clear hmm
    have HNP := Lib.hid hnp; have HV := Lib.hid hv; have HOWN := Lib.hid hown; have HBS := Lib.hid hbs; have HBP := Lib.hid hB; have HKP := Lib.hid hKp; have HBB := Lib.hid hbb; have HRW := Lib.hid hr
    have hbW : b < W.heap.size := hr.lt
    have HC : Hid (∀ W', Below W.heap.size W W' → W'.cell? ⟨n0, 0, none⟩ = some (.pointer (some ⟨b, 0, none⟩)) ∧ W'.cell? ⟨n0 + 1, 0, none⟩ = some (.slice A' mm c')) := fun W' hb => ⟨(World.cell?_of_block (hb.block n0 (by omega))).trans hwb.cell, (World.cell?_of_block (hb.block (n0 + 1) (by omega))).trans hbb.cell⟩
    have HA2 : Hid (∀ W', Below W.heap.size W W' → SlAt (encSl encU64) W' (fun g => g < n0 ∧ g ≠ b) A l) := fun W' hb => (HHA.out.blk (fun g hg => (hb.block g (by omega)).trans (hKp g hg.1 hg.2)))
    have HR2 : Hid (∀ W', Below W.heap.size W W' → WkRow W' b s lf A l.length c P p.length pc (k : Int) F fn fc (sent + np.length) done) := fun W' hb => hr.of_blk (hb.block b hbW)
    have HB2 : Hid (∀ W', Below W.heap.size W W' → SlAt encU8 W' (fun g => g < n0 ∧ g ≠ b) A' ((body.drop (8 * np.length)).take 8)) := fun W' hb => (hbs.blk (fun g hg => (hb.block g (by omega)).trans (hKp g hg.1 hg.2))).take
    have hbne : body.drop (8 * np.length) ≠ [] := fun e => by
      have h := congrArg List.length e
      rw [List.length_drop, HBM.out, List.length_nil] at h
      have := HBL.out
      omega
    obtain ⟨gB, oB, rfl, _⟩ := HBS.out.some_ hbne
    clear hbne
    have hc8 : 8 ≤ c' := by omega
    have hc8I : (8 : Int) ≤ c' := by omega
    have hxI : (x : Int) < lev.length := by omega
    have hx0 : (0 : Int) ≤ x := by omega
    obtain ⟨r, hr8⟩ : ∃ r, decide ((body.drop (8 * np.length)).take 8 = le8 (lev.getD x 0)) = r := ⟨_, rfl⟩
    have HR8 := Lib.hid hr8
    have HT8 : Hid (((body.drop (8 * np.length)).take 8).length = 8) := by rw [Hid, List.length_take, List.length_drop, HBM.out]; have := HBL.out; omega
    have hw0 := Below.refl W.heap.size W
    have HWB := Lib.hid hwb
    clear hnp hv hown hbs hB hKp hbb hr hr8 hnl hwb
    have hSw : Below W.heap.size W W.drew := hw0.drew
    gi_wp2_with fail
    refine wpIn_region_V (fun W' => Below W.heap.size W W') 10 hmx ?_
    refine wpAnyV_takeD (i := 0) (v := ?_) (by kernel_rfl) rfl rfl (by kernel_rfl) (by kernel_rfl) (by kernel_rfl) (by kernel_rfl) (fun _ _ _ h => h) (by rfl) (by intro w; first | rfl | simp [Oper.about]) ?_ hSw ?_
    rotate_left 1
    · intro W9 hW9
      try dsimp only at hW9
      obtain ⟨e0, e1⟩ := HC.out W9 hW9
      go_simp
      try with_reducible rfl
    try simp only [List.setIfInBounds_toArray, List.set_cons_zero, List.set_cons_succ]
    refine wpAnyV_takeD (i := 1) (v := ?_) (by kernel_rfl) rfl rfl (by kernel_rfl) (by kernel_rfl) (by kernel_rfl) (by kernel_rfl) (fun _ _ _ h => h) (by rfl) (by intro w; first | rfl | simp [Oper.about]) ?_ hSw ?_
    rotate_left 1
    · intro W9 hW9
      try dsimp only at hW9
      obtain ⟨e0, e1⟩ := HC.out W9 hW9
      go_simp
      try with_reducible rfl
    try simp only [List.setIfInBounds_toArray, List.set_cons_zero, List.set_cons_succ]
    refine wpAnyV_takeD (i := 2) (v := ?_) (by kernel_rfl) rfl rfl (by kernel_rfl) (by kernel_rfl) (by kernel_rfl) (by kernel_rfl) (fun _ _ _ h => h) (by rfl) (by intro w; first | rfl | simp [Oper.about]) ?_ hSw ?_
    rotate_left 1
    · intro W9 hW9
      try dsimp only at hW9
      obtain ⟨e0, e1⟩ := HC.out W9 hW9
      go_simp
      try with_reducible rfl
    try simp only [List.setIfInBounds_toArray, List.set_cons_zero, List.set_cons_succ]
    refine wpAnyV_takeD (i := 4) (v := ?_) (by kernel_rfl) rfl rfl (by kernel_rfl) (by kernel_rfl) (by kernel_rfl) (by kernel_rfl) (fun _ _ _ h => h) (by rfl) (by intro w; first | rfl | simp [Oper.about]) ?_ hSw ?_
    rotate_left 1
    · intro W9 hW9
      try dsimp only at hW9
      obtain ⟨e0, e1⟩ := HC.out W9 hW9
      go_simp
      try with_reducible rfl
    try simp only [List.setIfInBounds_toArray, List.set_cons_zero, List.set_cons_succ]
    refine wpAnyV_op (i := 3) (by kernel_rfl) rfl rfl (fun K hK => ?_)
    gi_wp2_with fail
    refine ⟨trivial, fun _ => by omega, CallsIn.mono (CallsIn.inRound y (callsIn_wide.2 (nodes_any b l.length c k s lf A P F p.length pc fn fc (sent + np.length) done l (fun g => g < n0 ∧ g ≠ b) _ rfl hk hl (HR2.out _ hSw) (HA2.out _ hSw)))) ?_⟩
    rintro e w9 ⟨D, dd, rfl, hd1, hd2, hD, hdr⟩; have hw9 : Below W.heap.size W w9 := hSw.trans (hdr.below _); rw [HLEV.out] at hd1 hD ⊢
    refine hK.out _ _ (fun _ => hw9) ?_
    clear hK K
    try simp only [List.setIfInBounds_toArray, List.set_cons_zero, List.set_cons_succ]
    obtain ⟨gD, oD, rfl, _, cD, hd0, hd64⟩ := hD.u64 hxl
    have cD9 := (hdr.cell ⟨gD, oD + x, none⟩).trans cD
    have hgx : lev.getD x 0 = lev[x] := by rw [List.getD_eq_getElem?_getD, List.getElem?_eq_getElem hxl]; rfl
    obtain ⟨d, hd⟩ : ∃ d, lev[x] = d := ⟨_, rfl⟩
    rw [hd] at cD9 hd0 hd64 hgx
    rw [hgx] at HR8
    have HGX := Lib.hid hgx
    have HD64 := Lib.hid (And.intro hd0 hd64)
    clear hD cD hdr hd hgx hd0 hd64
    refine wpAnyV_op (i := 5) (by kernel_rfl) rfl rfl (fun K hK => ?_)
    go_simp
    refine hK.out _ _ (fun _ => hw9) ?_
    clear hK K
    try simp only [List.setIfInBounds_toArray, List.set_cons_zero, List.set_cons_succ]
    refine wpAnyV_op (i := 6) (by kernel_rfl) rfl rfl (fun K hK => ?_)
    go_simp
    refine hK.out _ _ (fun _ => hw9) ?_
    clear hK K
    try simp only [List.setIfInBounds_toArray, List.set_cons_zero, List.set_cons_succ]
    refine wpAnyV_op (i := 7) (by kernel_rfl) rfl rfl (fun K hK => ?_)
    gi_wp2_with fail
    refine ⟨trivial, fun _ => by omega, CallsIn.mono (CallsIn.inRound y (callsIn_wide.2 (put8_any d _ HD64.out))) ?_⟩
    rintro e w10 ⟨A8, c8, rfl, h81, h82, h83, hb8⟩; have hw10' : Below W.heap.size W w10 := hw9.trans (hb8.mono hw9.size)
    refine hK.out _ _ (fun _ => hw10') ?_
    clear hK K
    try simp only [List.setIfInBounds_toArray, List.set_cons_zero, List.set_cons_succ]
    refine wpAnyV_op (i := 8) (by kernel_rfl) rfl rfl (fun K hK => ?_)
    gi_wp2_with fail
    refine ⟨trivial, fun _ => by omega, CallsIn.mono (CallsIn.inRound y (callsIn_wide.2 (eqBytes_any (some ⟨gB, oB, none⟩) A8 c' c8 8 8 (fun g => g < n0 ∧ g ≠ b) (Nw w9.heap.size w10.heap.size) _ _ r _ HT8.out (by simp [le8]) HR8.out (HB2.out _ hw10') h83 (by omega) (by omega)))) ?_⟩
    rintro e w11 ⟨rfl, hd11⟩; have hw11' : Below W.heap.size W w11 := hw10'.trans (hd11.below _)
    refine hK.out _ _ (fun _ => hw11') ?_
    clear hK K
    try simp only [List.setIfInBounds_toArray, List.set_cons_zero, List.set_cons_succ]
    refine wpAnyV_op (i := 9) (by kernel_rfl) rfl rfl (fun K hK => ?_)
    go_simp
    refine hK.out _ _ (fun _ => hw11') ?_
    clear hK K
    try simp only [List.setIfInBounds_toArray, List.set_cons_zero, List.set_cons_succ]
    refine wpAnyV_done (by kernel_rfl) ?_ _
    have HX64 : Hid (I64 (x : Int)) := by rw [Hid]; unfold I64; unfold maxLen at hd2; omega
    clear h83 hb8 hd11 cD9 HD64 h81 h82 hd1 hd2 hw9 hw10' hSw hw0
    have hv11 : Boxed w11 (n0 + 1 + 1) 42 v := (hw11'.block _ (by omega)).trans HV.out
    have HOW11 := Lib.hid (HOWN.out.below hw11' (fun _ h => h.elim))
    have hlen8 : (toI (dfr lev body np)).length ≤ 8192 := by rw [toI_len]; have := dfr_len lev np body; omega
    have HSNC := Lib.hid (dfr_snoc lev x np body)
    rw [HGX.out] at HSNC
    have hgv := Lib.hid HOW11.out.cellsOf
    have HA9 : Hid (∀ (A9 : Option Addr), (A9 = some ⟨gB, oB + 8, none⟩ ∨ mm = 8) → SlAt encU8 w (fun g => g < n0 ∧ g ≠ b) A9 (body.drop (8 * (np.length + 1)))) := by
      have e : body.drop (8 * (np.length + 1)) = (body.drop (8 * np.length)).drop 8 := by rw [List.drop_drop, Nat.mul_add]
      rintro A9 (rfl | h)
      · rw [e]; exact HBS.out.drop (k := 8)
      · intro hne; exact absurd (List.drop_eq_nil_of_le (by rw [HBM.out]; have := HMM.out; omega)) hne
    cases r with
    | true =>
      have hq := of_decide_eq_true HR8.out
      have HSN2 : Hid (dfr lev body (np ++ [x]) = dfr lev body np) := by rw [Hid, HSNC.out, if_pos hq, List.append_nil]
      have hk6 : Hid (∀ g, g < W.heap.size → g ≠ n0 + 1 + 1 → (g < n0 + 4 ∨ ∀ cs fr, W.heap[g]? ≠ some (.cells cs 3 fr)) → w11.heap[g]? = W.heap[g]?) := fun g hg _ _ => hw11'.block g hg
      have hz6 : W.heap.size ≤ w11.heap.size := hw11'.size
      have hB6 : Below b W w11 := hw11'.mono (by omega)
      have HBO6 : Hid (BoxOwn encInt (n0 + 4) (n0 + 1 + 1) 42 3 (toI (dfr lev body (np ++ [x]))) w11) := by rw [Hid, HSN2.out]; exact ⟨v, hv11, HOW11.out⟩
      have HKF6 : Hid (KeepsFrom W1.heap.size W w11) := (below_others hw11').from _
      have hwb6 : Boxed w11 n0 85 (.pointer (some ⟨b, 0, none⟩)) := (hk6.out n0 (by omega) (by omega) (Or.inl (by omega))).trans HWB.out
      have hbb6 : Boxed w11 (n0 + 1) 43 (.slice (some ⟨gB, oB, none⟩) mm c') := (hk6.out (n0 + 1) (by omega) (by omega) (Or.inl (by omega))).trans HBB.out
      have hr6 : WkRow w11 b s lf A l.length c P p.length pc (k : Int) F fn fc (sent + np.length) done := HRW.out.of_blk (hk6.out b (by omega) (by omega) (Or.inl (by omega)))
      obtain ⟨c0, c1, c2, c3, c4, c5, c6, c7, cf⟩ := blk8 hr6
      have q0 := hwb6.cell
      have q1 := hbb6.cell
      have q1f := hbb6.frozen
      have hne1 : b ≠ n0 + 1 := by omega
      have hs3 : sent + np.length + 1 ≤ 200000 := by have := HSN.out; omega
      have hs4 : 0 ≤ sent + (np.length : Int) := by have := HSN.out; omega
      gi_wp2_with fail
      all_goals
        have hfin := fun A9 c9 h9 h9m hA9 => dfI_step (A9 := A9) (c9 := c9) hbw hsz HRW.out HWB.out HBB.out ⟨_, HV.out⟩ HBP.out HKP.out hk6.out hz6 hB6 HBO6.out HKF6.out HMM.out h9 h9m hA9
        simp only [ownPostG, List.unattach, List.map_append, List.map_cons, List.map_nil, HNP.out]
        exact hfin _ _ (by omega) (by omega) (HA9.out _ (by first | exact Or.inl rfl | (right; omega)))
    | false =>
      have hq := of_decide_eq_false HR8.out
      have HSN2 : Hid (dfr lev body (np ++ [x]) = dfr lev body np ++ [x]) := by rw [Hid, HSNC.out, if_neg hq]
      have HO1 := Lib.hid (HOW11.out.alloc (fun _ h => h.elim) (.cells #[.int .i64 (x : Int)] 3))
      have hc := hv11.cell
      have hf := hv11.frozen
      gi_wp2_with (gi_at_builtin; refine Hid.out ?_)
      change wpListIn _ _ _ _ _ _ _ _
      refine wpListIn_app1 (E := encInt) tyIntsD rfl _ _ rfl rfl HO1.out (x : Int) [.int .i64 (x : Int)] rfl ⟨rfl, HX64.out⟩ (heap_alloc_new _ _) (fun _ h => h.elim) (by have := hw11'.size; simp; omega) (by unfold maxLen; omega) (by omega) ?_
      intro A5 c5 w5 hown5 hg5 hat5
      obtain ⟨hv5, hbo5, hk5⟩ := BoxOwn.appended3 hv11 (by decide) HOW11.out hown5 hg5
      have hc5 := hv5.cell
      have hf5 := hv5.frozen
      obtain ⟨n9, hn9⟩ : ∃ n9, (toI (dfr lev body np)).length + 1 = n9 := ⟨_, rfl⟩
      rw [hn9] at hbo5 hk5 ⊢
      have HBO5 := Lib.hid hbo5
      have HK5 := Lib.hid hk5
      have HG5 := Lib.hid hg5
      clear hown5 hg5 hat5 hbo5 hk5 hn9 hc hf
      obtain ⟨W6, hW6⟩ : ∃ W6, w5.setCell ⟨n0 + 1 + 1, 0, none⟩ (.slice A5 n9 c5) = W6 := ⟨_, rfl⟩
      have hg5z := HG5.out.size
      have hwz := hw11'.size
      rw [World.size_alloc] at hg5z
      have hk6 : Hid (∀ g, g < W.heap.size → g ≠ n0 + 1 + 1 → (g < n0 + 4 ∨ ∀ cs fr, W.heap[g]? ≠ some (.cells cs 3 fr)) → W6.heap[g]? = W.heap[g]?) := fun g hg h1 h2 => by
        rw [← hW6]
        refine (heap_setCell_other _ ⟨n0 + 1 + 1, 0, none⟩ g _ h1).trans ((HG5.out.block g (by simp; omega) (fun e => ?_)).trans ((Below.heap_alloc _ _ _ (by omega)).trans (hw11'.block g hg)))
        obtain ⟨h3, cs, fr, h4⟩ := hgv.out g e.symm
        rcases h2 with h2 | h2
        · omega
        · exact h2 cs fr ((hw11'.block g hg).symm.trans h4)
      have hz6 : W.heap.size ≤ W6.heap.size := by rw [← hW6]; simp [World.setCell]; omega
      have hB6 : Below b W W6 := by
        rw [← hW6]
        exact ((((hw11'.mono (by omega)).alloc (by omega) _).grown HG5.out (by simp; omega) (fun g e => by have := (hgv.out g e).1; omega))).setCell (p := ⟨n0 + 1 + 1, 0, none⟩) (by show b ≤ n0 + 1 + 1; omega) _
      have HBO6 : Hid (BoxOwn encInt (n0 + 4) (n0 + 1 + 1) 42 3 (toI (dfr lev body (np ++ [x]))) W6) := by
        rw [Hid, HSN2.out, toI_app, ← hW6]; exact HBO5.out
      have HKF6 : Hid (KeepsFrom W1.heap.size W W6) := by rw [← hW6]; exact ((below_others hw11').trans HK5.out).from _
      have hwb6 : Boxed W6 n0 85 (.pointer (some ⟨b, 0, none⟩)) := (hk6.out n0 (by omega) (by omega) (Or.inl (by omega))).trans HWB.out
      have hbb6 : Boxed W6 (n0 + 1) 43 (.slice (some ⟨gB, oB, none⟩) mm c') := (hk6.out (n0 + 1) (by omega) (by omega) (Or.inl (by omega))).trans HBB.out
      have hr6 : WkRow W6 b s lf A l.length c P p.length pc (k : Int) F fn fc (sent + np.length) done := HRW.out.of_blk (hk6.out b (by omega) (by omega) (Or.inl (by omega)))
      obtain ⟨c0, c1, c2, c3, c4, c5, c6, c7, cf⟩ := blk8 hr6
      have q0 := hwb6.cell
      have q1 := hbb6.cell
      have q1f := hbb6.frozen
      have hne1 : b ≠ n0 + 1 := by omega
      have hs3 : sent + np.length + 1 ≤ 200000 := by have := HSN.out; omega
      have hs4 : 0 ≤ sent + (np.length : Int) := by have := HSN.out; omega
      gi_wp2_with fail
      all_goals
        have hfin := fun A9 c9 h9 h9m hA9 => dfI_step (A9 := A9) (c9 := c9) hbw hsz HRW.out HWB.out HBB.out ⟨_, HV.out⟩ HBP.out HKP.out hk6.out hz6 hB6 HBO6.out HKF6.out HMM.out h9 h9m hA9
        simp only [ownPostG, List.unattach, List.map_append, List.map_cons, List.map_nil, HNP.out]
        exact hfin _ _ (by omega) (by omega) (HA9.out _ (by first | exact Or.inl rfl | (right; omega)))
  case done =>
    rintro D ys W hD hS hdf hK
    have HS := Lib.hid hS; clear hS
    rw [HS.out] at hdf
    obtain ⟨⟨v, hv, hown⟩, _, hr, hwb, hB, hKp, hsz⟩ := hdf
    have HSL : ys.length = (numsL p).length := by rw [← HS.out]; simp
    obtain ⟨Q9, vc, rfl⟩ := hown.form
    have hc := hv.cell
    have HK := Lib.hid hK; have HR := Lib.hid hr; have HB := Lib.hid hB
    have hw : OwnW encInt W (n0 + 4) (n0 + 4) 3 (.slice Q9 (toI (dfr lev body (numsL p))).length vc) (toI (dfr lev body (numsL p))) := Own.more hown (fun _ h => h.elim) (fun g e h => h.2 e)
    obtain ⟨_, p1, p2, p3⟩ := hw.parts
    rw [toI_len] at p1 hc
    have HP := Lib.hid (And.intro p1 (And.intro p2 p3))
    have hbW : b < W.heap.size := hr.lt
    clear hw p1 p2 p3 hown hv hr hB hK hKp hwb
    gi_wp2
    refine ⟨by simp, .inl ⟨_, _, rfl, run_takeDeferred HK.out, ?_⟩⟩
    have hne : ∀ (g : Nat) (cs : Array Value) (T : TypeId) (fr : Nat × Nat), W.heap[g]? = some (Obj.cells cs T fr) → (W.putObj D (.deferred none)).heap[g]? = W.heap[g]? := fun g cs T fr h => (lkRes' HK.out rfl h).trans h.symm
    refine ⟨_, results_tmp rfl _ _ _, Q9, vc, rfl, HP.out.1, HP.out.2.1, (HP.out.2.2.keep (fun p _ => cell_putObj_dead HK.out rfl rfl p) (fun g hg => ⟨by have := hg.1; omega, Nat.lt_of_lt_of_le hg.2 (grownBy_putObj' W D (.deferred none)).size⟩)), ?_, HB.out.grown (grownBy_putObj' W D (.deferred none)) (by omega) (fun k e => by cases e; have := HS1.out; omega)⟩
    exact HR.out.of_blk (hne b _ _ _ HR.out)
  case stop =>
    rintro D c' pre W hD hS h
    exact h.elim
end Go.Proofs.Ytjehedfdikdfpaa

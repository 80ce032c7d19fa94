/-
  slices.AppendSeq and slices.Collect over an iterator of extents.; The code's Differ: the walk.; copy into an owned slice whose elements have any size. No program in sight.; The walks of standbyref03.SameSectors and SameWrites: they compare two lists of writes.; Rows of marks.; The walks of holds, Lookup (the reference).; The walks of Extents and pick (the reference).; The walk of effect: the map of the effects of a list of placed writes.; Arguments that read as data read as plain data (Enc), type by type; the last step of a law's proof. No program in sight.
-/
import Derived.Test.YtjehedfdikdfpaaProg
import Derived.Sort.QuietIn
import Derived.Laws.OwnMore
import Derived.Laws.CopyOwn
import Derived.Maps.RangeWalk
import Derived.Deep.OwnRows
import Derived.Deep.RegionLaw
import Derived.OpenShut
import Derived.Carry
import Derived.ProofKit
import Derived.ChangeSame
import GoSem.Claim
import GoSem.ClaimJoined
import GoSem.ClaimMapViews
import Derived.JoinedTies
import Derived.KernelRfl
import Derived.Test.YtjehedfdikdfpaaZL01
import Derived.Test.YtjehedfdikdfpaaZL03
import Derived.Test.YtjehedfdikdfpaaZL04
set_option linter.unusedVariables false
set_option linter.unusedSimpArgs false
set_option linter.unusedSectionVars false
set_option linter.unnecessarySimpa false
namespace Go.Proofs.Ytjehedfdikdfpaa
open Go.RowKit Go.Shelf
attribute [local go_sem] Oper.semAt_some

abbrev ExtI := { e : Ext // I64 e.1 ∧ I64 e.2 }
def extArgs (x : ExtI) : Array Value := #[.agg #[.int .i64 x.1.1, .int .i64 x.1.2]]
theorem tyExtsI : SliceTy Try.prog 25 67 2 16 := sliceTy_mk (z := .agg #[.int .i64 0, .int .i64 0]) Try.underlying25 (by kernel_rfl) rfl (by decide)
/-- a slice of all that an iterator has given -/
def SeqExt (S : List ExtI → Prop) (w : World) (e : Ending) (W' : World) : Prop := ∃ (ys : List ExtI) (A : Option Addr) (c : Nat), S ys ∧ e = .returned (.slice A ys.length c) ∧ ys.length ≤ c ∧ c ≤ maxLen ∧ SlAt encExt W' (Nw w.heap.size W'.heap.size) A (ys.map (·.1)) ∧ Below w.heap.size w W'
set_option maxRecDepth 100000 in
set_option maxHeartbeats 2000000 in
theorem appendSeqExt_in (n : Nat) (hn : 3 ≤ n) (own : TypeId → Prop) (ho1 : ¬ own 25) (ho2 : ¬ own 67) (gf : Nat) (lb : Array Value) (eg : ∀ args w, (callFunc gf args).run Try.prog w = .ok (.enter gf args) w) (S Sp : List ExtI → Prop) (N : Nat) (hN : N ≤ 1000000) (w : World)
    (hseq : SeqStopsT own Fence.wide (n - 1) Try.prog gf lb extArgs (KpT own w.heap.size) S Sp N w) (hS : ∀ ys, S ys → ys.length ≤ N) :
    CallsIn Fence.wide n Try.prog 91 #[.slice none 0 0, .func (.func gf) #[] lb] w (SeqExt S w) := by
  have h1 : 1 ≤ n := by omega
  have HS := Lib.hid hS; clear hS
  refine callsIn_of_wp_marks Try.func91 rfl trivial ?_ rfl
  simp only [Try.ntmps91, List.size_toArray, List.length_cons, List.length_nil, Nat.reduceAdd, Nat.reduceSub, Array.replicate_succ, Array.replicate_zero, List.push_toArray, List.append_toArray, List.nil_append, List.cons_append]
  gi_wp2
  have bS := Boxed.new w 25 (.slice none 0 0)
  have hB0 : Below w.heap.size w (w.alloc (.cells #[.slice none 0 0] 25)) := ext_alloc (Below.refl _ _)
  refine wpIn_rangeFunc_ownT rfl h1 (gf := gf) (lb := lb) (own := own) rfl trivial eg hseq (fun h k => KpT.trans h k) (fun W l o o' hl h ho _ => KpT.putObj W l o o' (by simp at hl; omega) h ho (by have := (Array.getElem?_eq_some_iff.1 h).1; simp at hl; omega)) hB0 (fun _ => rfl)
    (fun pre W => BoxOwn encExt w.heap.size w.heap.size 25 67 (pre.map (·.1)) W ∧ Below w.heap.size w W)
    (fun _ _ _ => False)
    (OwnT.and (boxOwn_ownT (fun pre : List ExtI => pre.map (·.1)) ho1 ho2) (ownT_below (Nat.le_refl _) (by simp)))
    (fun _ _ _ _ _ hs _ _ => hs)
    ⟨⟨_, bS, Own.nil_⟩, hB0⟩
    (fun x a' W => ∃ Bx, w.heap.size < Bx ∧ W.heap[Bx]? = some (.cells #[.int .i64 x.1.1, .int .i64 x.1.2] 67 (0, 0)) ∧ a' = { tmps := #[.slice none 0 0, .func (.func gf) #[] lb, .pointer (some ⟨w.heap.size, 0, none⟩), undef, .slice none 0 0, .pointer (some ⟨Bx, 0, none⟩), .func (.func gf) #[] lb, .agg #[.int .i64 x.1.1, .int .i64 x.1.2], undef, undef, undef, undef, undef], defers := [] }) ?hAx ?assign ?body ?done ?stop
  case hAx =>
    rintro x a' s X Y row ⟨Bx, hb, hh, he⟩ hg hr
    refine ⟨Bx, hb, (hg.block Bx (Array.getElem?_eq_some_iff.1 hh).1 (fun e => ?_)).trans hh, he⟩
    obtain ⟨_, o', h1, h2⟩ := hr Bx e.symm
    rw [hh] at h1; cases h1; cases h2
  case assign =>
    rintro l pre x W K ⟨hi, hB⟩ hK
    unfold extArgs
    gi_wp2
    obtain ⟨v, hv, hrow⟩ := hi
    refine hK _ _ ((KeepsOthers.alloc _ _).from _) (KpT.alloc _ _ hB.size) ⟨BoxOwn.alloc ⟨v, hv, hrow⟩ _, ext_alloc hB⟩ ⟨W.heap.size, hv.lt, heap_alloc_new _ _, rfl⟩
  case body =>
    rintro l pre x a' W _ _ ⟨⟨v, hv, hrow⟩, hB⟩ ⟨Bx, hBx, hbx, rfl⟩ hlen
    have hc := hv.cell
    have hsz := hB.size
    obtain ⟨t0, tf⟩ : W.cell? ⟨Bx, 0, none⟩ = some (.int .i64 x.1.1) ∧ W.cell? ⟨Bx, 1, none⟩ = some (.int .i64 x.1.2) := ⟨cell_of_row W Bx 0 _ _ _ hbx, cell_of_row W Bx 1 _ _ _ hbx⟩
    have hpl : (pre.map (·.1)).length = pre.length := List.length_map ..
    have HPL := Lib.hid hpl; clear hpl
    have HO1 := Lib.hid (hrow.alloc (fun _ h => h.elim) (.cells #[.int .i64 x.1.1, .int .i64 x.1.2] 67))
    have HRD : Hid (encExt.rd (W.alloc (.cells #[.int .i64 x.1.1, .int .i64 x.1.2] 67)) (fun _ => False) [.int .i64 x.1.1, .int .i64 x.1.2] x.1) := ext_mk x.2.1 x.2.2
    gi_wp2_with (gi_at_builtin; refine Hid.out ?_)
    change wpListIn _ _ _ _ _ _ _ _
    refine wpListIn_app1 (E := encExt) tyExtsI rfl _ _ rfl rfl HO1.out x.1 _ rfl HRD.out (heap_alloc_new _ _) (fun _ h => h.elim) (by simp; omega) (by rw [HPL.out]; unfold maxLen; omega) (by rw [HPL.out]; omega) ?_
    intro A' c' w5 hown5 hg5 hat5
    obtain ⟨hv5, hbo5, hk5, hkp5⟩ := BoxOwn.appended hv (by decide) ho1 ho2 hrow hsz (Nat.le_refl _) hown5 hg5
    have hc5 := hv5.cell
    have hf5 := hv5.frozen
    simp only [List.length_map] at hbo5 hk5 hkp5
    have HB5 := Lib.hid hbo5; have HK5 := Lib.hid hk5; have HKP5 := Lib.hid hkp5
    clear hown5 hg5 hat5 hbo5 hk5 hkp5
    gi_wp2
    exact ⟨HK5.out.from _, HKP5.out, by rw [List.map_append]; exact HB5.out, hB.trans HKP5.out.1⟩
  case done =>
    rintro D ys W hD hS ⟨⟨v, hv, hrow⟩, hB⟩ hK
    obtain ⟨A, c, rfl⟩ := hrow.form
    have hc := hv.cell
    simp only [List.length_map] at hc
    have hrow2 : Own encExt (W.putObj D (.deferred none)) w.heap.size 67 (fun _ => False) (.slice A (ys.map (·.1)).length c) (ys.map (·.1)) := hrow.blk (fun g hg => by
      rcases hg with hg | hg
      · exact hg.elim
      · obtain ⟨_, cs, fr, hh⟩ := hrow.cellsOf g hg
        exact World.putObj_heap_other (fun e => by subst e; rw [hK] at hh; cases hh))
    have HR := Lib.hid hrow2; clear hrow2 hrow hv
    gi_wp2
    refine ⟨by simp, .inl ⟨_, _, rfl, run_takeDeferred hK, ?_⟩⟩
    obtain ⟨A', c', he, r1, r2, r3⟩ := HR.out.rd (fun _ h => h.elim)
    simp only [List.cons.injEq, Value.slice.injEq, and_true] at he
    obtain ⟨rfl, _, rfl⟩ := he
    simp only [List.length_map] at r1
    simp at hD
    exact ⟨_, results_tmp rfl _ _ _, ys, A, c, hS, rfl, r1, r2, r3, hB.grown (grownBy_putObj' W D (.deferred none)) hB.size (fun k e => by cases e; omega)⟩
  case stop =>
    rintro D c pre W _ _ h _
    exact h.elim
set_option maxHeartbeats 1000000 in
theorem collectExt_in (n : Nat) (hn : 4 ≤ n) (own : TypeId → Prop) (ho1 : ¬ own 25) (ho2 : ¬ own 67) (gf : Nat) (lb : Array Value) (eg : ∀ args w, (callFunc gf args).run Try.prog w = .ok (.enter gf args) w) (S Sp : List ExtI → Prop) (N : Nat) (hN : N ≤ 1000000) (w : World)
    (hseq : SeqStopsT own Fence.wide (n - 1 - 1) Try.prog gf lb extArgs (KpT own w.heap.size) S Sp N w) (hS : ∀ ys, S ys → ys.length ≤ N) :
    CallsIn Fence.wide n Try.prog 80 #[.func (.func gf) #[] lb] w (SeqExt S w) := by
  have HC := Lib.hid (appendSeqExt_in (n - 1) (by omega) own ho1 ho2 gf lb eg S Sp N hN w hseq hS)
  clear hseq hS
  refine callsIn_of_wp Try.func80 rfl trivial ?_ rfl
  simp only [Try.ntmps80, List.size_toArray, List.length_cons, List.length_nil, Nat.reduceAdd, Nat.reduceSub, Array.replicate_succ, Array.replicate_zero, List.push_toArray, List.append_toArray, List.nil_append, List.cons_append]
  gi_wp2_with fail
  refine ⟨trivial, fun _ => by omega, CallsIn.mono HC.out ?_⟩
  rintro e w1 ⟨ys, A, c, k1, rfl, k2, k3, k4, k5⟩
  have HK4 := Lib.hid k4; clear k4
  gi_wp2
  go_ret
  exact ⟨ys, A, c, k1, rfl, k2, k3, HK4.out, k5⟩
end Go.Proofs.Ytjehedfdikdfpaa

namespace Go.Proofs.Ytjehedfdikdfpaa
open Go.RowKit Go.Shelf Go.Lib Go.Sort

def encEnd : Enc End := encPair encInt (encPair encInt encInt)
def endCells (x : End) : List Value := [.int .i64 x.1, .int .i64 x.2.1, .int .i64 x.2.2]
theorem end_cs {w : World} {S : Nat → Prop} {cs : List Value} {x : End} (h : encEnd.rd w S cs x) : cs = endCells x ∧ I64 x.1 ∧ I64 x.2.1 ∧ I64 x.2.2 := by
  obtain ⟨c1, c2, rfl, ⟨rfl, h1⟩, ⟨c3, c4, rfl, ⟨rfl, h2⟩, ⟨rfl, h3⟩⟩⟩ := h
  exact ⟨rfl, h1, h2, h3⟩
theorem end_mk {w : World} {S : Nat → Prop} {x : End} (h1 : I64 x.1) (h2 : I64 x.2.1) (h3 : I64 x.2.2) : encEnd.rd w S (endCells x) x := ⟨[_], [_, _], rfl, ⟨rfl, h1⟩, ⟨[_], [_], rfl, ⟨rfl, h2⟩, ⟨rfl, h3⟩⟩⟩
theorem SlAt.end_ {w : World} {S : Nat → Prop} {A : Option Addr} {l : List End} {k : Nat} (h : SlAt encEnd w S A l) (hk : k < l.length) :
    ∃ b off, A = some ⟨b, off, none⟩ ∧ S b ∧ w.cell? ⟨b, off + k * 3, none⟩ = some (.int .i64 l[k].1) ∧ w.cell? ⟨b, off + k * 3 + 1, none⟩ = some (.int .i64 l[k].2.1) ∧ w.cell? ⟨b, off + k * 3 + 2, none⟩ = some (.int .i64 l[k].2.2) ∧ I64 l[k].1 ∧ I64 l[k].2.1 ∧ I64 l[k].2.2 := by
  obtain ⟨b, off, cs, e, hb, hs, hr⟩ := h.at_ hk
  obtain ⟨rfl, h1, h2, h3⟩ := end_cs hr
  exact ⟨b, off, e, hb, hs 0 _ rfl, hs 1 _ rfl, hs 2 _ rfl, h1, h2, h3⟩
theorem Own.cells_ {α : Type} {E : Enc α} {w : World} {base : Nat} {e : TypeId} {S : Nat → Prop} {v : Value} {l : List α} (h : Own E w base e S v l) : ∀ g, v.ownBlock = some g → ∃ cs fr, w.heap[g]? = some (.cells cs e fr) := by
  obtain ⟨css, h1, h2, h3⟩ := h
  intro g hg
  rcases h1.2 with ⟨rfl, _⟩ | ⟨g', cap, cur, rfl, hb, hh, _⟩
  · simp [Value.ownBlock] at hg
  · have : g' = g := by simpa [Value.ownBlock] using hg
    subst this
    exact ⟨_, _, hh⟩
def cfEnd (x y : End) : Int := cmpI x.1 y.1
theorem cfEnd_lt (x y : End) : ltOf cfEnd x y = decide (x.1 < y.1) := by
  unfold ltOf cfEnd cmpI
  rw [decide_eq_decide]
  split <;> (try split) <;> omega
theorem swoEnd : SWO (ltOf cfEnd) where
  irrefl x := by rw [cfEnd_lt]; simp
  trans x y z h1 h2 := by rw [cfEnd_lt] at *; simp at *; omega
  ntrans x y z h1 h2 := by rw [cfEnd_lt] at *; simp at *; omega
theorem ends1_grow (p q : End) (W : World) :
    Calls Try.prog 98 #[.agg #[.int .i64 p.1, .int .i64 p.2.1, .int .i64 p.2.2], .agg #[.int .i64 q.1, .int .i64 q.2.1, .int .i64 q.2.2]] W fun e w' => e = .returned (.int .i64 (cfEnd p q)) ∧ ∃ n os', w' = grow (W.drewN n) os' := by
  obtain ⟨a, b, c⟩ := p
  obtain ⟨a', b', c'⟩ := q
  go_enter Try.func98, Try.ntmps98
  go_wp2_with fail
  refine (compare_any a a' _).mono ?_
  rintro e w' ⟨rfl, rfl⟩
  go_wp2
  go_ret
  exact ⟨ret_int rfl, 0, _, by rw [alloc_eq_grow, alloc_eq_grow, grow_grow]; rfl⟩
theorem cmpLaysEnd (blk off size : Nat) (w : World) : CmpLays Try.prog 98 #[] endCells 3 cfEnd blk off size w := fun _ _ _ _ x y => ends1_grow x y _
theorem get_flat3 (ps : List End) (i : Nat) (hi : i < ps.length) : (ps.toArray)[i]! = ps[i] := by simp [hi]
theorem heap_sortK3 {w : World} {g n : Nat} {os : Array Obj} (d : Array End) : w.grownBy (sortWorldK endCells 3 w g 0 n d os) (some g) := by
  refine ⟨rfl, rfl, rfl, by simp [sortWorldK, grow, putRowK, putRow, mapBlock, Sort.ahead], fun k hk hne => ?_⟩
  unfold sortWorldK putRowK
  rw [heap_grow_old _ _ (by simpa [putRow, mapBlock, Sort.ahead] using hk)]
  have : g ≠ k := fun e => hne (by rw [e])
  simp [putRow, mapBlock, Sort.ahead, Array.getElem?_modify, this]
/-- the sort of ends that a call owns -/
theorem sortEnd_any (A : Option Addr) (base c n : Nat) (T : TypeId) (S : Nat → Prop) (ps : List End) (w : World) (hn : ps.length = n) (h : Own encEnd w base T S (.slice A n c) ps) (hl : n ≤ 4611686018427387000) (hok : ∀ p ∈ ps, I64 p.1 ∧ I64 p.2.1 ∧ I64 p.2.2) :
    Calls Try.prog 97 #[.slice A n c, .func (.func 98) #[] #[]] w fun e w' => (∃ v, e = .returned v) ∧ ∃ qs : List End, qs.length = n ∧ qs.Perm ps ∧ qs.Pairwise (fun x y => x.1 ≤ y.1) ∧ SlAt encEnd w' (fun b => A = some ⟨b, 0, none⟩) A qs ∧ w.grownBy w' (Value.slice A n c).ownBlock ∧ (∀ b off, qs ≠ [] → A = some ⟨b, off, none⟩ → ∃ cs fr, w'.heap[b]? = some (.cells cs T fr)) := by
  subst hn
  by_cases h0 : ps = []
  · subst h0
    have hcon := AnyF.slices_SortFunc_none { Try.sortEnd with } A c (.func (.func 98) #[] #[]) w
    change Calls Try.prog 97 _ _ _ at hcon
    refine hcon.mono fun e w' ⟨he, hw⟩ => ⟨⟨_, he⟩, [], rfl, List.Perm.refl _, List.Pairwise.nil, SlAt.nil_, ?_, fun _ _ h => absurd rfl h⟩
    rw [hw]; exact World.grownBy.refl _ _
  · have hpos : 0 < ps.length := List.length_pos_iff.2 h0
    obtain ⟨g, _, rfl, _, hg, _⟩ := h.elem hpos
    have eg : ∀ args w, (callFunc 98 args).run Try.prog w = .ok (.enter 98 args) w := enters_of Try.func98 (by kernel_rfl) rfl
    have hH : HoldsK endCells 3 w g 0 ps.toArray := by
      intro t ht
      rw [size_flatK] at ht
      have ht' : t < ps.length * 3 := by simpa using ht
      have hi : t / 3 < ps.length := by omega
      obtain ⟨g', cs, he, _, _, _, hc, hf, hr⟩ := h.elem (i := t / 3) hi
      injection he with he
      injection he with he
      subst he
      obtain ⟨rfl, _⟩ := end_cs hr
      refine ⟨?_, by simpa using hf (0 + t)⟩
      rw [get_flatK _ _ _ _ ht, get_flat3 ps _ hi]
      have hm : t % 3 = 0 ∨ t % 3 = 1 ∨ t % 3 = 2 := by omega
      have e3 : encEnd.size = 3 := rfl
      rcases hm with hm | hm | hm
      · have := hc 0 _ rfl
        rw [e3, show t / 3 * 3 + 0 = 0 + t from by omega] at this
        rw [hm]; exact this
      · have := hc 1 _ rfl
        rw [e3, show t / 3 * 3 + 1 = 0 + t from by omega] at this
        rw [hm]; exact this
      · have := hc 2 _ rfl
        rw [e3, show t / 3 * 3 + 2 = 0 + t from by omega] at this
        rw [hm]; exact this
    have hcon := AnyQ.slices_SortFunc Try.sortEnd 3 Try.isAgg152 Try.sizeOf152 endCells (fun _ => rfl) (fun x v hv => by simp [endCells] at hv; rcases hv with rfl | rfl | rfl <;> rfl) cfEnd swoEnd 98 #[] g 0 c ps.toArray w eg (cmpLaysEnd g 0 ps.toArray.size w) hH hg (by simp; omega)
    change Calls Try.prog 97 _ _ _ at hcon
    rw [List.size_toArray] at hcon
    refine hcon.mono fun e w' ⟨he, d', n, os, hp, hs, hw⟩ => ⟨⟨_, he⟩, d'.toList, ?_, ?_, ?_, ?_, ?_, ?_⟩
    · have := hp.1; simpa using this
    · have hsz : d'.size = ps.length := by have := hp.1; simpa using this
      have h3 := hp.2.2
      rw [← hsz] at h3
      have e1 : (d'.extract 0 d'.size) = d' := by simp
      have e2 : (ps.toArray.extract 0 d'.size) = ps.toArray := by rw [hsz]; simp
      rw [e1, e2] at h3
      simpa using h3
    · have hsz : d'.size = ps.length := by have := hp.1; simpa using this
      rw [List.pairwise_iff_getElem]
      intro i j hi hj hij
      have hj' : j < d'.size := by simpa using hj
      have := hs i j (Nat.zero_le _) hij (by omega)
      rw [cfEnd_lt, getElem!_pos d' j hj', getElem!_pos d' i (by omega)] at this
      simp only [decide_eq_false_iff_not] at this
      simp only [Array.getElem_toList]
      omega
    · subst hw
      have hsz : d'.size = ps.length := by have := hp.1; simpa using this
      have hperm : d'.toList.Perm ps := by
        have h3 := hp.2.2
        rw [← hsz] at h3
        have e1 : (d'.extract 0 d'.size) = d' := by simp
        have e2 : (ps.toArray.extract 0 d'.size) = ps.toArray := by rw [hsz]; simp
        rw [e1, e2] at h3
        simpa using h3
      refine fun _ => ⟨g, 0, rfl, rfl, fun i x hx => ⟨endCells x, fun j u hu => ?_, ?_⟩⟩
      · have hi : i < d'.size := by have := (List.getElem?_eq_some_iff.1 hx).1; simpa using this
        have hq := holdsK_putRowK endCells 3 (Sort.ahead w n) g 0 ps.toArray d' (holdsK_ahead endCells 3 w n g 0 _ hH) (by simp [hsz])
        have hq2 := holdsK_grow endCells 3 _ os g 0 _ (by simpa [putRowK, putRow, mapBlock, Sort.ahead] using hg) hq
        have hj : j < 3 := (List.getElem?_eq_some_iff.1 hu).1
        have := (HoldsK.cell hq2 (i := i) (c := j) hi hj).1
        have e1 : d'[i]! = x := by
          rw [getElem!_pos d' i hi]
          have := (List.getElem?_eq_some_iff.1 hx).2
          simpa using this
        rw [e1] at this
        have e2 : (endCells x)[j]! = u := by
          obtain ⟨hj', hu'⟩ := List.getElem?_eq_some_iff.1 hu
          rw [getElem!_pos _ j hj']; exact hu'
        rw [e2] at this
        exact this
      · have hm : x ∈ ps := hperm.mem_iff.1 (List.mem_of_getElem? hx)
        exact end_mk (hok x hm).1 (hok x hm).2.1 (hok x hm).2.2
    · subst hw
      exact heap_sortK3 _
    · subst hw
      intro b off _ e
      injection e with e
      injection e with e1 e2
      subst e1
      obtain ⟨cs, fr, h1⟩ := h.cells_ g rfl
      refine ⟨?_, fr, ?_⟩
      rotate_left
      · unfold sortWorldK putRowK
        rw [heap_grow_old _ _ (by simpa [putRow, mapBlock, Sort.ahead] using hg)]
        simp only [putRow, mapBlock, Sort.ahead, Array.getElem?_modify, if_true]
        show Option.map _ (w.heap[g]?) = _
        rw [h1]
        rfl
end Go.Proofs.Ytjehedfdikdfpaa

namespace Go.Proofs.Ytjehedfdikdfpaa
open Go.RowKit

theorem tyEnds : SliceTy Try.prog 148 152 3 24 := sliceTy_mk (z := .agg #[.int .i64 0, .int .i64 0, .int .i64 0]) Try.underlying148 (by kernel_rfl) rfl (by decide)
theorem within2_any (s n : Int) (w : World) (hs : I64 s) (hn : I64 n) : Calls Try.prog 96 #[.agg #[.int .i64 s, .int .i64 n]] w fun e w' => ∃ f t q, e = .returned (.tuple #[.int .i64 f, .int .i64 t, .bool q]) ∧ q = decide (clipF (s, n) < clipT (s, n)) ∧ (q = true → f = clipF (s, n) ∧ t = clipT (s, n)) ∧ Below w.heap.size w w' := by
  refine (within_any s n w hs hn).mono fun e w' h => ?_
  obtain ⟨f, t, q, he, h1, h2, h3, h4, h5, h6⟩ := h
  refine ⟨f, t, q, he, ?_, ?_, h6⟩
  · cases q with
    | true =>
      have hft := h1.1 rfl
      have a1 := (h4 rfl f).1 ⟨Int.le_refl _, hft⟩
      simp only at a1
      rw [eq_comm, decide_eq_true_eq]
      unfold clipF clipT
      simp only
      split <;> split <;> omega
    | false =>
      rw [eq_comm, decide_eq_false_iff_not]
      intro hc
      have := h5 rfl (clipF (s, n))
      unfold clipF clipT at *
      simp only at *
      split at this <;> split at hc <;> omega
  · rintro rfl
    have hft := h1.1 rfl
    have a1 := (h4 rfl f).1 ⟨Int.le_refl _, hft⟩
    have a2 := (h4 rfl (t - 1)).1 ⟨by omega, by omega⟩
    have a3 := (h4 rfl (clipF (s, n))).2
    have a4 := (h4 rfl (clipT (s, n) - 1)).2
    unfold clipF clipT at *
    simp only at *
    split at a3 <;> split at a4 <;> (constructor <;> omega)
def endsE (i : Int) (e : Ext) : List End := if clipF e < clipT e then [(clipF e, i, 1), (clipT e, i, -1)] else []
theorem endsL_snoc (i : Int) (l : List Ext) (e : Ext) : endsL i (l ++ [e]) = endsL i l ++ endsE i e := by simp [endsL, endsE]
theorem endsL_len (i : Int) (l : List Ext) : (endsL i l).length ≤ 2 * l.length := by
  induction l using snocRec with
  | h0 => simp [endsL]
  | h1 l e ih =>
    rw [endsL_snoc, List.length_append, List.length_append]
    have : (endsE i e).length ≤ 2 := by unfold endsE; split <;> simp
    simp; omega
def endsN (ls : List (List Ext)) (k : Nat) : List End := (List.range k).flatMap fun (i : Nat) => endsL i (ls.getD i [])
theorem endsN_succ (ls : List (List Ext)) (k : Nat) : endsN ls (k + 1) = endsN ls k ++ endsL k (ls.getD k []) := by simp [endsN, List.range_succ]
theorem endsN_len (ls : List (List Ext)) (k : Nat) (hk : k ≤ ls.length) : (endsN ls k).length ≤ 2 * ((ls.take k).map List.length).sum := by
  induction k with
  | zero => simp [endsN]
  | succ k ih =>
    have h1 := ih (by omega)
    have h2 := endsL_len k (ls.getD k [])
    have e : ls.getD k [] = ls[k]'(by omega) := by simp [List.getD_eq_getElem?_getD, List.getElem?_eq_getElem (show k < ls.length by omega)]
    rw [endsN_succ, List.length_append, List.take_succ_eq_append_getElem (by omega), List.map_append, List.sum_append]
    rw [e] at h2 ⊢
    simp only [List.map_cons, List.map_nil, List.sum_cons, List.sum_nil]
    omega
theorem endsL_ok {i : Int} (hi : 0 ≤ i ∧ i ≤ 1000) (l : List Ext) : ∀ e ∈ endsL i l, I64 e.1 ∧ I64 e.2.1 ∧ I64 e.2.2 := by
  intro e he
  obtain ⟨x, _, hx⟩ := List.mem_flatMap.1 he
  split at hx
  · rename_i hc
    have hF : 0 ≤ clipF x := by unfold clipF; split <;> omega
    have hT : clipT x ≤ 4096 := by unfold clipT; split <;> omega
    simp only [List.mem_cons, List.not_mem_nil, or_false] at hx
    unfold I64
    rcases hx with rfl | rfl <;> (simp only; omega)
  · simp at hx
def EndsRet (ls : List (List Ext)) (w : World) (e : Ending) (w' : World) : Prop :=
  ∃ A c, ∃ qs : List End, e = .returned (.slice A qs.length c) ∧ qs.length ≤ c ∧ c ≤ maxLen ∧ qs.Perm (endsN ls ls.length) ∧ qs.Pairwise (fun x y => x.1 ≤ y.1) ∧ (∀ e ∈ qs, I64 e.1 ∧ I64 e.2.1 ∧ I64 e.2.2) ∧ SlAt encEnd w' (Nw w.heap.size w'.heap.size) A qs ∧ Below w.heap.size w w' ∧ (∀ b off, qs ≠ [] → A = some ⟨b, off, none⟩ → ∃ cs fr, w'.heap[b]? = some (.cells cs 152 fr))
set_option maxHeartbeats 4000000 in
theorem ends_any (A : Option Addr) (c : Nat) (ls : List (List Ext)) (w : World) (h1 : SlAt (encSl encExt) w (Bl w.heap.size) A ls) (hl : ls.length ≤ 1000) (ht : (ls.map List.length).sum ≤ 1000000) :
    Calls Try.prog 93 #[.slice A ls.length c] w (EndsRet ls w) := by
  have H1 : Hid (∀ w', Below w.heap.size w w' → SlAt (encSl encExt) w' (Bl w.heap.size) A ls) := fun w' hb => h1.below hb
  clear h1
  have hsum : ∀ k, ((ls.take k).map List.length).sum ≤ (ls.map List.length).sum := fun k => by
    have := congrArg (fun l => (l.map List.length).sum) (List.take_append_drop k ls)
    simp only [List.map_append, List.sum_append] at this
    omega
  have HSUM := Lib.hid hsum; clear hsum
  go_enter Try.func93, Try.ntmps93
  go_wp2
  go_loopw [3, 13] (fun v i wr => ∃ (k : Nat) (B : Option Addr) (vc : Nat) (out : List End), k ≤ ls.length ∧ i = .int .i64 k ∧ v = .slice B out.length vc ∧ Below w.heap.size w wr ∧ Hid (out = endsN ls k) ∧ Hid (OwnW encEnd wr w.heap.size w.heap.size 152 (.slice B out.length vc) out)) (fun _ i _ => ls.length - (intOf i).toNat)
  case atStart => exact ⟨0, none, 0, [], by omega, rfl, rfl, Below.refl _ _, by simp [Hid, endsN], OwnW.nil_⟩
  case round =>
    obtain ⟨wo, rfl⟩ : ∃ wo : World, wo = wr := ⟨_, rfl⟩
    obtain ⟨k, B, vc, out, hk, rfl, rfl, hB, hout, hown⟩ := hrel
    by_cases hlt : k < ls.length
    · obtain ⟨b, off, D, dc, rfl, hb, g0, hD, hn1, hn2⟩ := (H1.out wo hB).sl hlt
      have hnn : (0 : Int) ≤ k := by omega
      have hki : (k : Int) < ls.length := by omega
      obtain ⟨l, hl'⟩ : ∃ l, Hid (l = ls[k]'hlt) := ⟨_, Lib.hid rfl⟩
      have hgd : ls.getD k [] = l := by rw [hl'.out]; simp [List.getD_eq_getElem?_getD, List.getElem?_eq_getElem hlt]
      have HGD := Lib.hid hgd; clear hgd
      rw [← hl'.out] at g0 hD hn1
      have hlen : (endsN ls k).length + 2 * l.length ≤ 2000000 := by
        have h1 := endsN_len ls k hk
        have h2 := HSUM.out (k + 1)
        rw [List.take_succ_eq_append_getElem hlt, List.map_append, List.sum_append, ← hl'.out] at h2
        simp only [List.map_cons, List.map_nil, List.sum_cons, List.sum_nil] at h2
        omega
      have HD : Hid (∀ w', Below w.heap.size w w' → SlAt encExt w' (Bl w.heap.size) D l) := fun w' hb => hD.keep (fun p hp => World.cell?_of_block ((hb.block _ hp).trans (hB.block _ hp).symm)) (fun _ h => h)
      unfold maxLen at hn2
      clear hD
      go_wp2
      go_loopw [3, 20] (fun v j wr => ∃ (m : Nat) (B : Option Addr) (vc : Nat) (out : List End), m ≤ l.length ∧ j = .int .i64 m ∧ v = .slice B out.length vc ∧ Below w.heap.size w wr ∧ Hid (out = endsN ls k ++ endsL k (l.take m)) ∧ Hid (OwnW encEnd wr w.heap.size w.heap.size 152 (.slice B out.length vc) out)) (fun _ j _ => l.length - (intOf j).toNat)
      case atStart => exact ⟨0, B, vc, out, by omega, rfl, rfl, hB, by rw [hout.out]; simp [Hid, endsL], hown.out⟩
      case round =>
        obtain ⟨wp, rfl⟩ : ∃ wp : World, wp = wr := ⟨_, rfl⟩
        clear hB hout hown
        obtain ⟨m, B, vc, out, hm, rfl, rfl, hB, hout, hown⟩ := hrel
        have hol : out.length ≤ 2000000 := by
          have h3 := endsL_len k (l.take m)
          have h4 : (l.take m).length ≤ l.length := by rw [List.length_take]; omega
          rw [hout.out, List.length_append]; omega
        by_cases hlm : m < l.length
        · obtain ⟨b', off', rfl, hb', e0, e1, hi1, hi2⟩ := (HD.out wp hB).ext hlm
          have hmm : (0 : Int) ≤ m := by omega
          have hmi : (m : Int) < l.length := by omega
          have hsz := hB.size
          go_wp2_with fail
          refine (within2_any l[m].1 l[m].2 _ hi1 hi2).mono ?_
          rintro e w1 ⟨f, t, q, rfl, hq, hft, hb1⟩
          have hB1 : Below w.heap.size w w1 := ext_trans (ext_alloc hB) hb1
          have hw1 := ext_trans (ext_alloc (Below.refl wp.heap.size wp)) hb1
          have HO1 := Lib.hid (hown.out.below hw1)
          have hsz1 := hw1.size
          have HQ := Lib.hid hq; have HFT := Lib.hid hft
          clear hq hft
          have hst : Hid (endsN ls k ++ endsL k (l.take (m + 1)) = out ++ endsE k l[m]) := by
            rw [Hid, List.take_succ_eq_append_getElem hlm, endsL_snoc, ← List.append_assoc, ← hout.out]
          cases q with
          | false =>
            have hE : Hid (endsE k l[m] = []) := if_neg (by
              have := HQ.out
              rw [eq_comm, decide_eq_false_iff_not] at this
              exact this)
            clear e0 e1
            go_wp2
            go_roundw
            case rel => exact ⟨m + 1, B, vc, out, hlm, by go_num, rfl, hB1, by rw [Hid, hst.out, hE.out, List.append_nil], HO1.out⟩
            case measure => simp [intOf]; omega
          | true =>
            obtain ⟨hf1, hf2⟩ := HFT.out rfl
            have hE : Hid (endsE k l[m] = [(f, (k : Int), 1), (t, (k : Int), -1)]) := by
              rw [hf1, hf2]
              exact if_pos (by
                have := HQ.out
                rw [eq_comm, decide_eq_true_eq] at this
                exact this)
            have hFb : I64 f := by rw [hf1]; unfold I64 clipF; split <;> (unfold I64 at hi1; simp only at *; omega)
            have hTb : I64 t := by
              have := HQ.out
              rw [eq_comm, decide_eq_true_eq] at this
              have hF0 : 0 ≤ clipF (l[m].1, l[m].2) := by unfold clipF; split <;> (simp only at *; omega)
              have hT0 : clipT (l[m].1, l[m].2) ≤ 4096 := by unfold clipT; split <;> (simp only at *; omega)
              rw [hf2]; unfold I64; omega
            have hKb : I64 (k : Int) := by unfold I64; omega
            have HO2 := Lib.hid (Own.alloc HO1.out (fun _ h => h.1.2) (.cells #[.int .i64 f, .int .i64 k, .int .i64 1, .int .i64 t, .int .i64 k, .int .i64 (-1)] 152))
            clear hf1 hf2 e0 e1
            go_wp2_with (at_builtin; refine Hid.out ?_)
            change wpList _ _ _ _ _ _
            refine wpList_app (E := encEnd) tyEnds rfl _ _ rfl rfl HO2.out (news := [(f, (k : Int), 1), (t, (k : Int), -1)]) (css := [endCells (f, (k : Int), 1), endCells (t, (k : Int), -1)]) rfl rfl ⟨end_mk hFb hKb (by unfold I64; simp only; omega), end_mk hTb hKb (by unfold I64; simp only; omega), trivial⟩ (fun _ => ⟨_, rfl, fun j u hu => cell_new w1 _ _ j u hu⟩) (fun _ h => by simp; have := h.1.2; omega) (by simp; omega) (by unfold maxLen; omega) (by omega) ?_
            intro A' c' w5 hown5 hg5 hat5
            have hlt1 : ∀ g, (Value.slice B out.length vc).ownBlock = some g → g < w1.heap.size := fun g hg => (HO1.out.lt g hg).2
            have hok5 := Lib.hid (OwnW.app (hown5.more (S' := fun b => Nw w.heap.size (w1.alloc (.cells #[.int .i64 f, .int .i64 k, .int .i64 1, .int .i64 t, .int .i64 k, .int .i64 (-1)] 152)).heap.size b ∧ (Value.slice B out.length vc).ownBlock ≠ some b) (fun b hb => ⟨hb.1.mono (Nat.le_refl _) (by simp), hb.2⟩) (OwnW_new hown5 hat5 hlt1 (by simp))) hg5 hat5)
            have hB5 := Lib.hid ((ext_alloc (o := .cells #[.int .i64 f, .int .i64 k, .int .i64 1, .int .i64 t, .int .i64 k, .int .i64 (-1)] 152) hB1).grown hg5 (by simp; omega) (fun g h => (hown.out.lt g h).1))
            clear hown5 hg5 hat5 hlt1
            go_wp2
            go_roundw
            case rel => exact ⟨m + 1, A', c', out ++ [(f, (k : Int), 1), (t, (k : Int), -1)], hlm, by go_num, by simp, hB5.out, by rw [Hid, hst.out, hE.out], by have := hok5.out; simpa [Hid] using this⟩
            case measure => simp [intOf]; omega
        · have hkk : m = l.length := by omega
          subst hkk
          go_wp2
          go_roundw
          case rel => exact ⟨k + 1, B, vc, out, hlt, by go_num, rfl, hB, by rw [Hid, endsN_succ, HGD.out, hout.out, List.take_length], hown.out⟩
          case measure => simp [intOf]; omega
    · have hkk : k = ls.length := by omega
      subst hkk
      have hln := endsN_len ls ls.length (Nat.le_refl _)
      rw [List.take_length] at hln
      have hol : out.length ≤ 2000000 := by rw [hout.out]; omega
      have hokp : ∀ p ∈ out, I64 p.1 ∧ I64 p.2.1 ∧ I64 p.2.2 := by
        rw [hout.out]
        intro p hp
        obtain ⟨i, hi, hp⟩ := List.mem_flatMap.1 hp
        have := List.mem_range.1 hi
        exact endsL_ok (by omega) _ p hp
      have HOKP := Lib.hid hokp; clear hokp hln
      have hc := Lib.hid (sortEnd_any B w.heap.size vc out.length 152 _ out wo rfl hown.out (by omega) HOKP.out)
      go_wp2_with fail
      refine hc.out.mono ?_
      rintro e w1 ⟨⟨v, rfl⟩, qs, hql, hqp, hqs, hsl, hg1, hty⟩
      obtain ⟨_, p1, p2, _⟩ := hown.out.parts
      have hsz := hB.size
      have hown2 := Lib.hid hown.out.lt
      have hfin : Hid (EndsRet ls w (.returned (.slice B out.length vc)) w1) := by
        refine ⟨B, vc, qs, by rw [hql], by omega, p2, hqp.trans (by rw [hout.out]), hqs, fun e he => HOKP.out e (hqp.mem_iff.1 he), hsl.more (fun g hg => ?_), hB.grown hg1 hsz (fun g hg => (hown2.out g hg).1), hty⟩
        have := hown2.out g (by rw [hg]; rfl)
        have := hg1.size
        exact ⟨by omega, by omega⟩
      clear hqp hqs hsl hg1 hql p1 p2 hty
      go_wp2
      go_ret
      exact hfin.out
end Go.Proofs.Ytjehedfdikdfpaa

namespace Go.Proofs.Ytjehedfdikdfpaa
open Go.RowKit Go.Shelf
attribute [local go_sem] Oper.semAt_some


/-- the types of the blocks that a sweep stores into -/
def swOwn (T : TypeId) : Prop := T = 152 ∨ T = 150
/-- every block of ends lies as it lay -/
def KeepEnd (W W' : World) : Prop := ∀ (i : Nat) (cs : Array Value) (fr : Nat × Nat), W.heap[i]? = some (.cells cs 152 fr) → W'.heap[i]? = W.heap[i]?
theorem KeepEnd.refl (W : World) : KeepEnd W W := fun _ _ _ _ => rfl
theorem KeepEnd.trans {A B C : World} (h : KeepEnd A B) (k : KeepEnd B C) : KeepEnd A C := fun i cs fr hi => (k i cs fr ((h i cs fr hi).trans hi)).trans (h i cs fr hi)
theorem KeepEnd.kpT {n₀ : Nat} {A B C : World} (h : KeepEnd A B) (k : KpT swOwn n₀ B C) : KeepEnd A C := h.trans (fun i cs fr hi => k.2.2 i cs _ fr hi (Or.inl rfl))
theorem KeepEnd.alloc {A B : World} (h : KeepEnd A B) (o : Obj) : KeepEnd A (B.alloc o) := h.trans (fun i cs fr hi => Below.heap_alloc _ _ _ (Array.getElem?_eq_some_iff.1 hi).1)
theorem KeepEnd.set {A B : World} (h : KeepEnd A B) {b j : Nat} {u : Value} (hb : A.heap.size ≤ b) : KeepEnd A (B.setCell ⟨b, j, none⟩ u) := fun i cs fr hi => (Below.heap_setCell _ _ _ _ (fun e => by have := (Array.getElem?_eq_some_iff.1 hi).1; simp only at e; omega)).trans (h i cs fr hi)
theorem SlAt.keepEnd {W W' : World} {A : Option Addr} {l : List End} {S : Nat → Prop} (h : SlAt encEnd W S A l) (hT : ∀ b off, l ≠ [] → A = some ⟨b, off, none⟩ → ∃ cs fr, W.heap[b]? = some (.cells cs 152 fr)) (hk : KeepEnd W W') : SlAt encEnd W' S A l := fun hl => by
  obtain ⟨b, off, e, hb, hc⟩ := h hl
  obtain ⟨cs, fr, hh⟩ := hT b off hl e
  have hs := hk _ _ _ hh
  refine ⟨b, off, e, hb, fun i x hx => ?_⟩
  obtain ⟨ys, h1, h2⟩ := hc i x hx
  obtain ⟨rfl, k1, k2, k3⟩ := end_cs h2
  exact ⟨_, fun j v hv => (World.cell?_of_block (a := ⟨b, _, none⟩) hs).trans (h1 j v hv), end_mk k1 k2 k3⟩
theorem grown_drew {W W' : World} {row : Option Nat} (h : W.grownBy W' row) : W.grownBy W'.drew row := ⟨h.os, h.tape, h.output, h.size, h.block⟩
theorem last_true {qs : List End} {k : Nat} {x : End} (h : ∀ h : k + 1 < qs.length, qs[k + 1].1 ≠ x.1) : lastAt x (qs.drop (k + 1)) = true := by
  by_cases hk : k + 1 < qs.length
  · rw [List.drop_eq_getElem_cons hk]
    exact decide_eq_true (h hk)
  · rw [List.drop_of_length_le (by omega)]; rfl
theorem last_false {qs : List End} {k : Nat} {x : End} (hk : k + 1 < qs.length) (h : qs[k + 1].1 = x.1) : lastAt x (qs.drop (k + 1)) = false := by
  rw [List.drop_eq_getElem_cons hk]
  exact decide_eq_false (by simpa using h)
/-- both depths behind an end -/
def depA (dA d : Int) (L : Nat) : Int := if L = 0 then dA + d else dA
def depB (dB d : Int) (L : Nat) : Int := if L = 0 then dB else dB + d
theorem step_last (keep : Bool → Bool → Bool) (dA dB start : Int) (inside : Bool) (out : List Ext) (p d : Int) (L : Nat) (now : Bool) (hn : now = swIn keep (depA dA d L) (depB dB d L)) : swStep keep ⟨dA, dB, start, inside, out⟩ (p, (L : Int), d) true = ⟨depA dA d L, depB dB d L, if now && !inside then p else start, now, if !now && inside then out ++ [(start, p - start)] else out⟩ := by
  subst hn
  unfold swStep depA depB
  simp only [Bool.true_eq_false, if_false, Int.natCast_eq_zero]
theorem step_more (keep : Bool → Bool → Bool) (dA dB start : Int) (inside : Bool) (out : List Ext) (p d : Int) (L : Nat) : swStep keep ⟨dA, dB, start, inside, out⟩ (p, (L : Int), d) false = ⟨depA dA d L, depB dB d L, start, inside, out⟩ := by
  unfold swStep depA depB
  simp only [if_true, Int.natCast_eq_zero]
theorem dep_set {w : World} {D : Nat} {dA dB d dl : Int} {L : Nat} {T : TypeId} (h : w.heap[D]? = some (.cells #[.int .i64 dA, .int .i64 dB] T (0, 0))) (hL : L < 2) (hd : dl = if L = 0 then dA else dB) : (w.setCell ⟨D, L, none⟩ (.int .i64 (dl + d))).heap[D]? = some (.cells #[.int .i64 (depA dA d L), .int .i64 (depB dB d L)] T (0, 0)) := by
  match L, hL with
  | 0, _ => simp [World.setCell, Array.getElem?_modify, h, depA, depB, hd]
  | 1, _ => simp [World.setCell, Array.getElem?_modify, h, depA, depB, hd]
theorem union1_any (p q : Bool) (w : World) : Calls Try.prog 82 #[.bool p, .bool q] w fun e w' => e = .returned (.bool (or p q)) ∧ w' = w := by
  cases p with
  | true =>
    go_enter Try.func82, Try.ntmps82
    go_wp2
    go_ret
    exact ⟨rfl, rfl⟩
  | false =>
    go_enter Try.func82, Try.ntmps82
    go_wp2
    go_ret
    exact ⟨rfl, rfl⟩
/-- a function of two marks -/
structure KeepFn (kf : Nat) (keep : Bool → Bool → Bool) : Prop where
  enters : ∀ args w, (callFunc kf args).run Try.prog w = .ok (.enter kf args) w
  calls : ∀ (p q : Bool) (w : World), Calls Try.prog kf #[.bool p, .bool q] w fun e w' => e = .returned (.bool (keep p q)) ∧ w' = w
  off : keep false false = false
theorem KeepFn.at {kf : Nat} {keep : Bool → Bool → Bool} (h : KeepFn kf keep) (p q now : Bool) (hn : keep p q = now) (w : World) : Calls Try.prog kf #[.bool p, .bool q] w fun e w' => e = .returned (.bool now) ∧ w = w' :=
  (h.calls p q w).mono fun _ _ ⟨h1, h2⟩ => ⟨by rw [h1, hn], h2.symm⟩
set_option maxRecDepth 100000 in
set_option maxHeartbeats 4000000 in
theorem sweep_in (kf : Nat) (keep : Bool → Bool → Bool) (hkf : KeepFn kf keep) (n : Nat) (hn : 3 ≤ n) (l B1 B2 B3 n₀ : Nat) (A A' : Option Addr) (c c' : Nat) (a b : List Ext) (J Jx : List ExtI → World → Prop)
    (hY : ∀ pre x W, J pre W → pre.length < 1000000 → YieldAt Fence.wide (n - 1) Try.prog l #[.agg #[.int .i64 x.1.1, .int .i64 x.1.2]] W fun e W' =>
      (e = .returned (.bool true) ∧ J (pre ++ [x]) W' ∧ KpT swOwn n₀ W W') ∨ (e = .returned (.bool false) ∧ Jx (pre ++ [x]) W'))
    (W : World) (hn₀ : n₀ ≤ W.heap.size) (hJ : AbidesT swOwn W.heap.size J) (h1 : W.cell? ⟨B1, 0, none⟩ = some (.slice A a.length c)) (h2 : W.cell? ⟨B2, 0, none⟩ = some (.slice A' b.length c')) (h3 : W.cell? ⟨B3, 0, none⟩ = some (.func (.func kf) #[] #[])) (hB3' : B3 < n₀) (h0 : J [] W) (ha : SlAt encExt W (Bl W.heap.size) A a) (hb : SlAt encExt W (Bl W.heap.size) A' b) (hla : a.length ≤ 100000) (hlb : b.length ≤ 100000) (hca : a.length ≤ c ∧ c ≤ maxLen) (hcb : b.length ≤ c' ∧ c' ≤ maxLen) :
    CallsIn Fence.wide n Try.prog 92 #[.func (.yield l) #[] #[], .pointer (some ⟨B1, 0, none⟩), .pointer (some ⟨B2, 0, none⟩), .pointer (some ⟨B3, 0, none⟩)] W fun e W' => (∃ v, e = .returned v) ∧
      ((∃ ys : List ExtI, ys.map (·.1) = opL keep a b ∧ J ys W') ∨ (∃ pre : List ExtI, pre.map (·.1) <+: opL keep a b ∧ Jx pre W')) := by
  have hls : SlAt (encSl encExt) (W.alloc (.cells #[.slice A a.length c, .slice A' b.length c'] 25)) (Bl (W.alloc (.cells #[.slice A a.length c, .slice A' b.length c'] 25)).heap.size) (some ⟨W.heap.size, 0, none⟩) [a, b] := fun _ => by
    have hb' : Below W.heap.size W (W.alloc (.cells #[.slice A a.length c, .slice A' b.length c'] 25)) := ext_alloc (Below.refl _ _)
    refine ⟨W.heap.size, 0, rfl, by simp [Bl], fun i x hx => ?_⟩
    match i, hx with
    | 0, hx =>
      cases hx
      exact ⟨[.slice A a.length c], fun j v hv => by
        have hj : j = 0 := by have := (List.getElem?_eq_some_iff.1 hv).1; simp at this; exact this
        subst hj
        cases hv
        exact cell_of_row _ _ 0 _ _ _ (heap_alloc_new _ _), A, c, rfl, hca.1, hca.2, ha.fwd hb'⟩
    | 1, hx =>
      cases hx
      exact ⟨[.slice A' b.length c'], fun j v hv => by
        have hj : j = 0 := by have := (List.getElem?_eq_some_iff.1 hv).1; simp at this; exact this
        subst hj
        cases hv
        exact cell_of_row _ _ 1 _ _ _ (heap_alloc_new _ _), A', c', rfl, hcb.1, hcb.2, hb.fwd hb'⟩
  have hend := ends_any (some ⟨W.heap.size, 0, none⟩) 2 [a, b] (W.alloc (.cells #[.slice A a.length c, .slice A' b.length c'] 25)) hls (by simp) (by simp; omega)
  have HE := Lib.hid hend; clear hend hls
  have hent := hkf.enters
  have HKF := Lib.hid hkf; clear hkf
  have HJ := Lib.hid hJ; clear hJ
  have HA := Lib.hid ha; have HB := Lib.hid hb; clear ha hb
  refine callsIn_of_wp Try.func92 rfl trivial ?_ rfl
  simp only [Try.ntmps92, List.size_toArray, List.length_cons, List.length_nil, Nat.reduceAdd, Nat.reduceSub, Array.replicate_succ, Array.replicate_zero, List.push_toArray, List.append_toArray, List.nil_append, List.cons_append]
  gi_wp2_with fail
  refine ⟨trivial, fun _ => by omega, CallsIn.mono (callsIn_wide.2 HE.out) ?_⟩
  rintro e w1 ⟨Q, qc, qs, rfl, k1, k2, hperm, hsrt, hok, hsl, hb1, hty⟩
  have hB1 : Below W.heap.size W w1 := ext_trans (ext_alloc (Below.refl _ _)) hb1
  have HP := Lib.hid hperm; have HS := Lib.hid hsrt; have HOK := Lib.hid hok; have HSL := Lib.hid hsl; have HTY := Lib.hid hty
  have HJ1 : Hid (J [] w1) := HJ.out [] W w1 none h0 ⟨hB1.os, hB1.tape, hB1.output, hB1.size, fun i hi _ => hB1.block i hi⟩ (fun r e => by cases e)
  clear hperm hsrt hok hsl hty h0 hb1
  have hrg : ∀ e ∈ qs, 0 ≤ e.1 ∧ e.1 ≤ 4096 ∧ (e.2.1 = 0 ∨ e.2.1 = 1) ∧ (e.2.2 = 1 ∨ e.2.2 = -1) := fun e he => by
    have h2 := HP.out.mem_iff.1 he
    exact ends_range (a := a) (b := b) e (by simpa [endsN, List.range_succ, endsOf] using h2)
  have hql : qs.length ≤ 400000 := by
    have h2 := HP.out.length_eq
    have h3 := endsN_len [a, b] 2 (by simp)
    simp at h2 h3
    omega
  have HRG := Lib.hid hrg; clear hrg
  have hsz1 := hB1.size
  gi_wp2_with fail
  gi_loopw [7, 8, 18] (fun s ins i wr => ∃ (k : Nat) (pre : List ExtI) (st : Sw), k ≤ qs.length ∧ i = .int .i64 k ∧ s = .int .i64 st.start ∧ ins = .bool st.inside ∧ Hid (st = swN keep qs k) ∧ Hid (pre.map (·.1) = st.out) ∧ J pre wr ∧ Hid (wr.heap[w1.heap.size]? = some (.cells #[.int .i64 st.dA, .int .i64 st.dB] 150 (0, 0))) ∧ Below n₀ W wr ∧ KeepEnd w1 wr) (fun _ _ i _ => qs.length - (intOf i).toNat)
  case atStart =>
    refine ⟨0, [], sw0, Nat.zero_le _, rfl, rfl, rfl, rfl, rfl, ?_, heap_alloc_new _ _, (hB1.mono hn₀).alloc (by omega) _, (KeepEnd.refl _).alloc _⟩
    exact HJ.out [] w1 _ none HJ1.out (World.grownBy_alloc _ _ _) (fun r e => by cases e)
  case round =>
    obtain ⟨k, pre, st, hk, rfl, rfl, rfl, hst, hpre, hJs, hdep, hB, hke⟩ := hrel
    have hdl := (Array.getElem?_eq_some_iff.1 hdep.out).1
    by_cases hlt : k < qs.length
    · obtain ⟨bq, off, rfl, hbq, e0, e1, e2, i1, i2, i3⟩ := (HSL.out.keepEnd HTY.out hke).end_ hlt
      obtain ⟨g1, g2, g3, g4⟩ := HRG.out qs[k] (List.getElem_mem hlt)
      obtain ⟨y, hy⟩ : ∃ y, Hid (y = qs[k]'hlt) := ⟨_, Lib.hid rfl⟩
      rw [← hy.out] at e0 e1 e2 i1 i2 i3 g1 g2 g3 g4
      obtain ⟨p, L, d⟩ := y
      simp only at e0 e1 e2 i1 i2 i3 g1 g2 g3 g4
      obtain ⟨Ln, hLn⟩ : ∃ Ln : Nat, L = Ln := ⟨L.toNat, by omega⟩
      subst hLn
      have hnn : (0 : Int) ≤ k := by omega
      have hki : (k : Int) < qs.length := by omega
      have hok := swN_ok keep qs HRG.out k hk
      rw [← hst.out] at hok
      obtain ⟨o1, o2, o3, o4, o5, o6, o7, o8⟩ := hok
      obtain ⟨dl, hdl2, hdl3, hdl4⟩ : ∃ dl, Hid (dl = if Ln = 0 then st.dA else st.dB) ∧ -(k : Int) ≤ dl ∧ dl ≤ k := ⟨_, Lib.hid rfl, by split <;> assumption, by split <;> assumption⟩
      have hdc : wr.cell? ⟨w1.heap.size, Ln, none⟩ = some (.int .i64 dl) := by
        rw [cell_of_row _ _ _ _ _ _ hdep.out, hdl2.out]
        rcases g3 with g3 | g3
        · have : Ln = 0 := by omega
          subst this; rfl
        · have : Ln = 1 := by omega
          subst this; rfl
      have hdf : ∀ j, wr.frozen? ⟨w1.heap.size, j, none⟩ = false := fun j => by simp [World.frozen?, hdep.out]
      have hL2 : (Ln : Int) < 2 := by omega
      have hL0 : (0 : Int) ≤ Ln := by omega
      have hd1 : -1 ≤ d := by omega
      have hd2 : d ≤ 1 := by omega
      have HG3 := Lib.hid g3; have HG4 := Lib.hid g4
      clear g3 g4
      obtain ⟨dA, dB, start, inside, out⟩ := st
      simp only at hst hpre hdep hdl2 o1 o2 o3 o4 o5 o6 o7 o8
      have hls := fun (q : Bool) (hq : lastAt (p, (Ln : Int), d) (qs.drop (k + 1)) = q) => Lib.hid (show swN keep qs (k + 1) = swStep keep ⟨dA, dB, start, inside, out⟩ (p, (Ln : Int), d) q by rw [swN_succ hlt, ← hst.out, ← hy.out, hq])
      have HLS := Lib.hid hls; clear hls
      gi_wp2_with fail
      gi_region
      have hdep2 := Lib.hid (dep_set (d := d) hdep.out (by omega) hdl2.out)
      have hX := heap_alloc_new (wr.setCell ⟨w1.heap.size, Ln, none⟩ (.int .i64 (dl + d))) (.cells #[.int .i64 p, .int .i64 Ln, .int .i64 d] 152)
      have hszs : (wr.setCell ⟨w1.heap.size, Ln, none⟩ (.int .i64 (dl + d))).heap.size = wr.heap.size := by simp [World.setCell]
      rw [hszs] at hX
      have hJ2 : Hid (J pre ((wr.setCell ⟨w1.heap.size, Ln, none⟩ (.int .i64 (dl + d))).alloc (.cells #[.int .i64 p, .int .i64 Ln, .int .i64 d] 152)).drew) := by
        have hg1 : wr.grownBy (wr.setCell ⟨w1.heap.size, Ln, none⟩ (.int .i64 (dl + d))) (some w1.heap.size) := ⟨rfl, rfl, rfl, by rw [hszs]; exact Nat.le_refl _, fun i hi hne => Below.heap_setCell _ _ _ _ (fun e => hne (by rw [e]))⟩
        refine HJ.out pre wr _ (some w1.heap.size) hJs (grown_drew (grown_alloc hg1 _)) (fun r e => ?_)
        cases e
        exact ⟨hsz1, _, hdep.out, Or.inr ⟨_, _, _, rfl, Or.inr rfl⟩⟩
      have hB2 : Below n₀ W ((wr.setCell ⟨w1.heap.size, Ln, none⟩ (.int .i64 (dl + d))).alloc (.cells #[.int .i64 p, .int .i64 Ln, .int .i64 d] 152)).drew := ((hB.setCell (p := ⟨w1.heap.size, Ln, none⟩) (by simp; omega) _).alloc (by rw [hszs]; omega) _).drew
      have hke2 : Hid (KeepEnd w1 ((wr.setCell ⟨w1.heap.size, Ln, none⟩ (.int .i64 (dl + d))).alloc (.cells #[.int .i64 p, .int .i64 Ln, .int .i64 d] 152)).drew) := (hke.set (Nat.le_refl _)).alloc _
      have hdep3 : Hid (((wr.setCell ⟨w1.heap.size, Ln, none⟩ (.int .i64 (dl + d))).alloc (.cells #[.int .i64 p, .int .i64 Ln, .int .i64 d] 152)).drew.heap[w1.heap.size]? = some (.cells #[.int .i64 (depA dA d Ln), .int .i64 (depB dB d Ln)] 150 (0, 0))) := (Below.heap_alloc _ _ _ (by rw [hszs]; exact hdl)).trans hdep2.out
      have hX2 : ((wr.setCell ⟨w1.heap.size, Ln, none⟩ (.int .i64 (dl + d))).alloc (.cells #[.int .i64 p, .int .i64 Ln, .int .i64 d] 152)).drew.heap[wr.heap.size]? = some (.cells #[.int .i64 p, .int .i64 Ln, .int .i64 d] 152 (0, 0)) := hX
      have hsz2 : wr.heap.size < ((wr.setCell ⟨w1.heap.size, Ln, none⟩ (.int .i64 (dl + d))).alloc (.cells #[.int .i64 p, .int .i64 Ln, .int .i64 d] 152)).drew.heap.size := (Array.getElem?_eq_some_iff.1 hX2).1
      clear hX hszs hdep2 hJs
      generalize ((wr.setCell ⟨w1.heap.size, Ln, none⟩ (.int .i64 (dl + d))).alloc (.cells #[.int .i64 p, .int .i64 Ln, .int .i64 d] 152)).drew = w2 at hJ2 hB2 hke2 hdep3 hX2 hsz2 ⊢
      have x0 := cell_of_row _ _ 0 _ _ _ hX2
      clear hdc hdf e0 e1 e2
      by_cases hk1 : k + 1 < qs.length
      · obtain ⟨bq', off', hbo, _, f0, f1, f2, _⟩ := (HSL.out.keepEnd HTY.out hke2.out).end_ hk1
        injection hbo with hbo
        injection hbo with hbo1 hbo2
        subst hbo1 hbo2
        obtain ⟨p2, hp2⟩ : ∃ p2, Hid (p2 = (qs[k + 1]'hk1).1) := ⟨_, Lib.hid rfl⟩
        rw [← hp2.out] at f0
        clear f1 f2
        have hk1i : (k : Int) + 1 < qs.length := by omega
        have hk1d : decide ((k : Int) + 1 < qs.length) = true := decide_eq_true hk1i
        by_cases hpp : p2 = p
        · have hppb : (p2 == p) = true := by simp [hpp]
          have HPP := Lib.hid hpp; clear hpp
          gi_wp2_with fail
          gi_quiet (fail)
          gi_wp2_with fail
          go_roundw
          case rel =>
            refine ⟨k + 1, pre, ⟨depA dA d Ln, depB dB d Ln, start, inside, out⟩, hlt, by go_num, rfl, rfl, ?_, hpre.out, ?_, hdep3.out, bDrew hB2 _, hke2.out⟩
            · rw [Hid, (HLS.out false (last_false hk1 (by rw [← hp2.out]; exact HPP.out))).out, step_more]
            · exact HJ.out pre w2 _ none hJ2.out ⟨rfl, rfl, rfl, Nat.le_refl _, fun _ _ _ => rfl⟩ (fun r e => by cases e)
          case measure => simp [intOf]; omega
        · have hppb : (p2 == p) = false := by simp [hpp]
          have hlast : Hid (lastAt (p, (Ln : Int), d) (qs.drop (k + 1)) = true) := last_true (fun h => by rw [← hp2.out]; exact hpp)
          have HPP := Lib.hid hpp; clear hpp
          gi_wp2_with fail
          gi_quiet (fail)
          have hJ3 : Hid (J pre (w2.drewN nq)) := HJ.out pre w2 _ none hJ2.out ⟨rfl, rfl, rfl, Nat.le_refl _, fun _ _ _ => rfl⟩ (fun r e => by cases e)
          have hB3 : Below n₀ W (w2.drewN nq) := bDrew hB2 _
          have hke3 : Hid (KeepEnd w1 (w2.drewN nq)) := hke2.out
          have hdep4 : (w2.drewN nq).heap[w1.heap.size]? = some (.cells #[.int .i64 (depA dA d Ln), .int .i64 (depB dB d Ln)] 150 (0, 0)) := hdep3.out
          have hX3 : (w2.drewN nq).heap[wr.heap.size]? = some (.cells #[.int .i64 p, .int .i64 Ln, .int .i64 d] 152 (0, 0)) := hX2
          clear hJ2 hB2 hke2 hdep3 hX2 hsz2 x0
          generalize w2.drewN nq = w3 at hJ3 hB3 hke3 hdep4 hX3 ⊢
          have x0 := cell_of_row _ _ 0 _ _ _ hX3
          have d0 := cell_of_row _ _ 0 _ _ _ hdep4
          have d1 := cell_of_row _ _ 1 _ _ _ hdep4
          have hb3 := (hB3.cell (p := ⟨B3, 0, none⟩) hB3').trans h3
          have HDEP := Lib.hid hdep4
          clear hX3 hdep4
          obtain ⟨eA, hA⟩ : ∃ eA, Hid (eA = depA dA d Ln) := ⟨_, Lib.hid rfl⟩
          obtain ⟨eB, hB'⟩ : ∃ eB, Hid (eB = depB dB d Ln) := ⟨_, Lib.hid rfl⟩
          rw [← hA.out] at d0
          rw [← hB'.out] at d1
          obtain ⟨now, hnow⟩ : ∃ now, Hid (now = swIn keep eA eB) := ⟨_, Lib.hid rfl⟩
          have hstep : Hid (swN keep qs (k + 1) = ⟨depA dA d Ln, depB dB d Ln, if now && !inside then p else start, now, if !now && inside then out ++ [(start, p - start)] else out⟩) := by
            rw [Hid, (HLS.out true hlast.out).out, step_last (now := now) (hn := by rw [hnow.out, hA.out, hB'.out])]
          gi_wp2_with fail
          refine ⟨trivial, fun _ => by omega, CallsIn.mono (callsIn_wide.2 (HKF.out.at _ _ now hnow.out.symm w3)) ?_⟩
          clear d0 d1 hb3
          rintro e w' ⟨rfl, rfl⟩
          cases now with
          | true =>
            cases inside with
            | true =>
              gi_wp2_with fail
              refine ⟨fun _ h => (by cases h), ?_⟩
              gi_wp2_with fail
              go_roundw
              case rel => exact ⟨k + 1, pre, _, hlt, by go_num, rfl, rfl, hstep.out.symm, hpre.out, hJ3.out, HDEP.out, hB3, hke3.out⟩
              case measure => simp [intOf]; omega
            | false =>
              gi_wp2_with fail
              refine ⟨fun _ h => (by cases h), ?_⟩
              gi_wp2_with fail
              go_roundw
              case rel => exact ⟨k + 1, pre, _, hlt, by go_num, rfl, rfl, hstep.out.symm, hpre.out, hJ3.out, HDEP.out, hB3, hke3.out⟩
              case measure => simp [intOf]; omega
          | false =>
            cases inside with
            | false =>
              gi_wp2_with fail
              refine ⟨fun _ h => (by cases h), ?_⟩
              gi_wp2_with fail
              go_roundw
              case rel => exact ⟨k + 1, pre, _, hlt, by go_num, rfl, rfl, hstep.out.symm, hpre.out, hJ3.out, HDEP.out, hB3, hke3.out⟩
              case measure => simp [intOf]; omega
            | true =>
              have hpl : pre.length < 1000000 := by
                have h2 := congrArg List.length hpre.out
                rw [List.length_map] at h2
                omega
              have hx64 : I64 start ∧ I64 (p - start) := by unfold I64; omega
              obtain ⟨fn, tmps, assign, body, hy', hR⟩ := hY pre ⟨(start, p - start), hx64⟩ w3 hJ3.out hpl
              dsimp only at hy'
              gi_wp2_with fail
              refine ⟨fun _ => by omega, hR.mono ?_⟩
              clear x0 hy' hR
              have hgr := Lib.hid hB3; clear hB3
              rintro e w4 (⟨rfl, hJ4, hk4⟩ | ⟨rfl, hJx4⟩)
              · have hd4 : Hid (w4.heap[w1.heap.size]? = some (.cells #[.int .i64 (depA dA d Ln), .int .i64 (depB dB d Ln)] 150 (0, 0))) := (hk4.2.2 _ _ _ _ HDEP.out (Or.inr rfl)).trans HDEP.out
                gi_wp2_with fail
                go_roundw
                case rel => exact ⟨k + 1, pre ++ [⟨(start, p - start), hx64⟩], _, hlt, by go_num, rfl, rfl, hstep.out.symm, by rw [Hid, List.map_append, hpre.out]; rfl, hJ4, hd4.out, hgr.out.trans hk4.1, hke3.out.kpT hk4⟩
                case measure => simp [intOf]; omega
              · have hpf : Hid ((pre ++ [(⟨(start, p - start), hx64⟩ : ExtI)]).map (·.1) <+: opL keep a b) := by
                  have h2 := sweep_law keep HKF.out.off a b qs (by have h2 := HP.out; simpa [endsN, List.range_succ, endsOf] using h2) HS.out
                  have h3 := swN_prefix keep qs (k := k + 1) hlt
                  rw [← sweepL_swN, h2, hstep.out] at h3
                  rw [Hid, List.map_append, hpre.out]
                  exact h3
                gi_wp2_with fail
                refine bodyPost_ret (results_none rfl _ _ _) rfl ?_
                exact ⟨⟨_, rfl⟩, .inr ⟨_, hpf.out, hJx4⟩⟩
      · have hk1i : ¬ ((k : Int) + 1 < qs.length) := by omega
        have hk1d : decide ((k : Int) + 1 < qs.length) = false := decide_eq_false hk1i
        have hlast : Hid (lastAt (p, (Ln : Int), d) (qs.drop (k + 1)) = true) := last_true (fun h => absurd h hk1)
        have hk1e : (qs.length : Int) ≤ (k : Int) + 1 := by omega
        clear hk1 hk1i
        gi_wp2_with fail
        gi_quiet (fail)
        have hJ3 : Hid (J pre (w2.drewN nq)) := HJ.out pre w2 _ none hJ2.out ⟨rfl, rfl, rfl, Nat.le_refl _, fun _ _ _ => rfl⟩ (fun r e => by cases e)
        have hB3 : Below n₀ W (w2.drewN nq) := bDrew hB2 _
        have hke3 : Hid (KeepEnd w1 (w2.drewN nq)) := hke2.out
        have hdep4 : (w2.drewN nq).heap[w1.heap.size]? = some (.cells #[.int .i64 (depA dA d Ln), .int .i64 (depB dB d Ln)] 150 (0, 0)) := hdep3.out
        have hX3 : (w2.drewN nq).heap[wr.heap.size]? = some (.cells #[.int .i64 p, .int .i64 Ln, .int .i64 d] 152 (0, 0)) := hX2
        clear hJ2 hB2 hke2 hdep3 hX2 hsz2 x0
        generalize w2.drewN nq = w3 at hJ3 hB3 hke3 hdep4 hX3 ⊢
        have x0 := cell_of_row _ _ 0 _ _ _ hX3
        have d0 := cell_of_row _ _ 0 _ _ _ hdep4
        have d1 := cell_of_row _ _ 1 _ _ _ hdep4
        have hb3 := (hB3.cell (p := ⟨B3, 0, none⟩) hB3').trans h3
        have HDEP := Lib.hid hdep4
        clear hX3 hdep4
        obtain ⟨eA, hA⟩ : ∃ eA, Hid (eA = depA dA d Ln) := ⟨_, Lib.hid rfl⟩
        obtain ⟨eB, hB'⟩ : ∃ eB, Hid (eB = depB dB d Ln) := ⟨_, Lib.hid rfl⟩
        rw [← hA.out] at d0
        rw [← hB'.out] at d1
        obtain ⟨now, hnow⟩ : ∃ now, Hid (now = swIn keep eA eB) := ⟨_, Lib.hid rfl⟩
        have hstep : Hid (swN keep qs (k + 1) = ⟨depA dA d Ln, depB dB d Ln, if now && !inside then p else start, now, if !now && inside then out ++ [(start, p - start)] else out⟩) := by
          rw [Hid, (HLS.out true hlast.out).out, step_last (now := now) (hn := by rw [hnow.out, hA.out, hB'.out])]
        gi_wp2_with fail
        refine ⟨trivial, fun _ => by omega, CallsIn.mono (callsIn_wide.2 (HKF.out.at _ _ now hnow.out.symm w3)) ?_⟩
        clear d0 d1 hb3
        rintro e w' ⟨rfl, rfl⟩
        cases now with
        | true =>
          cases inside with
          | true =>
            gi_wp2_with fail
            refine ⟨fun _ h => (by cases h), ?_⟩
            gi_wp2_with fail
            go_roundw
            case rel => exact ⟨k + 1, pre, _, hlt, by go_num, rfl, rfl, hstep.out.symm, hpre.out, hJ3.out, HDEP.out, hB3, hke3.out⟩
            case measure => simp [intOf]; omega
          | false =>
            gi_wp2_with fail
            refine ⟨fun _ h => (by cases h), ?_⟩
            gi_wp2_with fail
            go_roundw
            case rel => exact ⟨k + 1, pre, _, hlt, by go_num, rfl, rfl, hstep.out.symm, hpre.out, hJ3.out, HDEP.out, hB3, hke3.out⟩
            case measure => simp [intOf]; omega
        | false =>
          cases inside with
          | false =>
            gi_wp2_with fail
            refine ⟨fun _ h => (by cases h), ?_⟩
            gi_wp2_with fail
            go_roundw
            case rel => exact ⟨k + 1, pre, _, hlt, by go_num, rfl, rfl, hstep.out.symm, hpre.out, hJ3.out, HDEP.out, hB3, hke3.out⟩
            case measure => simp [intOf]; omega
          | true =>
            have hpl : pre.length < 1000000 := by
              have h2 := congrArg List.length hpre.out
              rw [List.length_map] at h2
              omega
            have hx64 : I64 start ∧ I64 (p - start) := by unfold I64; omega
            obtain ⟨fn, tmps, assign, body, hy', hR⟩ := hY pre ⟨(start, p - start), hx64⟩ w3 hJ3.out hpl
            dsimp only at hy'
            gi_wp2_with fail
            refine ⟨fun _ => by omega, hR.mono ?_⟩
            clear x0 hy' hR
            have hgr := Lib.hid hB3; clear hB3
            rintro e w4 (⟨rfl, hJ4, hk4⟩ | ⟨rfl, hJx4⟩)
            · have hd4 : Hid (w4.heap[w1.heap.size]? = some (.cells #[.int .i64 (depA dA d Ln), .int .i64 (depB dB d Ln)] 150 (0, 0))) := (hk4.2.2 _ _ _ _ HDEP.out (Or.inr rfl)).trans HDEP.out
              gi_wp2_with fail
              go_roundw
              case rel => exact ⟨k + 1, pre ++ [⟨(start, p - start), hx64⟩], _, hlt, by go_num, rfl, rfl, hstep.out.symm, by rw [Hid, List.map_append, hpre.out]; rfl, hJ4, hd4.out, hgr.out.trans hk4.1, hke3.out.kpT hk4⟩
              case measure => simp [intOf]; omega
            · have hpf : Hid ((pre ++ [(⟨(start, p - start), hx64⟩ : ExtI)]).map (·.1) <+: opL keep a b) := by
                have h2 := sweep_law keep HKF.out.off a b qs (by have h2 := HP.out; simpa [endsN, List.range_succ, endsOf] using h2) HS.out
                have h3 := swN_prefix keep qs (k := k + 1) hlt
                rw [← sweepL_swN, h2, hstep.out] at h3
                rw [Hid, List.map_append, hpre.out]
                exact h3
              gi_wp2_with fail
              refine bodyPost_ret (results_none rfl _ _ _) rfl ?_
              exact ⟨⟨_, rfl⟩, .inr ⟨_, hpf.out, hJx4⟩⟩
    · have hkk : k = qs.length := by omega
      subst hkk
      have hfin : Hid (pre.map (·.1) = opL keep a b) := by
        rw [Hid, hpre.out, hst.out, ← sweepL_swN]
        exact sweep_law _ HKF.out.off a b qs (by have h2 := HP.out; simpa [endsN, List.range_succ, endsOf] using h2) HS.out
      gi_wp2_with fail
      go_end0
      exact ⟨⟨_, rfl⟩, .inl ⟨pre, hfin.out, hJs⟩⟩
end Go.Proofs.Ytjehedfdikdfpaa

namespace Go.Proofs.Ytjehedfdikdfpaa
open Go.RowKit Go.Shelf
attribute [local go_sem] Oper.semAt_some

theorem sweep_any (A A' : Option Addr) (n c m c' kf : Nat) (w : World) : Calls Try.prog 81 #[.slice A n c, .slice A' m c', .func (.func kf) #[] #[]] w fun e w' => e = .returned (.func (.func 92) #[] #[.pointer (some ⟨w.heap.size, 0, none⟩), .pointer (some ⟨w.heap.size + 1, 0, none⟩), .pointer (some ⟨w.heap.size + 1 + 1, 0, none⟩)]) ∧
    w' = ((w.alloc (.cells #[.slice A n c] 25)).alloc (.cells #[.slice A' m c'] 25)).alloc (.cells #[.func (.func kf) #[] #[]] 137) := by
  go_enter Try.func81, Try.ntmps81
  go_wp2
  go_ret
  exact ⟨rfl, rfl⟩
def opSeq (keep : Bool → Bool → Bool) (a b : List Ext) (ys : List ExtI) : Prop := ys.map (·.1) = opL keep a b
theorem sweep_stops {kf : Nat} {keep : Bool → Bool → Bool} (hkf : KeepFn kf keep) (n : Nat) (hn : 3 ≤ n) (A A' : Option Addr) (c c' B1 B2 B3 : Nat) (a b : List Ext) (w : World)
    (h1 : w.cell? ⟨B1, 0, none⟩ = some (.slice A a.length c)) (h2 : w.cell? ⟨B2, 0, none⟩ = some (.slice A' b.length c')) (h3 : w.cell? ⟨B3, 0, none⟩ = some (.func (.func kf) #[] #[])) (l1 : B1 < w.heap.size) (l2 : B2 < w.heap.size) (l3 : B3 < w.heap.size) (ha : SlAt encExt w (Bl w.heap.size) A a) (hb : SlAt encExt w (Bl w.heap.size) A' b) (hla : a.length ≤ 100000) (hlb : b.length ≤ 100000) (hca : a.length ≤ c ∧ c ≤ maxLen) (hcb : b.length ≤ c' ∧ c' ≤ maxLen) :
    SeqStopsT swOwn Fence.wide n Try.prog 92 #[.pointer (some ⟨B1, 0, none⟩), .pointer (some ⟨B2, 0, none⟩), .pointer (some ⟨B3, 0, none⟩)] extArgs (KpT swOwn w.heap.size) (opSeq keep a b) (fun pre => pre.map (·.1) <+: opL keep a b) 1000000 w :=
  fun l J Jx W hW hJ _ hY h0 => sweep_in kf keep hkf n hn l B1 B2 B3 w.heap.size A A' c c' a b J Jx hY W hW.size hJ ((hW.cell (p := ⟨B1, 0, none⟩) l1).trans h1) ((hW.cell (p := ⟨B2, 0, none⟩) l2).trans h2) ((hW.cell (p := ⟨B3, 0, none⟩) l3).trans h3) l3 h0 (ha.fwd hW) (hb.fwd hW) hla hlb hca hcb
theorem opSeq_len {keep : Bool → Bool → Bool} {a b : List Ext} (ys : List ExtI) (h : opSeq keep a b ys) : ys.length ≤ 1000000 := by
  have := congrArg List.length h
  rw [List.length_map] at this
  have := (opL_bound keep a b).2
  omega
theorem alloc3_cells (w : World) (o1 o2 o3 : Obj) : (((w.alloc o1).alloc o2).alloc o3).heap[w.heap.size]? = some o1 ∧ (((w.alloc o1).alloc o2).alloc o3).heap[w.heap.size + 1]? = some o2 ∧ (((w.alloc o1).alloc o2).alloc o3).heap[w.heap.size + 1 + 1]? = some o3 := by
  refine ⟨?_, ?_, ?_⟩
  · exact (Below.heap_alloc _ _ _ (by simp <;> omega)).trans ((Below.heap_alloc _ _ _ (by simp)).trans (heap_alloc_new _ _))
  · exact (Below.heap_alloc _ _ _ (by simp)).trans (heap_new2 _ _ _)
  · exact heap_new3 _ _ _ _
theorem keepU : KeepFn 82 or := ⟨enters_of Try.func82 (by kernel_rfl) rfl, union1_any, rfl⟩
theorem union_any (A A' : Option Addr) (c c' n m : Nat) (a b r : List Ext) (hn : a.length = n) (hm : b.length = m) (hr : opL or a b = r) (w : World) (h1 : SlAt encExt w (Bl w.heap.size) A a) (h2 : SlAt encExt w (Bl w.heap.size) A' b) (hla : n ≤ 100000) (hlb : m ≤ 100000) (hca : n ≤ c ∧ c ≤ maxLen) (hcb : m ≤ c' ∧ c' ≤ maxLen) :
    Calls Try.prog 61 #[.slice A n c, .slice A' m c'] w (RetSl encExt r w) := by
  subst hn hm hr
  obtain ⟨n, hn⟩ : ∃ n : Nat, 10 ≤ n := ⟨10, Nat.le_refl _⟩
  have hB3 : Below w.heap.size w (((w.alloc (.cells #[.slice A a.length c] 25)).alloc (.cells #[.slice A' b.length c'] 25)).alloc (.cells #[.func (.func 82) #[] #[]] 137)) := ext_alloc (ext_alloc (ext_alloc (Below.refl _ _)))
  have hc3 := alloc3_cells w (.cells #[.slice A a.length c] 25) (.cells #[.slice A' b.length c'] 25) (.cells #[.func (.func 82) #[] #[]] 137)
  have hstop := sweep_stops (keepU) (n - 1 - 1 - 1) (by omega) A A' c c' _ _ _ a b _ (cell_of_row _ _ 0 _ _ _ hc3.1) (cell_of_row _ _ 0 _ _ _ hc3.2.1) (cell_of_row _ _ 0 _ _ _ hc3.2.2) (by simp <;> omega) (by simp <;> omega) (by simp) (h1.fwd hB3) (h2.fwd hB3) hla hlb hca hcb
  have HC := Lib.hid (collectExt_in (n - 1) (by omega) swOwn (by unfold swOwn; decide) (by unfold swOwn; decide) 92 _ (enters_of Try.func92 (by kernel_rfl) rfl) (opSeq or a b) _ 1000000 (Nat.le_refl _) _ hstop opSeq_len)
  clear hstop hc3 h1 h2
  refine (callsIn_wide (n := n)).1 ?_
  refine callsIn_of_wp Try.func61 rfl trivial ?_ rfl
  simp only [Try.ntmps61, List.size_toArray, List.length_cons, List.length_nil, Nat.reduceAdd, Nat.reduceSub, Array.replicate_succ, Array.replicate_zero, List.push_toArray, List.append_toArray, List.nil_append, List.cons_append]
  gi_wp2_with fail
  refine ⟨trivial, fun _ => by omega, CallsIn.mono (callsIn_wide.2 (sweep_any A A' a.length c b.length c' 82 _)) ?_⟩
  rintro e w1 ⟨rfl, rfl⟩
  gi_wp2_with fail
  refine ⟨trivial, fun _ => by omega, CallsIn.mono HC.out ?_⟩
  rintro e w2 ⟨ys, Q, qc, k1, rfl, k2, k3, k4, k5⟩
  have hk : ys.length = (opL or a b).length := by
    have := congrArg List.length k1
    rwa [List.length_map] at this
  rw [k1] at k4
  rw [hk] at k2 ⊢
  have HK4 := Lib.hid k4
  clear k1 k4 hk
  gi_wp2
  go_ret
  exact ⟨Q, qc, rfl, k2, k3, HK4.out.more (fun g h => h.mono hB3.size (Nat.le_refl _)), ext_trans hB3 k5⟩
end Go.Proofs.Ytjehedfdikdfpaa
namespace Go.Proofs.Ytjehedfdikdfpaa
open Go.RowKit Go.Shelf
attribute [local go_sem] Oper.semAt_some

/-- the array of the nodes that differ: those of the levels below are not there yet -/
def FRow (F L : Nat) (v : Value) (wr : World) : Prop := ∃ cs : Array Value, wr.heap[F]? = some (.cells cs 115 (0, 0)) ∧ cs.size = 16 ∧ (∀ j, j < L → cs[j]? = some (.slice none 0 0)) ∧ cs[L]? = some v
theorem FRow.at_ {F L : Nat} {v : Value} {wr : World} (h : FRow F L v wr) : wr.cell? ⟨F, L, none⟩ = some v ∧ wr.frozen? ⟨F, L, none⟩ = false := by
  obtain ⟨cs, h1, h2, h3, h4⟩ := h
  exact ⟨(cell_of_row _ _ _ _ _ _ h1).trans h4, frozen_of_row _ _ _ _ _ h1⟩
theorem FRow.set {F L : Nat} {v u : Value} {wr : World} (h : FRow F L v wr) (hL : L < 16) : FRow F L u (wr.setCell ⟨F, L, none⟩ u) := by
  obtain ⟨cs, h1, h2, h3, h4⟩ := h
  refine ⟨_, heap_setCell_same _ _ _ _ _ _ h1, by simpa using h2, fun j hj => ?_, ?_⟩
  · rw [Array.getElem?_setIfInBounds_ne (by omega)]; exact h3 j hj
  · rw [Array.getElem?_setIfInBounds_self_of_lt (by omega)]
theorem FRow.blk {F L : Nat} {v : Value} {wr w' : World} (h : FRow F L v wr) (hb : w'.heap[F]? = wr.heap[F]?) : FRow F L v w' := by
  obtain ⟨cs, h1, h2⟩ := h
  exact ⟨cs, hb.trans h1, h2⟩
/-- the state of the walk over a level's visited nodes -/
def L2S (w : World) (F L : Nat) (W wr : World) (v : Value) (out : List Int) : Prop :=
  Below w.heap.size w wr ∧ (∀ g, g < W.heap.size → g ≠ F → wr.heap[g]? = W.heap[g]?) ∧ W.heap.size ≤ wr.heap.size ∧ FRow F L v wr ∧ Own encInt wr W.heap.size 3 (fun _ => False) v out
theorem L2S.drew {w : World} {F L : Nat} {W W2 W3 : World} {v : Value} {out : List Int} (h : L2S w F L W W2 v out) (hd : Drew W2 W3) : L2S w F L W W3 v out := by
  obtain ⟨h1, h2, h3, h4, h5⟩ := h
  have e := hd.heap
  refine ⟨h1.trans (hd.below _), fun g hg hne => by rw [e]; exact h2 g hg hne, by rw [e]; exact h3, h4.blk (by rw [e]), h5.blk (fun b _ => by rw [e])⟩
end Go.Proofs.Ytjehedfdikdfpaa
namespace Go.Proofs.Ytjehedfdikdfpaa
open Go.RowKit

/-- a row behind a copy to a place -/
def over {α : Type} (row : List α) (s : Nat) (d : List α) : List α := row.take s ++ d ++ row.drop (s + d.length)
theorem All2.drop {α β : Type} {R : α → β → Prop} : ∀ {l : List α} {m : List β} (k : Nat), All2 R l m → All2 R (l.drop k) (m.drop k)
  | [], [], k, _ => by simp [All2]
  | x :: l, y :: m, 0, h => h
  | x :: l, y :: m, k + 1, h => All2.drop k h.2
section
variable {P : Program} {w : World} {α : Type} {E : Enc α} {t e : TypeId} {bytes : Nat}
end
end Go.Proofs.Ytjehedfdikdfpaa
namespace Go.Proofs.Ytjehedfdikdfpaa
open Go.RowKit

end Go.Proofs.Ytjehedfdikdfpaa

namespace Go.Proofs.Ytjehedfdikdfpaa
open Go.RowKit Go.MapKept Go.ChangeMaps



def plV (p : Pl) : Value := .agg #[.int .i64 p.1, .int .i64 p.2]
def secVal (s : Sec) : Value := .agg (secV s).toArray
def entV (x : Pl × Sec) : Value × Value := (plV x.1, secVal x.2)
def kvOf (e : MapEntry) : Value × Value := (e.key, e.val)
def PMap (w : World) (b : Nat) (m : Eff) : Prop :=
  ∃ es clock, w.heap[b]? = some (.map es clock) ∧ Stamped es clock ∧ es.toList.map kvOf = m.map entV ∧ ∀ x ∈ m, OkSec x.2
theorem PMap.lt {w : World} {b : Nat} {m : Eff} (h : PMap w b m) : b < w.heap.size := by
  obtain ⟨es, clock, hb, _⟩ := h
  exact (Array.getElem?_eq_some_iff.1 hb).1
theorem PMap.kept {w w' : World} {b : Nat} {m : Eff} (h : PMap w b m) (hk : w'.heap[b]? = w.heap[b]?) : PMap w' b m := by
  obtain ⟨es, clock, hb, r⟩ := h
  exact ⟨es, clock, hk.trans hb, r⟩

theorem PMap.grown {w w' : World} {b : Nat} {m : Eff} {row : Option Nat} (h : PMap w b m) (hg : w.grownBy w' row) (hr : some b ≠ row) : PMap w' b m := h.kept (hg.block b h.lt hr)
theorem PMap.alloc {w : World} {b : Nat} {m : Eff} (h : PMap w b m) (o : Obj) : PMap (w.alloc o) b m := h.kept (Below.heap_alloc _ _ _ h.lt)
theorem PMap.setCell {w : World} {b : Nat} {m : Eff} (h : PMap w b m) (p : Addr) (u : Value) (hne : b ≠ p.block) : PMap (w.setCell p u) b m := h.kept (Below.heap_setCell _ _ _ _ hne)
theorem PMap.drewN {w : World} {b : Nat} {m : Eff} (h : PMap w b m) (n : Nat) : PMap (w.drewN n) b m := h.kept rfl
section
variable (w : World) {ops : Array Oper} {rest : List Oper} {o : Oper} {a : Act} {Q : Exit → Act → World → Prop}
end
/-- a range over a map under way: todo is what has not come yet -/
def PRange (w : World) (b r : Nat) (m todo : Eff) : Prop :=
  ∃ es clock since seen c0, w.heap[b]? = some (.map es clock) ∧ Stamped es clock ∧ es.toList.map kvOf = m.map entV ∧ (∀ x ∈ m, OkSec x.2) ∧ w.heap[r]? = some (.mapIter (some b) since seen c0) ∧ (∀ x ∈ es.toList, x.born < since) ∧ since ≤ c0 ∧ since ≤ clock ∧
    ((leftOf es seen).toList.map kvOf).Perm (todo.map entV)
theorem PRange.map {w : World} {b r : Nat} {m todo : Eff} (h : PRange w b r m todo) : PMap w b m := by
  obtain ⟨es, clock, since, seen, c0, h1, h2, h3, h4, _⟩ := h
  exact ⟨es, clock, h1, h2, h3, h4⟩
theorem PRange.lt {w : World} {b r : Nat} {m todo : Eff} (h : PRange w b r m todo) : r < w.heap.size := by
  obtain ⟨es, clock, since, seen, c0, _, _, _, _, hr, _⟩ := h
  exact (Array.getElem?_eq_some_iff.1 hr).1
theorem PRange.kept {w w' : World} {b r : Nat} {m todo : Eff} (h : PRange w b r m todo) (h1 : w'.heap[b]? = w.heap[b]?) (h2 : w'.heap[r]? = w.heap[r]?) : PRange w' b r m todo := by
  obtain ⟨es, clock, since, seen, c0, a1, a2, a3, a4, a5, r⟩ := h
  exact ⟨es, clock, since, seen, c0, h1.trans a1, a2, a3, a4, h2.trans a5, r⟩
theorem PRange.left {w : World} {b r : Nat} {m todo : Eff} (h : PRange w b r m todo) : w.rangeLeft b r = todo.length := by
  obtain ⟨es, clock, since, seen, c0, hb, _, _, _, hr, _, _, _, hp⟩ := h
  simp only [World.rangeLeft, hb, hr]
  have := hp.length_eq
  simpa using this
theorem perm_born : ∀ (L : List MapEntry) (e : MapEntry), (L.map (·.born)).Nodup → e ∈ L → L.Perm (e :: L.filter (fun x => x.born != e.born))
  | [], _, _, h => by simp at h
  | a :: L, e, hn, he => by
    simp only [List.map_cons, List.nodup_cons] at hn
    by_cases h : a.born = e.born
    · have hae : a = e := by
        rcases List.mem_cons.1 he with rfl | he
        · rfl
        · exact absurd (List.mem_map.2 ⟨e, he, h.symm⟩) hn.1
      subst hae
      have : L.filter (fun x => x.born != a.born) = L := List.filter_eq_self.2 (fun x hx => by
        simp only [bne_iff_ne]
        intro e
        exact hn.1 (List.mem_map.2 ⟨x, hx, e⟩))
      simp [this]
    · have he' : e ∈ L := by
        rcases List.mem_cons.1 he with rfl | he
        · exact absurd rfl h
        · exact he
      have hb : (a.born != e.born) = true := by simp [h]
      rw [List.filter_cons_of_pos (by simpa using h)]
      exact ((perm_born L e hn.2 he').cons a).trans (List.Perm.swap e a _)
theorem PRange.next {w : World} {b r : Nat} {m todo : Eff} (h : PRange w b r m todo) (ty : TypeId) :
    (todo = [] ∧ (Instr.next (.pointer (some ⟨r, 0, none⟩)) false ty).run Try.prog w = .ok (.tuple #[.bool false]) w) ∨
    ∃ x todo' w', todo.Perm (x :: todo') ∧ (Instr.next (.pointer (some ⟨r, 0, none⟩)) false ty).run Try.prog w = .ok (.tuple #[.bool true, plV x.1, secVal x.2]) w' ∧ PRange w' b r m todo' ∧ w.grownBy w' (some r) ∧ w'.heap.size = w.heap.size ∧
      (Instr.entry (.pointer (some ⟨r, 0, none⟩))).run Try.prog w' = .ok (.tuple #[plV x.1, secVal x.2]) w' := by
  obtain ⟨es, clock, since, seen, c0, hb, hst, he, hok, hr, hold, hsc, hsk, hp⟩ := h
  have hne : r ≠ b := by
    intro e
    rw [e, hb] at hr
    cases hr
  rcases run_next_at (P := Try.prog) w ty r b since c0 seen es clock hr hb hold hsc with ⟨h0, hrun⟩ | ⟨e, hem, w1, hal, hrun⟩
  · refine Or.inl ⟨?_, hrun⟩
    have := hp.length_eq
    simp [h0] at this
    exact List.eq_nil_of_length_eq_zero this.symm
  · right
    have hmem : kvOf e ∈ todo.map entV := hp.mem_iff.1 (List.mem_map_of_mem hem)
    obtain ⟨x, hx, hxe⟩ := List.mem_map.1 hmem
    have hperm : todo.Perm (x :: todo.erase x) := List.perm_cons_erase hx
    have hk : e.key = plV x.1 := (congrArg Prod.fst hxe).symm
    have hv : e.val = secVal x.2 := (congrArg Prod.snd hxe).symm
    have hr1 : w1.heap[r]? = some (.mapIter (some b) since seen c0) := by rcases hal with rfl | rfl <;> exact hr
    have hb1 : w1.heap[b]? = some (.map es clock) := by rcases hal with rfl | rfl <;> exact hb
    have hset := Go.MapKept.heap_set (o' := .mapIter (some b) since (seen.push e.born) clock) hr1
    have hb' : (setBlock w1 r (.mapIter (some b) since (seen.push e.born) clock)).heap[b]? = some (.map es clock) := (hset.2 b (fun e1 => hne e1.symm)).trans hb1
    obtain ⟨hem1, hes⟩ := mem_left hem
    refine ⟨x, todo.erase x, _, hperm, by rw [← hk, ← hv]; exact hrun, ⟨es, clock, since, seen.push e.born, clock, hb', hst, he, hok, hset.1, hold, hsk, hsk, ?_⟩, ?_, ?_, by rw [← hk, ← hv]; exact run_entry_at _ r b since seen es clock e hset.1 hb' hem1 hst.2.1⟩
    · have hl : (leftOf es (seen.push e.born)).toList = (leftOf es seen).toList.filter (fun y => y.born != e.born) := by
        simp only [leftOf, Array.toList_filter, List.filter_filter]
        congr 1
        funext y
        rw [contains_push]
        cases seen.contains y.born <;> cases hy : (y.born == e.born) <;> simp_all
      have hnd : ((leftOf es seen).toList.map (·.born)).Nodup := by
        simp only [leftOf, Array.toList_filter]
        exact (List.filter_sublist.map _).nodup hst.2.1
      have h1 := (perm_born _ e hnd hem).map kvOf
      rw [hl]
      have h2 := hp.symm.trans h1
      have h3 := (hperm.map entV).symm.trans h2
      simp only [List.map_cons, hxe] at h3
      exact ((List.perm_cons _).1 h3).symm
    · rcases hal with rfl | rfl <;> exact ⟨rfl, rfl, rfl, by simp [setBlock], fun i _ hi => hset.2 i (fun e1 => hi (by rw [e1]))⟩
    · rcases hal with rfl | rfl <;> simp [setBlock]
section
variable (w : World) {ops : Array Oper} {rest : List Oper} {o : Oper} {a : Act} {Q : Exit → Act → World → Prop}
end
end Go.Proofs.Ytjehedfdikdfpaa
namespace Go.Proofs.Ytjehedfdikdfpaa
open Go.RowKit

/-- a row of marks, whole -/
def BRow (w : World) (b : Nat) (m : List Bool) : Prop := w.heap[b]? = some (.cells (m.map Value.bool).toArray 4 (0, 0))
section
variable {w w' : World} {b k : Nat} {m : List Bool}
theorem BRow.lt (h : BRow w b m) : b < w.heap.size := (Array.getElem?_eq_some_iff.1 h).1
theorem BRow.cell (h : BRow w b m) (hk : k < m.length) : w.cell? ⟨b, k, none⟩ = some (.bool m[k]) := by
  rw [cell_of_row w b k _ _ _ h]
  simp [hk]
theorem BRow.frozen (h : BRow w b m) (k : Nat) : w.frozen? ⟨b, k, none⟩ = false := by
  unfold BRow at h; simp [World.frozen?, h]
theorem BRow.set (h : BRow w b m) (k : Nat) (q : Bool) : BRow (w.setCell ⟨b, k, none⟩ (.bool q)) b (m.set k q) := by
  unfold BRow at h ⊢
  simp [World.setCell, Array.getElem?_modify, h]
theorem BRow.blk (h : BRow w b m) (hk : w'.heap[b]? = w.heap[b]?) : BRow w' b m := by unfold BRow at h ⊢; rw [hk]; exact h
end
end Go.Proofs.Ytjehedfdikdfpaa
namespace Go.Proofs.Ytjehedfdikdfpaa
open Go.RowKit

def HoldRet (x : Wr) (V S : Int) (w : World) (e : Ending) (w' : World) : Prop :=
  ∃ k q, e = .returned (.tuple #[.int .i64 k, .bool q]) ∧ ((q = true ∧ hits x V S ∧ k = S - x.2.1) ∨ (q = false ∧ ¬ hits x V S)) ∧ Below w.heap.size w w'
theorem HoldRet.no {x : Wr} {V S k : Int} {w w' : World} (h : ¬ hits x V S) (hb : Below w.heap.size w w') : HoldRet x V S w (.returned (.tuple #[.int .i64 k, .bool false])) w' :=
  ⟨_, _, rfl, Or.inr ⟨rfl, h⟩, hb⟩

/-- a whole sector stored -/
def set8 (w : World) (b : Nat) (x0 x1 x2 x3 x4 x5 x6 x7 : Value) : World :=
  ((((((((w.setCell ⟨b, 0, none⟩ x0).setCell ⟨b, 1, none⟩ x1).setCell ⟨b, 2, none⟩ x2).setCell ⟨b, 3, none⟩ x3).setCell ⟨b, 4, none⟩ x4).setCell ⟨b, 5, none⟩ x5).setCell ⟨b, 6, none⟩ x6).setCell ⟨b, 7, none⟩ x7)
theorem set8_row {w : World} {b : Nat} {T : TypeId} {c0 c1 c2 c3 c4 c5 c6 c7 : Value} (h : w.heap[b]? = some (.cells #[c0, c1, c2, c3, c4, c5, c6, c7] T (0, 0))) (x0 x1 x2 x3 x4 x5 x6 x7 : Value) :
    (set8 w b x0 x1 x2 x3 x4 x5 x6 x7).heap[b]? = some (.cells #[x0, x1, x2, x3, x4, x5, x6, x7] T (0, 0)) := by
  simp [set8, World.setCell, Array.getElem?_modify, h]
theorem set8_below {B b : Nat} {a w : World} (h : Below B a w) (hB : B ≤ b) (x0 x1 x2 x3 x4 x5 x6 x7 : Value) : Below B a (set8 w b x0 x1 x2 x3 x4 x5 x6 x7) :=
  (((((((h.setCell (p := ⟨b, 0, none⟩) hB _).setCell (p := ⟨b, 1, none⟩) hB _).setCell (p := ⟨b, 2, none⟩) hB _).setCell (p := ⟨b, 3, none⟩) hB _).setCell (p := ⟨b, 4, none⟩) hB _).setCell (p := ⟨b, 5, none⟩) hB _).setCell (p := ⟨b, 6, none⟩) hB _).setCell (p := ⟨b, 7, none⟩) hB _
def zrow : Array Value := #[.int .u8 0, .int .u8 0, .int .u8 0, .int .u8 0, .int .u8 0, .int .u8 0, .int .u8 0, .int .u8 0]
end Go.Proofs.Ytjehedfdikdfpaa

namespace Go.Proofs.Ytjehedfdikdfpaa
open Go.RowKit

end Go.Proofs.Ytjehedfdikdfpaa
namespace Go.Proofs.Ytjehedfdikdfpaa
open Go.RowKit

end Go.Proofs.Ytjehedfdikdfpaa

namespace Go.Proofs.Ytjehedfdikdfpaa
open Go.RowKit

end Go.Proofs.Ytjehedfdikdfpaa

namespace Go.Proofs.Ytjehedfdikdfpaa
open Go.RowKit

def most : List Int := List.replicate 8 4096
end Go.Proofs.Ytjehedfdikdfpaa

namespace Go.Proofs.Ytjehedfdikdfpaa
open Go.RowKit

end Go.Proofs.Ytjehedfdikdfpaa
namespace Go.Proofs.Ytjehedfdikdfpaa
open Go.RowKit Go.ChangeMaps

end Go.Proofs.Ytjehedfdikdfpaa

namespace Go.Proofs.Ytjehedfdikdfpaa
open Go.RowKit Go.Shelf Go.Lib Go.Sort

end Go.Proofs.Ytjehedfdikdfpaa

namespace Go.Proofs.Ytjehedfdikdfpaa
open Go.RowKit Go.ChangeMaps

section
variable (w : World) {ops : Array Oper} {rest : List Oper} {o : Oper} {a : Act} {Q : Exit → Act → World → Prop}
end
theorem Own.made {α : Type} {E : Enc α} {w : World} {base : Nat} {e : TypeId} {S : Nat → Prop} {cur : Array Value} {cap : Nat} (hb : base ≤ w.heap.size) (hm : cap ≤ maxLen) (hs : cur.size = cap * E.size) (hS : ¬ S w.heap.size) :
    Own E (w.alloc (.cells cur e)) base e S (.slice (some ⟨w.heap.size, 0, none⟩) 0 cap) [] :=
  ⟨[], World.ownsRow_made w cur cap hb hm hs, trivial, fun g hg => by
    have : w.heap.size = g := by simpa [Value.ownBlock] using hg
    rw [← this]; exact hS⟩

end Go.Proofs.Ytjehedfdikdfpaa

namespace Go.Proofs.Ytjehedfdikdfpaa
open Go.RowKit Go.ChangeMaps

end Go.Proofs.Ytjehedfdikdfpaa

namespace Go.Proofs.Ytjehedfdikdfpaa
open Go.RowKit Go.ChangeMaps

theorem PRange.below {w w' : World} {b r : Nat} {M todo : Eff} (h : PRange w b r M todo) (hb : Below w.heap.size w w') : PRange w' b r M todo := h.kept (hb.block _ h.map.lt) (hb.block _ h.lt)
end Go.Proofs.Ytjehedfdikdfpaa
namespace Go.Proofs.Ytjehedfdikdfpaa
open Go.RowKit Go.ChangeShapes Go.WideShapes Go.ChangeAt

/-- what reads as data at type t reads by E -/
def Opens {α : Type} (P : Program) (t : TypeId) (E : Enc α) : Prop :=
  P.cellsOf t = E.size ∧ ∀ (H : Type) (enc : TypeId × Value → H) (w : World) (base : Nat) (spare : Nat → Bool) (held : Bool) (fuel : Nat) (cs : List Value) (x : DataW H × List MemPlace),
    DataW.trod enc P w base spare held fuel t cs = some x → ∃ y : α, E.rd w (Bl w.heap.size) cs y
section
variable {P : Program} {t e : TypeId} {α β : Type} {E : Enc α} {F : Enc β}
theorem opens_u8 (ht : P.underlying t = some (.int .u8)) (hc : P.cellsOf t = 1) : Opens P t encU8 := by
  refine ⟨hc, fun H enc w base spare held fuel cs x h => ?_⟩
  obtain ⟨n, rfl, _, hw⟩ := DataW.trod_int ht h
  exact ⟨n, rfl, by simp [Lit.wf, IntKind.min, IntKind.max, IntKind.signed, IntKind.bits] at hw; omega⟩
theorem opens_sec (ht : P.underlying t = some (.array 8 e)) (hc : P.cellsOf t = 8) (he : P.underlying e = some (.int .u8)) (hce : P.cellsOf e = 1) : Opens P t encSec := by
  refine ⟨hc, fun H enc w base spare held fuel cs x h => ?_⟩
  obtain ⟨xs, m, _, _, hl, hxl, hx⟩ := DataW.trod_array ht h
  rw [hc] at hl
  rw [hce] at hx
  have key : ∀ i, i < 8 → ∃ n : Int, cs[i]? = some (.int .u8 n) ∧ 0 ≤ n ∧ n < 256 := by
    intro i hi
    have h1 := hx i hi
    rw [Nat.mul_one, List.getElem?_eq_getElem (by omega)] at h1
    obtain ⟨n, hn, _, hw⟩ := DataW.trod_int he h1
    refine ⟨n, cell_of_cut hn, by simp [Lit.wf, IntKind.min, IntKind.max, IntKind.signed, IntKind.bits] at hw; omega⟩
  obtain ⟨x0, a0, b0⟩ := key 0 (by omega)
  obtain ⟨x1, a1, b1⟩ := key 1 (by omega)
  obtain ⟨x2, a2, b2⟩ := key 2 (by omega)
  obtain ⟨x3, a3, b3⟩ := key 3 (by omega)
  obtain ⟨x4, a4, b4⟩ := key 4 (by omega)
  obtain ⟨x5, a5, b5⟩ := key 5 (by omega)
  obtain ⟨x6, a6, b6⟩ := key 6 (by omega)
  obtain ⟨x7, a7, b7⟩ := key 7 (by omega)
  refine ⟨[x0, x1, x2, x3, x4, x5, x6, x7], ?_, rfl, ?_⟩
  · have h8 : ∀ l : List Value, l.length = 8 → ∃ c0 c1 c2 c3 c4 c5 c6 c7, l = [c0, c1, c2, c3, c4, c5, c6, c7] := fun l h => by
      match l, h with
      | [c0, c1, c2, c3, c4, c5, c6, c7], _ => exact ⟨_, _, _, _, _, _, _, _, rfl⟩
    obtain ⟨c0, c1, c2, c3, c4, c5, c6, c7, rfl⟩ := h8 cs hl
    simp at a0 a1 a2 a3 a4 a5 a6 a7
    simp [secV, a0, a1, a2, a3, a4, a5, a6, a7]
  · intro x hx
    simp at hx
    rcases hx with rfl | rfl | rfl | rfl | rfl | rfl | rfl | rfl <;> assumption
theorem opens_slice (ht : P.underlying t = some (.slice e)) (hc : P.cellsOf t = 1) (he : Opens P e E) (hp : 0 < E.size) : Opens P t (encSl E) := by
  refine ⟨hc, fun H enc w base spare held fuel cs x h => ?_⟩
  rcases DataW.trod_slice ht h with ⟨rfl, _⟩ | ⟨a, len, cap, elems, rest, n, rfl, rfl, _, _, hl, hm, hlen, hel, _⟩
  · exact ⟨[], none, 0, rfl, by simp, by simp, SlAt.nil_⟩
  · have key : ∀ i, i < len → ∃ (y : α) (cs' : List Value), (∀ j v, cs'[j]? = some v → w.cell? ((a.add (i * E.size)).add j) = some v) ∧ E.rd w (Bl w.heap.size) cs' y := by
      intro i hi
      have h1 := hel i hi
      rw [he.1, List.getElem?_eq_getElem (by omega)] at h1
      obtain ⟨cs', hc1, hc2⟩ := Option.bind_eq_some_iff.1 h1
      obtain ⟨_, hcl, hat⟩ := World.cells?_some hc1
      obtain ⟨y, hy⟩ := he.2 H enc w base spare held n _ _ hc2
      refine ⟨y, cs', fun j v hv => ?_, hy⟩
      have hj : j < cs'.length := (List.getElem?_eq_some_iff.1 hv).1
      exact (hat j (by omega)).trans hv
    have hlist : ∃ ys : List α, ys.length = len ∧ ∀ i y, ys[i]? = some y → ∃ cs' : List Value, (∀ j v, cs'[j]? = some v → w.cell? ((a.add (i * E.size)).add j) = some v) ∧ E.rd w (Bl w.heap.size) cs' y := by
      refine ⟨List.ofFn (fun i : Fin len => Classical.choose (key i.1 i.2)), by simp, fun i y hy => ?_⟩
      rw [List.getElem?_ofFn] at hy
      split at hy
      · rename_i hi
        injection hy with hy
        subst hy
        exact Classical.choose_spec (key i hi)
      · cases hy
    obtain ⟨ys, hyl, hys⟩ := hlist
    refine ⟨ys, some a, cap, by rw [hyl], by omega, hm, fun hne => ?_⟩
    have h0 : 0 < ys.length := List.length_pos_iff.2 hne
    obtain ⟨cs0, hc0, hr0⟩ := hys 0 ys[0] (List.getElem?_eq_getElem h0)
    have hl0 : 0 < cs0.length := by rw [E.len hr0]; exact hp
    have hcell := hc0 0 _ (List.getElem?_eq_getElem hl0)
    rw [Nat.zero_mul] at hcell
    have e0 : (a.add 0).add 0 = a := by simp [Addr.add]
    rw [e0] at hcell
    have hsp := World.cell?_spot hcell
    have hlt := World.block_lt_of_cell? w a hcell
    obtain ⟨b, off, spot⟩ := a
    simp only at hsp
    subst hsp
    refine ⟨b, off, rfl, hlt, fun i x hx => ?_⟩
    obtain ⟨cs', h1, h2⟩ := hys i x hx
    refine ⟨cs', fun j v hv => ?_, h2⟩
    have := h1 j v hv
    rw [add_plain, add_plain] at this
    exact this
end
section
variable {P : Program} {t e : TypeId} {α : Type} {E : Enc α} {H : Type} {enc : TypeId × Value → H} {W : World} {base b0 : Nat} {spare : Nat → Bool} {held : Bool} {r : Reach} {v : Value} {d : DataW H} {p : List MemPlace}
theorem arg_slice (ht : P.underlying t = some (.slice e)) (ho : Opens P t (encSl E)) (hv : Value.okWide P W r b0 t v) (h : DataW.Trod enc P W base spare held t v d p) :
    ∃ A c l, v = .slice A l.length c ∧ l.length ≤ c ∧ c ≤ maxLen ∧ SlAt E W (Bl W.heap.size) A l := by
  obtain ⟨A, n, c, rfl⟩ := okWide_slice ht hv
  obtain ⟨fuel, hf⟩ := h
  obtain ⟨l, A', c', he, h1, h2, h3⟩ := ho.2 _ _ _ _ _ _ _ _ _ hf
  simp [Value.cells] at he
  obtain ⟨rfl, rfl, rfl⟩ := he
  exact ⟨A, c, l, rfl, h1, h2, h3⟩
/-- arguments read behind the call as they read before -/
theorem trodAll_stays {W' : World} {sp : Nat → Bool} (hl : laidOutB P = true) (hb : Below W.heap.size W W') :
    ∀ {ts : List TypeId} {vs : List Value} {ds : List (DataW H)} {ps : List MemPlace}, (∀ t ∈ ts, P.readableRec t = true ∧ t < P.types.size) → (∀ x ∈ ps, x.block < W.heap.size ∧ sp x.block = true) →
      DataW.TrodAll enc P W 0 (fun _ => true) true ts vs ds ps → DataW.TrodAll enc P W' 0 sp true ts vs ds ps
  | [], _, _, _, _, _, h => by
    obtain ⟨rfl, rfl, rfl⟩ := trodAll_nil h
    exact trodAll_mk0
  | t :: _, _, _, _, hr, hx, h => by
    obtain ⟨v, vs, d, ds, p, q, rfl, rfl, rfl, h1, h2⟩ := trodAll_cons h
    refine trodAll_cons_mk (WideElems.Trod_stays hl (hr t (by simp)).1 (hr t (by simp)).2 h1 (fun x hxp => hb.same (hx x (by simp [hxp])).1) (fun x hxp => (hx x (by simp [hxp])).2)) ?_
    exact trodAll_stays hl hb (fun t ht => hr t (by simp [ht])) (fun x hxq => hx x (by simp [hxq])) h2
end
theorem trodAll_len {H : Type} {enc : TypeId × Value → H} {P : Program} {w : World} {base : Nat} {spare : Nat → Bool} {held : Bool} : ∀ {ts : List TypeId} {vs : List Value} {ds : List (DataW H)} {ps : List MemPlace}, DataW.TrodAll enc P w base spare held ts vs ds ps → ds.length = ts.length
  | [], _, _, _, h => by
    obtain ⟨rfl, rfl, _⟩ := trodAll_nil h
    rfl
  | _ :: _, _, _, _, h => by
    obtain ⟨v, vs1, d, ds1, a, b, rfl, rfl, rfl, _, h2⟩ := trodAll_cons h
    simp [trodAll_len h2]
/-- what a law's call does -/
def LawRet (w : World) (e : Ending) (w' : World) : Prop := e = .returned (.bool true) ∧ Below w.heap.size w w'
section
variable {H : Type} {enc : TypeId × Value → H} {P : Program}
theorem post_of_below {f : Func} {s : ChangeSpec} {apart fresh handsOn again : Bool} {W W' : World} {args : Array Value} {v : Value} {ds gs : List (DataW H)} {before pa pv : List MemPlace}
    (hW : DataW.Whole enc P f.params.toList s.vars apart W args.toList ds gs before)
    (hres : ∀ (b : Nat) (sp : Nat → Bool) (hd : Bool), DataW.TrodAll enc P W' b sp hd f.resultTypes.toList (v.resultList f.resultTypes.size) (s.fn H (ds ++ gs)).results [])
    (hargs : ∀ sp : Nat → Bool, (∀ p ∈ before, sp p.block = true) → DataW.TrodAll enc P W' 0 sp true f.params.toList args.toList (s.fn H (ds ++ gs)).args pa)
    (hvars : ∀ sp : Nat → Bool, (∀ p ∈ before, sp p.block = true) → DataW.TrodVars enc P W' sp s.vars (s.fn H (ds ++ gs)).vars pv)
    (hps : before = pa ++ pv) (hb : Below W.heap.size W W')
    (hok : ∀ (j : Nat) (t : TypeId) (r : Value), f.resultTypes[j]? = some t → (v.resultList f.resultTypes.size)[j]? = some r → Value.okWide P W' .any 0 t r) :
    s.post enc P f apart fresh handsOn again W args v W' := by
  have hlt : ∀ p ∈ before, p.block < W.heap.size := fun p hp => hW.lt p hp
  have hold : ∀ p ∈ before, (fun b => decide (b < W.heap.size)) p.block = true := fun p hp => by simpa using hlt p hp
  refine ⟨ds, gs, before, [], pa, pv, hW, hres _ _ _, hargs _ hold, hvars _ hold, World.keptBut_mono (fun p hp => ⟨hp, ?_⟩) (hb.frame (· ∈ before)), fun _ => ?_⟩
  · rw [hps, List.mem_append] at hp
    exact Or.inr hp
  · obtain ⟨_, _, _, _, _, hz, hn⟩ := hW
    refine ⟨hok, _, _, ([] ++ pa) ++ pv, ⟨[] ++ pa, pv, trodAll_append (hargs _ (fun _ _ => rfl)) (hres _ _ _), hvars _ (fun _ _ => rfl), rfl, ?_, ?_⟩, ?_⟩
    · intro b off hp
      have hin : MemPlace.cell b off ∈ before := by rw [hps]; simpa using hp
      rw [hb.frozen (hlt _ hin)]
      exact hz b off hin
    · intro ha
      have := hn ha
      rw [hps] at this
      simpa using this
    · intro p hp _
      rw [hps]
      simpa using hp
end
/-- THE STEP FROM A LAW'S CALL TO ITS ROW -/
theorem law_lifted {C : Checked} {f : FuncId} {fn : Func} {s : ChangeSpec} {conds : List PathCond} {apart fresh handsOn again : Bool} {tb : TypeId} {os : Os} {H : Type} {enc : TypeId × Value → H}
    (own : ownKnob C.prog.godebug = none) (started : os.Started) (noInit : C.prog.inits.idxOf? f = none) (hfn : C.prog.funcs[f]? = some fn) (hl : laidOutB C.prog = true)
    (hv : s.vars = []) (hspec : ∀ ds : List (DataW H), ds.length = fn.params.size → s.fn H ds = { results := [.lit (.bool true)], args := ds })
    (hread : ∀ t ∈ fn.params.toList, C.prog.readableRec t = true ∧ t < C.prog.types.size) (hrt : fn.resultTypes = #[tb]) (htb : C.prog.underlying tb = some .bool)
    (witness : ∃ (w : World) (tape : Tape) (i : Input), w.os = os ∧ (w.forCall tape i).Shaped C.prog ∧ i.vars = [] ∧ Input.okWide C.prog (w.forCall tape i) .any w.heap.size f i ∧
      s.pre6 enc C.prog fn conds apart (w.forCall tape i).memory i.args ∧ ({} : Assume).holds C.prog (lone (Frame.enter C.prog f i.args .normal) [] (w.forCall tape i)))
    (hcalls : ∀ (W : World) (args : Array Value) (ds : List (DataW H)) (p : List MemPlace) (base : Nat), (∀ (j : Nat) t v, fn.params[j]? = some t → args[j]? = some v → Value.okWide C.prog W .any base t v) →
      DataW.TrodAll enc C.prog W 0 (fun _ => true) true fn.params.toList args.toList ds p → Calls C.prog f args W (LawRet W)) :
    ReturnsInHanded {} C os f .any (s.pre6 enc C.prog fn conds apart) (s.post enc C.prog fn apart fresh handsOn again) := by
  refine returnsInHanded_of_change (C := C) own started noInit hfn witness ?_
  intro W base args ds gs before hval hW _ _
  have hW' := hW
  obtain ⟨p, q, hA, hV, rfl, hfz, hnd⟩ := hW
  rw [hv] at hV
  obtain ⟨rfl, rfl⟩ := trodVars_none hV
  have hlen : ds.length = fn.params.size := by have := trodAll_len hA; simpa using this
  refine (hcalls W args ds p base hval hA).mono fun e W' ⟨he, hb⟩ => ?_
  subst he
  refine ⟨_, rfl, post_of_below (pa := p) (pv := []) hW' (fun _ _ _ => ?_) (fun sp hsp => ?_) (fun _ _ => ?_) rfl hb ?_⟩
  · rw [List.append_nil, hspec ds hlen, hrt]
    exact trodAll_mk1 (shut_bool htb _)
  · rw [List.append_nil, hspec ds hlen]
    refine trodAll_stays hl hb hread (fun x hx => ⟨?_, hsp x (by simp [hx])⟩) hA
    exact hW'.lt x (by simp [hx])
  · rw [List.append_nil, hspec ds hlen, hv]
    exact rfl
  · exact ok_one hrt rfl (okWide_bool_mk htb _)
end Go.Proofs.Ytjehedfdikdfpaa

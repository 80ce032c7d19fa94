/-
  Arguments that read as data read as plain data (Enc), type by type; the last step of a law's proof. No program in sight.; The walks of Sectors and Same.; The walks of the laws CoalesceFolds and CoalesceMerges.; Images that a call owns: Clone of a row, copied.; Plain words: snapshots of an image. No program in sight.; slices.Backward over writes, and Lookup.; A range over an iterator whose body ranges over another one: its contract assumes more of the caller's word (it abides the turn of whatever is no cells and was laid behind), and the law of the statement. slices.Backward over snapshots.; Deleting one element of an owned slice: the elements behind it moved down, the last one cleared. No program in sight.; The law's write: a list of one write.; Owned lists of sectors: stores; append of all elements at a step of a region that draws its order. No program in sight.; The reference's Found: the walk.; Plain words: the walk by levels finds what the walk below nodes finds. No program in sight.; Plain words: neighbouring extents join. No program in sight.; Plain words: walks and messages, what an answer leads to. No program in sight.; Plain words: the answer to any message.; The walk's object: nodes, finish: the walks.; The request of a walk: the walk.; How walks and messages lie in memory, and what functions return that make them.
-/
import Derived.OpenShut
import Derived.Carry
import Derived.ProofKit
import Derived.ChangeSame
import GoSem.Claim
import GoSem.ClaimJoined
import GoSem.ClaimMapViews
import Derived.JoinedTies
import Derived.KernelRfl
import Derived.Laws.MakeOwn
import Derived.RegionTactic
import Derived.BigRegion
import Derived.Deep.RegionLaw
import Derived.BigQuiet
import Derived.Lib.AppendZerosOnto
import Derived.Laws.IdiomCopy
import Derived.Lib.SliceRun
import Derived.Deep.DeepCutAuto
import Derived.Test.YtjehedfdikdfpaaZ01
import Derived.Test.YtjehedfdikdfpaaZ02
import Derived.Test.YtjehedfdikdfpaaZ03
import Derived.Test.YtjehedfdikdfpaaZ04
import Derived.Test.YtjehedfdikdfpaaZ05
set_option linter.unusedVariables false
set_option linter.unusedSimpArgs false
set_option linter.unusedSectionVars false
set_option linter.unnecessarySimpa false
namespace Go.Proofs.Ytjehedfdikdfpaa
open Go.RowKit Go.ChangeShapes Go.WideShapes Go.ChangeAt

/-- what reads as data at type t reads by E -/
def Opens {α : Type} (P : Program) (t : TypeId) (E : Enc α) : Prop :=
  P.cellsOf t = E.size ∧ ∀ (H : Type) (enc : TypeId × Value → H) (w : World) (base : Nat) (spare : Nat → Bool) (held : Bool) (fuel : Nat) (cs : List Value) (x : DataW H × List MemPlace),
    DataW.trod enc P w base spare held fuel t cs = some x → ∃ y : α, E.rd w (Bl w.heap.size) cs y
section
variable {P : Program} {t e : TypeId} {α β : Type} {E : Enc α} {F : Enc β}
theorem opens_int (ht : P.underlying t = some (.int .i64)) (hc : P.cellsOf t = 1) : Opens P t encInt := by
  refine ⟨hc, fun H enc w base spare held fuel cs x h => ?_⟩
  obtain ⟨n, rfl, _, hw⟩ := DataW.trod_int ht h
  exact ⟨n, rfl, by simp [Lit.wf, IntKind.min, IntKind.max, IntKind.signed, IntKind.bits] at hw; unfold I64; omega⟩
theorem opens_u8 (ht : P.underlying t = some (.int .u8)) (hc : P.cellsOf t = 1) : Opens P t encU8 := by
  refine ⟨hc, fun H enc w base spare held fuel cs x h => ?_⟩
  obtain ⟨n, rfl, _, hw⟩ := DataW.trod_int ht h
  exact ⟨n, rfl, by simp [Lit.wf, IntKind.min, IntKind.max, IntKind.signed, IntKind.bits] at hw; omega⟩
theorem opens_u64 (ht : P.underlying t = some (.int .u64)) (hc : P.cellsOf t = 1) : Opens P t encU64 := by
  refine ⟨hc, fun H enc w base spare held fuel cs x h => ?_⟩
  obtain ⟨n, rfl, _, hw⟩ := DataW.trod_int ht h
  exact ⟨n, rfl, by simp [Lit.wf, IntKind.min, IntKind.max, IntKind.signed, IntKind.bits] at hw; omega⟩
theorem opens_bool (ht : P.underlying t = some .bool) (hc : P.cellsOf t = 1) : Opens P t encBool := by
  refine ⟨hc, fun H enc w base spare held fuel cs x h => ?_⟩
  obtain ⟨b, rfl, _⟩ := DataW.trod_bool ht h
  exact ⟨b, rfl⟩
theorem opens_sec (ht : P.underlying t = some (.array 8 e)) (hc : P.cellsOf t = 8) (he : P.underlying e = some (.int .u8)) (hce : P.cellsOf e = 1) : Opens P t encSec := by
  refine ⟨hc, fun H enc w base spare held fuel cs x h => ?_⟩
  obtain ⟨xs, m, _, _, hl, hxl, hx⟩ := DataW.trod_array ht h
  rw [hc] at hl
  rw [hce] at hx
  have key : ∀ i, i < 8 → ∃ n : Int, cs[i]? = some (.int .u8 n) ∧ 0 ≤ n ∧ n < 256 := by
    intro i hi
    have h1 := hx i hi
    rw [Nat.mul_one, List.getElem?_eq_getElem (by omega)] at h1
    obtain ⟨n, hn, _, hw⟩ := DataW.trod_int he h1
    refine ⟨n, cell_of_cut hn, by simp [Lit.wf, IntKind.min, IntKind.max, IntKind.signed, IntKind.bits] at hw; omega⟩
  obtain ⟨x0, a0, b0⟩ := key 0 (by omega)
  obtain ⟨x1, a1, b1⟩ := key 1 (by omega)
  obtain ⟨x2, a2, b2⟩ := key 2 (by omega)
  obtain ⟨x3, a3, b3⟩ := key 3 (by omega)
  obtain ⟨x4, a4, b4⟩ := key 4 (by omega)
  obtain ⟨x5, a5, b5⟩ := key 5 (by omega)
  obtain ⟨x6, a6, b6⟩ := key 6 (by omega)
  obtain ⟨x7, a7, b7⟩ := key 7 (by omega)
  refine ⟨[x0, x1, x2, x3, x4, x5, x6, x7], ?_, rfl, ?_⟩
  · have h8 : ∀ l : List Value, l.length = 8 → ∃ c0 c1 c2 c3 c4 c5 c6 c7, l = [c0, c1, c2, c3, c4, c5, c6, c7] := fun l h => by
      match l, h with
      | [c0, c1, c2, c3, c4, c5, c6, c7], _ => exact ⟨_, _, _, _, _, _, _, _, rfl⟩
    obtain ⟨c0, c1, c2, c3, c4, c5, c6, c7, rfl⟩ := h8 cs hl
    simp at a0 a1 a2 a3 a4 a5 a6 a7
    simp [secV, a0, a1, a2, a3, a4, a5, a6, a7]
  · intro x hx
    simp at hx
    rcases hx with rfl | rfl | rfl | rfl | rfl | rfl | rfl | rfl <;> assumption
/-- the fields of a struct from an offset on -/
def OpensF (P : Program) (fs : List Field) (off total : Nat) (E : Enc α) : Prop :=
  off + E.size = total ∧ ∀ (H : Type) (enc : TypeId × Value → H) (w : World) (base : Nat) (spare : Nat → Bool) (held : Bool) (cs : List Value), cs.length = total →
    (∀ f ∈ fs, ∃ (fuel : Nat) (x : DataW H × List MemPlace), DataW.trod enc P w base spare held fuel f.type ((cs.drop f.offset).take (P.cellsOf f.type)) = some x) → ∃ y : α, E.rd w (Bl w.heap.size) (cs.drop off) y
theorem opensF_one {f : Field} {off total : Nat} (ho : f.offset = off) (he : Opens P f.type E) (ht : off + E.size = total) : OpensF P [f] off total E := by
  refine ⟨ht, fun H enc w base spare held cs hl hf => ?_⟩
  obtain ⟨fuel, x, hx⟩ := hf f (by simp)
  obtain ⟨y, hy⟩ := he.2 H enc w base spare held fuel _ x hx
  rw [ho, he.1, List.take_of_length_le (by rw [List.length_drop]; omega)] at hy
  exact ⟨y, hy⟩
theorem opensF_cons {f : Field} {fs : List Field} {off total : Nat} (ho : f.offset = off) (he : Opens P f.type E) (hfs : OpensF P fs (off + E.size) total F) : OpensF P (f :: fs) off total (encPair E F) := by
  refine ⟨by have := hfs.1; simp only [encPair]; omega, fun H enc w base spare held cs hl hf => ?_⟩
  obtain ⟨fuel, x, hx⟩ := hf f (by simp)
  obtain ⟨y, hy⟩ := he.2 H enc w base spare held fuel _ x hx
  obtain ⟨z, hz⟩ := hfs.2 H enc w base spare held cs hl (fun g hg => hf g (by simp [hg]))
  rw [ho, he.1] at hy
  refine ⟨(y, z), _, _, ?_, hy, hz⟩
  rw [← List.drop_drop, List.take_append_drop]
theorem opens_struct {fs : Array Field} (ht : P.underlying t = some (.struct fs)) (hf : OpensF P fs.toList 0 (P.cellsOf t) E) : Opens P t E := by
  refine ⟨by have := hf.1; omega, fun H enc w base spare held fuel cs x h => ?_⟩
  obtain ⟨xs, n, _, _, hl, hxl, hx⟩ := DataW.trod_struct ht h
  have := hf.2 H enc w base spare held cs hl (fun f hfm => by
    obtain ⟨i, hi, rfl⟩ := List.mem_iff_getElem.1 hfm
    have h1 := hx i fs[i] (by simp at hi; simp [hi])
    rw [List.getElem?_eq_getElem (by simp at hi; omega)] at h1
    exact ⟨n, _, by simpa using h1⟩)
  simpa using this
theorem opens_slice (ht : P.underlying t = some (.slice e)) (hc : P.cellsOf t = 1) (he : Opens P e E) (hp : 0 < E.size) : Opens P t (encSl E) := by
  refine ⟨hc, fun H enc w base spare held fuel cs x h => ?_⟩
  rcases DataW.trod_slice ht h with ⟨rfl, _⟩ | ⟨a, len, cap, elems, rest, n, rfl, rfl, _, _, hl, hm, hlen, hel, _⟩
  · exact ⟨[], none, 0, rfl, by simp, by simp, SlAt.nil_⟩
  · have key : ∀ i, i < len → ∃ (y : α) (cs' : List Value), (∀ j v, cs'[j]? = some v → w.cell? ((a.add (i * E.size)).add j) = some v) ∧ E.rd w (Bl w.heap.size) cs' y := by
      intro i hi
      have h1 := hel i hi
      rw [he.1, List.getElem?_eq_getElem (by omega)] at h1
      obtain ⟨cs', hc1, hc2⟩ := Option.bind_eq_some_iff.1 h1
      obtain ⟨_, hcl, hat⟩ := World.cells?_some hc1
      obtain ⟨y, hy⟩ := he.2 H enc w base spare held n _ _ hc2
      refine ⟨y, cs', fun j v hv => ?_, hy⟩
      have hj : j < cs'.length := (List.getElem?_eq_some_iff.1 hv).1
      exact (hat j (by omega)).trans hv
    have hlist : ∃ ys : List α, ys.length = len ∧ ∀ i y, ys[i]? = some y → ∃ cs' : List Value, (∀ j v, cs'[j]? = some v → w.cell? ((a.add (i * E.size)).add j) = some v) ∧ E.rd w (Bl w.heap.size) cs' y := by
      refine ⟨List.ofFn (fun i : Fin len => Classical.choose (key i.1 i.2)), by simp, fun i y hy => ?_⟩
      rw [List.getElem?_ofFn] at hy
      split at hy
      · rename_i hi
        injection hy with hy
        subst hy
        exact Classical.choose_spec (key i hi)
      · cases hy
    obtain ⟨ys, hyl, hys⟩ := hlist
    refine ⟨ys, some a, cap, by rw [hyl], by omega, hm, fun hne => ?_⟩
    have h0 : 0 < ys.length := List.length_pos_iff.2 hne
    obtain ⟨cs0, hc0, hr0⟩ := hys 0 ys[0] (List.getElem?_eq_getElem h0)
    have hl0 : 0 < cs0.length := by rw [E.len hr0]; exact hp
    have hcell := hc0 0 _ (List.getElem?_eq_getElem hl0)
    rw [Nat.zero_mul] at hcell
    have e0 : (a.add 0).add 0 = a := by simp [Addr.add]
    rw [e0] at hcell
    have hsp := World.cell?_spot hcell
    have hlt := World.block_lt_of_cell? w a hcell
    obtain ⟨b, off, spot⟩ := a
    simp only at hsp
    subst hsp
    refine ⟨b, off, rfl, hlt, fun i x hx => ?_⟩
    obtain ⟨cs', h1, h2⟩ := hys i x hx
    refine ⟨cs', fun j v hv => ?_, h2⟩
    have := h1 j v hv
    rw [add_plain, add_plain] at this
    exact this
end
section
variable {P : Program} {t e : TypeId} {α : Type} {E : Enc α} {H : Type} {enc : TypeId × Value → H} {W : World} {base b0 : Nat} {spare : Nat → Bool} {held : Bool} {r : Reach} {v : Value} {d : DataW H} {p : List MemPlace}
theorem arg_slice (ht : P.underlying t = some (.slice e)) (ho : Opens P t (encSl E)) (hv : Value.okWide P W r b0 t v) (h : DataW.Trod enc P W base spare held t v d p) :
    ∃ A c l, v = .slice A l.length c ∧ l.length ≤ c ∧ c ≤ maxLen ∧ SlAt E W (Bl W.heap.size) A l := by
  obtain ⟨A, n, c, rfl⟩ := okWide_slice ht hv
  obtain ⟨fuel, hf⟩ := h
  obtain ⟨l, A', c', he, h1, h2, h3⟩ := ho.2 _ _ _ _ _ _ _ _ _ hf
  simp [Value.cells] at he
  obtain ⟨rfl, rfl, rfl⟩ := he
  exact ⟨A, c, l, rfl, h1, h2, h3⟩
theorem arg_struct {fs : Array Field} (ht : P.underlying t = some (.struct fs)) (ho : Opens P t E) (hv : Value.okWide P W r b0 t v) (h : DataW.Trod enc P W base spare held t v d p) :
    ∃ cs y, v = .agg cs ∧ E.rd W (Bl W.heap.size) cs.toList y := by
  obtain ⟨cs, rfl, _⟩ := okWide_struct ht hv
  obtain ⟨fuel, hf⟩ := h
  obtain ⟨y, hy⟩ := ho.2 _ _ _ _ _ _ _ _ _ hf
  exact ⟨cs, y, rfl, hy⟩
theorem arg_int {k : IntKind} (ht : P.underlying t = some (.int k)) (hv : Value.okWide P W r b0 t v) (h : DataW.Trod enc P W base spare held t v d p) : ∃ n, v = .int k n ∧ (Lit.int k n).wf = true := by
  obtain ⟨n, rfl, _, _, hw⟩ := open_int ht hv h
  exact ⟨n, rfl, hw⟩
/-- arguments read behind the call as they read before -/
theorem trodAll_stays {W' : World} {sp : Nat → Bool} (hl : laidOutB P = true) (hb : Below W.heap.size W W') :
    ∀ {ts : List TypeId} {vs : List Value} {ds : List (DataW H)} {ps : List MemPlace}, (∀ t ∈ ts, P.readableRec t = true ∧ t < P.types.size) → (∀ x ∈ ps, x.block < W.heap.size ∧ sp x.block = true) →
      DataW.TrodAll enc P W 0 (fun _ => true) true ts vs ds ps → DataW.TrodAll enc P W' 0 sp true ts vs ds ps
  | [], _, _, _, _, _, h => by
    obtain ⟨rfl, rfl, rfl⟩ := trodAll_nil h
    exact trodAll_mk0
  | t :: _, _, _, _, hr, hx, h => by
    obtain ⟨v, vs, d, ds, p, q, rfl, rfl, rfl, h1, h2⟩ := trodAll_cons h
    refine trodAll_cons_mk (WideElems.Trod_stays hl (hr t (by simp)).1 (hr t (by simp)).2 h1 (fun x hxp => hb.same (hx x (by simp [hxp])).1) (fun x hxp => (hx x (by simp [hxp])).2)) ?_
    exact trodAll_stays hl hb (fun t ht => hr t (by simp [ht])) (fun x hxq => hx x (by simp [hxq])) h2
end
theorem trodAll_len {H : Type} {enc : TypeId × Value → H} {P : Program} {w : World} {base : Nat} {spare : Nat → Bool} {held : Bool} : ∀ {ts : List TypeId} {vs : List Value} {ds : List (DataW H)} {ps : List MemPlace}, DataW.TrodAll enc P w base spare held ts vs ds ps → ds.length = ts.length
  | [], _, _, _, h => by
    obtain ⟨rfl, rfl, _⟩ := trodAll_nil h
    rfl
  | _ :: _, _, _, _, h => by
    obtain ⟨v, vs1, d, ds1, a, b, rfl, rfl, rfl, _, h2⟩ := trodAll_cons h
    simp [trodAll_len h2]
/-- what a law's call does -/
def LawRet (w : World) (e : Ending) (w' : World) : Prop := e = .returned (.bool true) ∧ Below w.heap.size w w'
section
variable {H : Type} {enc : TypeId × Value → H} {P : Program}
theorem post_of_below {f : Func} {s : ChangeSpec} {apart fresh handsOn again : Bool} {W W' : World} {args : Array Value} {v : Value} {ds gs : List (DataW H)} {before pa pv : List MemPlace}
    (hW : DataW.Whole enc P f.params.toList s.vars apart W args.toList ds gs before)
    (hres : ∀ (b : Nat) (sp : Nat → Bool) (hd : Bool), DataW.TrodAll enc P W' b sp hd f.resultTypes.toList (v.resultList f.resultTypes.size) (s.fn H (ds ++ gs)).results [])
    (hargs : ∀ sp : Nat → Bool, (∀ p ∈ before, sp p.block = true) → DataW.TrodAll enc P W' 0 sp true f.params.toList args.toList (s.fn H (ds ++ gs)).args pa)
    (hvars : ∀ sp : Nat → Bool, (∀ p ∈ before, sp p.block = true) → DataW.TrodVars enc P W' sp s.vars (s.fn H (ds ++ gs)).vars pv)
    (hps : before = pa ++ pv) (hb : Below W.heap.size W W')
    (hok : ∀ (j : Nat) (t : TypeId) (r : Value), f.resultTypes[j]? = some t → (v.resultList f.resultTypes.size)[j]? = some r → Value.okWide P W' .any 0 t r) :
    s.post enc P f apart fresh handsOn again W args v W' := by
  have hlt : ∀ p ∈ before, p.block < W.heap.size := fun p hp => hW.lt p hp
  have hold : ∀ p ∈ before, (fun b => decide (b < W.heap.size)) p.block = true := fun p hp => by simpa using hlt p hp
  refine ⟨ds, gs, before, [], pa, pv, hW, hres _ _ _, hargs _ hold, hvars _ hold, World.keptBut_mono (fun p hp => ⟨hp, ?_⟩) (hb.frame (· ∈ before)), fun _ => ?_⟩
  · rw [hps, List.mem_append] at hp
    exact Or.inr hp
  · obtain ⟨_, _, _, _, _, hz, hn⟩ := hW
    refine ⟨hok, _, _, ([] ++ pa) ++ pv, ⟨[] ++ pa, pv, trodAll_append (hargs _ (fun _ _ => rfl)) (hres _ _ _), hvars _ (fun _ _ => rfl), rfl, ?_, ?_⟩, ?_⟩
    · intro b off hp
      have hin : MemPlace.cell b off ∈ before := by rw [hps]; simpa using hp
      rw [hb.frozen (hlt _ hin)]
      exact hz b off hin
    · intro ha
      have := hn ha
      rw [hps] at this
      simpa using this
    · intro p hp _
      rw [hps]
      simpa using hp
end
/-- THE STEP FROM A LAW'S CALL TO ITS ROW -/
theorem law_lifted {C : Checked} {f : FuncId} {fn : Func} {s : ChangeSpec} {conds : List PathCond} {apart fresh handsOn again : Bool} {tb : TypeId} {os : Os} {H : Type} {enc : TypeId × Value → H}
    (own : ownKnob C.prog.godebug = none) (started : os.Started) (noInit : C.prog.inits.idxOf? f = none) (hfn : C.prog.funcs[f]? = some fn) (hl : laidOutB C.prog = true)
    (hv : s.vars = []) (hspec : ∀ ds : List (DataW H), ds.length = fn.params.size → s.fn H ds = { results := [.lit (.bool true)], args := ds })
    (hread : ∀ t ∈ fn.params.toList, C.prog.readableRec t = true ∧ t < C.prog.types.size) (hrt : fn.resultTypes = #[tb]) (htb : C.prog.underlying tb = some .bool)
    (witness : ∃ (w : World) (tape : Tape) (i : Input), w.os = os ∧ (w.forCall tape i).Shaped C.prog ∧ i.vars = [] ∧ Input.okWide C.prog (w.forCall tape i) .any w.heap.size f i ∧
      s.pre6 enc C.prog fn conds apart (w.forCall tape i).memory i.args ∧ ({} : Assume).holds C.prog (lone (Frame.enter C.prog f i.args .normal) [] (w.forCall tape i)))
    (hcalls : ∀ (W : World) (args : Array Value) (ds : List (DataW H)) (p : List MemPlace) (base : Nat), (∀ (j : Nat) t v, fn.params[j]? = some t → args[j]? = some v → Value.okWide C.prog W .any base t v) →
      DataW.TrodAll enc C.prog W 0 (fun _ => true) true fn.params.toList args.toList ds p → Calls C.prog f args W (LawRet W)) :
    ReturnsInHanded {} C os f .any (s.pre6 enc C.prog fn conds apart) (s.post enc C.prog fn apart fresh handsOn again) := by
  refine returnsInHanded_of_change (C := C) own started noInit hfn witness ?_
  intro W base args ds gs before hval hW _ _
  have hW' := hW
  obtain ⟨p, q, hA, hV, rfl, hfz, hnd⟩ := hW
  rw [hv] at hV
  obtain ⟨rfl, rfl⟩ := trodVars_none hV
  have hlen : ds.length = fn.params.size := by have := trodAll_len hA; simpa using this
  refine (hcalls W args ds p base hval hA).mono fun e W' ⟨he, hb⟩ => ?_
  subst he
  refine ⟨_, rfl, post_of_below (pa := p) (pv := []) hW' (fun _ _ _ => ?_) (fun sp hsp => ?_) (fun _ _ => ?_) rfl hb ?_⟩
  · rw [List.append_nil, hspec ds hlen, hrt]
    exact trodAll_mk1 (shut_bool htb _)
  · rw [List.append_nil, hspec ds hlen]
    refine trodAll_stays hl hb hread (fun x hx => ⟨?_, hsp x (by simp [hx])⟩) hA
    exact hW'.lt x (by simp [hx])
  · rw [List.append_nil, hspec ds hlen, hv]
    exact rfl
  · exact ok_one hrt rfl (okWide_bool_mk htb _)
end Go.Proofs.Ytjehedfdikdfpaa
namespace Go.Proofs.Ytjehedfdikdfpaa
open Go.RowKit Go.ChangeMaps

end Go.Proofs.Ytjehedfdikdfpaa

namespace Go.Proofs.Ytjehedfdikdfpaa
open Go.RowKit Go.ChangeMaps

end Go.Proofs.Ytjehedfdikdfpaa

namespace Go.Proofs.Ytjehedfdikdfpaa
open Go.RowKit Go.ChangeMaps

end Go.Proofs.Ytjehedfdikdfpaa

namespace Go.Proofs.Ytjehedfdikdfpaa
open Go.RowKit Go.ChangeMaps

end Go.Proofs.Ytjehedfdikdfpaa

namespace Go.Proofs.Ytjehedfdikdfpaa
open Go.RowKit Go.ChangeMaps

end Go.Proofs.Ytjehedfdikdfpaa

namespace Go.Proofs.Ytjehedfdikdfpaa
open Go.RowKit Go.ChangeMaps

end Go.Proofs.Ytjehedfdikdfpaa

namespace Go.Proofs.Ytjehedfdikdfpaa
open Go.RowKit Go.ChangeMaps

/-- a write laid in a slot: its reading -/
structure WrOk (v s : Int) (D : Option Addr) (n c : Nat) (w : World) (d : List Sec) : Prop where
  rd : encWr.rd w (Bl w.heap.size) [.int .i64 v, .int .i64 s, .slice D n c] (v, s, d)
theorem WrOk.fwd {v s : Int} {D : Option Addr} {n c : Nat} {w w' : World} {d : List Sec} (h : WrOk v s D n c w d) (hb : Below w.heap.size w w') : WrOk v s D n c w' d := ⟨Enc.fwd h.rd hb⟩
theorem WrOk.len {v s : Int} {D : Option Addr} {n c : Nat} {w : World} {d : List Sec} (h : WrOk v s D n c w d) : d.length = n := by
  obtain ⟨D', c', he, _⟩ := wr_cs h.rd
  simp at he
  exact he.2.1.symm
section
variable {w : World} {T : TypeId} {v1 s1 v2 s2 v3 s3 : Int} {D1 D2 D3 : Option Addr} {n1 c1 n2 c2 n3 c3 : Nat} {d1 d2 d3 : List Sec}
end
end Go.Proofs.Ytjehedfdikdfpaa

namespace Go.Proofs.Ytjehedfdikdfpaa

end Go.Proofs.Ytjehedfdikdfpaa

namespace Go.Proofs.Ytjehedfdikdfpaa
open Go.RowKit Go.ChangeMaps

theorem RetSlN.bl {α : Type} {E : Enc α} {l : List α} {n : Int} {w : World} {e : Ending} {w' : World} (h : RetSlN E l n w e w') : ∃ A c, e = .returned (.tuple #[.slice A l.length c, .int .i64 n]) ∧ (l.length ≤ c ∧ c ≤ maxLen ∧ SlAt E w' (Bl w'.heap.size) A l) ∧ Below w.heap.size w w' := by
  obtain ⟨A, c, he, h1, h2, h3, h4⟩ := h
  exact ⟨A, c, he, ⟨h1, h2, h3.more (fun _ h => h.2)⟩, h4⟩
end Go.Proofs.Ytjehedfdikdfpaa
namespace Go.Proofs.Ytjehedfdikdfpaa
open Go.RowKit Go.ChangeMaps

end Go.Proofs.Ytjehedfdikdfpaa

namespace Go.Proofs.Ytjehedfdikdfpaa
open Go.RowKit Go.ChangeMaps

end Go.Proofs.Ytjehedfdikdfpaa

namespace Go.Proofs.Ytjehedfdikdfpaa
open Go.RowKit

theorem makeOf {t e : TypeId} {size bytes : Nat} (hT : SliceTy Try.prog t e size bytes) (n : Nat) (hn : n * bytes ≤ 281474976710656) (h63 : n ≤ 1000000000000) (w : World) : ∃ cur : Array Value, cur.size = n * size ∧ (Instr.makeSlice t (.int .i64 0) (.int .i64 n)).run Try.prog w = .ok (.slice (some ⟨w.heap.size, 0, none⟩) 0 n) (w.alloc (.cells cur e)) := by
  obtain ⟨i, z, hi, hz, hsz, hby, hzs⟩ := hT.info
  have hbi : ((i.bytes : Int)) * (n : Int) ≤ 281474976710656 := by
    have h : ((i.bytes * n : Nat) : Int) ≤ 281474976710656 := by rw [hby, Nat.mul_comm]; omega
    rwa [Int.natCast_mul] at h
  have hr := run_make (P := Try.prog) w t e i z hT.und hi hz .i64 .i64 0 n (by omega) (by omega) hbi (by omega)
  simp only [Int.toNat_natCast, Int.toNat_zero] at hr
  exact ⟨_, by rw [size_madeCells, hsz], hr⟩
end Go.Proofs.Ytjehedfdikdfpaa

namespace Go.Proofs.Ytjehedfdikdfpaa
open Go.RowKit

def lenI (v : List Sec) : Int := v.length
def lens (im : List (List Sec)) : List Int := im.map lenI
end Go.Proofs.Ytjehedfdikdfpaa

namespace Go.Proofs.Ytjehedfdikdfpaa
open Go.RowKit

end Go.Proofs.Ytjehedfdikdfpaa

namespace Go.Proofs.Ytjehedfdikdfpaa
open Go.RowKit

end Go.Proofs.Ytjehedfdikdfpaa
namespace Go.Proofs.Ytjehedfdikdfpaa
open Go.RowKit

/-- the slice of a row, as a datum: its block, its length, its capacity -/
def encBlk : Enc (Nat × Nat × Nat) where
  size := 1
  rd _ _ cs x := cs = [.slice (some ⟨x.1, 0, none⟩) x.2.1 x.2.2] ∧ x.2.1 ≤ x.2.2 ∧ x.2.2 ≤ maxLen
  len h := by rw [h.1]; rfl
  one h := by rw [h.1]; simp [Value.oneCell']
  keep h _ _ := h
def RowOf (w : World) (lo : Nat) (x : Nat × Nat × Nat) (row : List Sec) : Prop := Own encSec w lo 80 (fun _ => False) (.slice (some ⟨x.1, 0, none⟩) x.2.1 x.2.2) row
theorem RowOf.ty {w : World} {lo : Nat} {x : Nat × Nat × Nat} {row : List Sec} (h : RowOf w lo x row) : lo ≤ x.1 ∧ x.1 < w.heap.size ∧ x.2.1 = row.length ∧ row.length ≤ x.2.2 ∧ x.2.2 ≤ maxLen ∧ ∃ cs, w.heap[x.1]? = some (.cells cs 80 (0, 0)) := by
  obtain ⟨css, h1, _⟩ := h
  rcases h1.2 with ⟨he, _⟩ | ⟨g, cap, cur, he, hb, hh, hnc, hcm, _⟩
  · cases he
  · injection he with e1 e2 e3
    injection e1 with e1
    injection e1 with e1
    exact ⟨by omega, by rw [e1]; exact (Array.getElem?_eq_some_iff.1 hh).1, e2, by omega, by omega, cur, by rw [e1]; exact hh⟩
theorem RowOf.blk {w w' : World} {lo : Nat} {x : Nat × Nat × Nat} {row : List Sec} (h : RowOf w lo x row) (hk : w'.heap[x.1]? = w.heap[x.1]?) : RowOf w' lo x row :=
  Own.blk h (fun b hb => by
    rcases hb with hb | hb
    · exact hb.elim
    · have : x.1 = b := by simpa [Value.ownBlock] using hb
      rw [← this]; exact hk)
theorem RowOf.base {w : World} {lo lo' : Nat} {x : Nat × Nat × Nat} {row : List Sec} (h : RowOf w lo x row) (hl : lo' ≤ lo) : RowOf w lo' x row := by
  obtain ⟨css, ⟨h1, h2⟩, h3, h4⟩ := h
  refine ⟨css, ⟨h1, ?_⟩, h3, h4⟩
  rcases h2 with h2 | ⟨g, cap, cur, he, hb, r⟩
  · exact Or.inl h2
  · exact Or.inr ⟨g, cap, cur, he, Nat.le_trans hl hb, r⟩
theorem RowOf.rd {w : World} {lo : Nat} {x : Nat × Nat × Nat} {row : List Sec} (h : RowOf w lo x row) : SlAt encSec w (Nw lo w.heap.size) (some ⟨x.1, 0, none⟩) row := by
  obtain ⟨A', c', he, _, _, h3⟩ := Own.rd h (fun _ h => h.elim)
  simp only [List.cons.injEq, Value.slice.injEq, and_true] at he
  obtain ⟨rfl, _, _⟩ := he
  exact h3
/-- an image that a call owns -/
structure ImgOwn (w : World) (lo : Nat) (A : Option Addr) (c : Nat) (xs : List (Nat × Nat × Nat)) (im : List (List Sec)) : Prop where
  outer : Own encBlk w lo 69 (fun _ => False) (.slice A xs.length c) xs
  len : xs.length = im.length
  rows : ∀ (k : Nat) (h1 : k < xs.length) (h2 : k < im.length), RowOf w lo xs[k] im[k]
  apart : (xs.map (·.1)).Nodup
section
variable {w w' : World} {lo : Nat} {A : Option Addr} {c : Nat} {xs : List (Nat × Nat × Nat)} {im : List (List Sec)}
theorem ImgOwn.nil_ {cur : Array Value} {cap : Nat} (hb : lo ≤ w.heap.size) (hm : cap ≤ maxLen) (hs : cur.size = cap) : ImgOwn (w.alloc (.cells cur 69)) lo (some ⟨w.heap.size, 0, none⟩) cap [] [] :=
  ⟨Own.make0 hb hm (by simpa [encBlk] using hs) (fun h => h), rfl, fun _ h => by simp at h, List.nodup_nil⟩
theorem ImgOwn.below (h : ImgOwn w lo A c xs im) (hb : Below w.heap.size w w') : ImgOwn w' lo A c xs im :=
  ⟨Own.below h.outer hb (fun _ h => h.elim), h.len, fun k h1 h2 => (h.rows k h1 h2).blk (hb.block _ (h.rows k h1 h2).ty.2.1), h.apart⟩
theorem ImgOwn.reads (h : ImgOwn w lo A c xs im) : SlAt (encSl encSec) w (Nw lo w.heap.size) A im := fun hn => by
  obtain ⟨A', c', he, _, _, h3⟩ := Own.rd h.outer (fun _ h => h.elim)
  simp only [List.cons.injEq, Value.slice.injEq, and_true] at he
  obtain ⟨rfl, _, _⟩ := he
  have hx : xs ≠ [] := fun e => hn (List.eq_nil_of_length_eq_zero (by rw [← h.len, e]; rfl))
  obtain ⟨b, off, e, hb, hc⟩ := h3 hx
  refine ⟨b, off, e, hb, fun i row hi => ?_⟩
  have hi2 := (List.getElem?_eq_some_iff.1 hi).1
  have hi1 : i < xs.length := by rw [h.len]; exact hi2
  obtain ⟨cs, k1, rfl, k3, k4⟩ := hc i xs[i] (List.getElem?_eq_getElem hi1)
  have hr := h.rows i hi1 hi2
  have hrow : im[i] = row := (List.getElem?_eq_some_iff.1 hi).2
  rw [hrow] at hr
  refine ⟨_, k1, some ⟨xs[i].1, 0, none⟩, xs[i].2.2, ?_, hr.ty.2.2.2.1, k4, hr.rd⟩
  rw [hr.ty.2.2.1]
theorem ImgOwn.parts (h : ImgOwn w lo A c xs im) : im.length ≤ c ∧ c ≤ maxLen := by
  obtain ⟨A', c', he, h1, h2, _⟩ := Own.rd h.outer (fun _ h => h.elim)
  simp only [List.cons.injEq, Value.slice.injEq, and_true] at he
  obtain ⟨_, _, rfl⟩ := he
  rw [← h.len]
  exact ⟨h1, h2⟩
/-- behind a copy into one row -/
theorem ImgOwn.put {w1 : World} {k : Nat} {row : List Sec} (h : ImgOwn w lo A c xs im) (hk : k < xs.length) (hr : RowOf w1 lo xs[k] row) (hg : w.grownBy w1 (some xs[k].1)) : ImgOwn w1 lo A c xs (im.set k row) := by
  refine ⟨Own.blk h.outer (fun b hb => ?_), by simp [h.len], fun j h1 h2 => ?_, h.apart⟩
  · rcases hb with hb | hb
    · exact hb.elim
    · refine hg.block b (h.outer.lt b hb).2 (fun e => ?_)
      injection e with e
      obtain ⟨_, cs, fr, h1⟩ := h.outer.cellsOf b hb
      obtain ⟨cs', h2⟩ := (h.rows k hk (by rw [← h.len]; exact hk)).ty.2.2.2.2.2
      rw [← e, h1] at h2
      injection h2 with h2
      injection h2 with _ h2 _
      exact absurd h2 (by decide)
  · rw [List.getElem_set]
    split
    · rename_i e
      subst e
      exact hr
    · rename_i e
      have h2' : j < im.length := by simpa using h2
      refine (h.rows j h1 h2').blk (hg.block _ (h.rows j h1 h2').ty.2.1 (fun e' => e ?_))
      injection e' with e'
      have := (List.getElem_inj (i := k) (j := j) (h₀ := by simpa using hk) (h₁ := by simpa using h1) h.apart).1 (by simpa using e'.symm)
      exact this
end
end Go.Proofs.Ytjehedfdikdfpaa

namespace Go.Proofs.Ytjehedfdikdfpaa
open Go.RowKit

def ApplyRet (r : List (List Sec)) (en : Int) (w : World) (e : Ending) (w' : World) : Prop :=
  ∃ A c i, e = .returned (.tuple #[.slice A r.length c, .int .i64 i, .int .i64 en]) ∧ r.length ≤ c ∧ c ≤ maxLen ∧ SlAt (encSl encSec) w' (Nw w.heap.size w'.heap.size) A r ∧ Below w.heap.size w w'
theorem ApplyRet.no {en : Int} {w w' : World} {i : Int} (h : Below w.heap.size w w') : ApplyRet [] en w (.returned (.tuple #[.slice none 0 0, .int .i64 i, .int .i64 en])) w' := ⟨none, 0, i, rfl, by simp, by simp, SlAt.nil_, h⟩
end Go.Proofs.Ytjehedfdikdfpaa
namespace Go.Proofs.Ytjehedfdikdfpaa

abbrev Img := List (List Sec)
abbrev Snp := Int × Int × List Wr
end Go.Proofs.Ytjehedfdikdfpaa

namespace Go.Proofs.Ytjehedfdikdfpaa
open Go.RowKit

/-- an owned slice in new memory, whose elements' memory is new too, and none of it a variable -/
def OwnX {α : Type} (X : Nat → Prop) (E : Enc α) (w : World) (lo : Nat) (e : TypeId) (v : Value) (l : List α) : Prop :=
  Own E w lo e (fun g => Nw lo w.heap.size g ∧ ¬ X g ∧ v.ownBlock ≠ some g) v l ∧ ∀ g, v.ownBlock = some g → ¬ X g
section
variable {α : Type} {E : Enc α} {X X' : Nat → Prop} {w w' : World} {lo : Nat} {e : TypeId} {v v' : Value} {l : List α}
theorem OwnX.nil_ : OwnX X E w lo e (.slice none 0 0) [] := ⟨Own.nil_, fun g h => by simp [Value.ownBlock] at h⟩
theorem OwnX.lt (h : OwnX X E w lo e v l) : ∀ g, v.ownBlock = some g → lo ≤ g ∧ g < w.heap.size := h.1.lt
/-- the world has grown, and nothing but variables has turned -/
theorem OwnX.keep (h : OwnX X E w lo e v l) (hs : w.heap.size ≤ w'.heap.size) (hk : ∀ g, lo ≤ g → g < w.heap.size → ¬ X g → w'.heap[g]? = w.heap[g]?) : OwnX X E w' lo e v l :=
  ⟨(h.1.blk (fun g hg => by
      rcases hg with hg | hg
      · exact hk g hg.1.1 hg.1.2 hg.2.1
      · exact hk g (h.lt g hg).1 (h.lt g hg).2 (h.2 g hg))).more (fun g hg => ⟨hg.1.mono (Nat.le_refl _) hs, hg.2⟩) (fun g hg hS => hS.2.2 hg), h.2⟩
theorem OwnX.below (h : OwnX X E w lo e v l) (hb : Below w.heap.size w w') : OwnX X E w' lo e v l := h.keep hb.size (fun g _ hg _ => hb.block g hg)
theorem OwnX.alloc (h : OwnX X E w lo e v l) (o : Obj) : OwnX X E (w.alloc o) lo e v l := h.below (ext_alloc (Below.refl _ _))
theorem OwnX.set (h : OwnX X E w lo e v l) {p : Addr} (hp : X p.block) (u : Value) : OwnX X E (w.setCell p u) lo e v l :=
  h.keep (by simp [World.setCell]) (fun g _ _ hX => Below.heap_setCell _ _ _ _ (fun e => hX (by rw [e]; exact hp)))
/-- a reading of memory made since -/
theorem OwnX.since {β : Type} {F : Enc β} {A : Option Addr} {m : List β} {B : Nat} (h : SlAt F w (Nw B w.heap.size) A m) (hlo : lo ≤ B) (hX : ∀ g, X g → g < B) (hv : ∀ g, v.ownBlock = some g → g < B) : SlAt F w (fun g => Nw lo w.heap.size g ∧ ¬ X g ∧ v.ownBlock ≠ some g) A m :=
  h.more fun b hb => ⟨hb.mono hlo (Nat.le_refl _), fun hx => by have := hX b hx; have := hb.1; omega, fun e => by have := hv b e; have := hb.1; omega⟩
/-- behind an append -/
theorem OwnX.app {l' : List α} (h0 : OwnX X E w lo e v l) (h : Own E w' lo e (fun g => Nw lo w.heap.size g ∧ ¬ X g ∧ v.ownBlock ≠ some g) v' l') (hg : w.grownBy w' v.ownBlock) (hat : v'.ownBlock = v.ownBlock ∨ v'.ownBlock = some w.heap.size) (hX : ∀ g, X g → g < w.heap.size) : OwnX X E w' lo e v' l' := by
  refine ⟨h.more (fun b hb => ⟨hb.1.mono (Nat.le_refl _) hg.size, hb.2.1, fun e => ?_⟩) (fun g hg' hS => hS.2.2 hg'), fun g hg' hx => ?_⟩
  · rcases hat with hat | hat
    · exact hb.2.2 (by rw [← hat]; exact e)
    · rw [hat] at e; injection e with e; have := hb.1.2; omega
  · rcases hat with hat | hat
    · exact h0.2 g (by rw [← hat]; exact hg') hx
    · rw [hat] at hg'; injection hg' with hg'; have := hX g hx; omega
theorem OwnX.read (h : OwnX X E w lo e v l) : (encSl E).rd w (fun g => Nw lo w.heap.size g ∧ ¬ X g) [v] l :=
  h.1.reads (fun g hg => ⟨hg.1, hg.2.1⟩) (fun g hg => ⟨⟨(h.lt g hg).1, (h.lt g hg).2⟩, h.2 g hg⟩)
theorem OwnX.parts {A : Option Addr} {n c : Nat} (h : OwnX X E w lo e (.slice A n c) l) : n = l.length ∧ l.length ≤ c ∧ c ≤ maxLen ∧ SlAt E w (fun g => Nw lo w.heap.size g ∧ ¬ X g) A l := by
  obtain ⟨A', c', he, h1, h2, h3⟩ := h.read
  simp only [List.cons.injEq, Value.slice.injEq, and_true] at he
  obtain ⟨rfl, rfl, rfl⟩ := he
  exact ⟨rfl, h1, h2, h3⟩
theorem OwnX.low (h : OwnX X E w lo e v l) {lo' : Nat} (hl : lo' ≤ lo) : OwnX X E w lo' e v l := by
  obtain ⟨⟨css, ⟨h0, h1⟩, h2, h3⟩, h4⟩ := h
  refine ⟨Own.more (S := fun g => Nw lo w.heap.size g ∧ ¬ X g ∧ v.ownBlock ≠ some g) ⟨css, ⟨h0, ?_⟩, h2, h3⟩ (fun g hg => ⟨hg.1.mono hl (Nat.le_refl _), hg.2⟩) (fun g hg hS => hS.2.2 hg), h4⟩
  rcases h1 with h1 | ⟨g, cap, cur, e1, hg, r⟩
  · exact Or.inl h1
  · exact Or.inr ⟨g, cap, cur, e1, Nat.le_trans hl hg, r⟩
theorem OwnX.made {cur : Array Value} {cap : Nat} (hb : lo ≤ w.heap.size) (hm : cap ≤ maxLen) (hs : cur.size = cap * E.size) (hX : ∀ g, X g → g < w.heap.size) : OwnX X E (w.alloc (.cells cur e)) lo e (.slice (some ⟨w.heap.size, 0, none⟩) 0 cap) [] :=
  ⟨Own.make0 hb hm hs (fun h => h.2.2 rfl), fun g hg hx => by
    have : w.heap.size = g := by simpa [Value.ownBlock] using hg
    have := hX g hx; omega⟩
end
end Go.Proofs.Ytjehedfdikdfpaa

namespace Go.Proofs.Ytjehedfdikdfpaa
open Go.RowKit Go.Shelf
attribute [local go_sem] Oper.semAt_some

end Go.Proofs.Ytjehedfdikdfpaa

namespace Go.Proofs.Ytjehedfdikdfpaa
open Go.RowKit Go.Shelf
attribute [local go_sem] Oper.semAt_some

section
variable {w : World} {S : Nat → Prop} {A : Option Addr}
end
end Go.Proofs.Ytjehedfdikdfpaa

namespace Go.Proofs.Ytjehedfdikdfpaa
open Go.RowKit Go.Shelf
attribute [local go_sem] Oper.semAt_some

end Go.Proofs.Ytjehedfdikdfpaa
namespace Go.Proofs.Ytjehedfdikdfpaa
open Go.RowKit Go.Shelf
attribute [local go_sem] Oper.semAt_some

abbrev IdxN (n : Nat) := { k : Nat // k < n }
/-- where the elements of a slice of writes lie -/
def WrsAt (l : List Wr) (f : Nat → Option Addr × Nat) (A : Option Addr) (w : World) (B : Nat) : Prop :=
  ∀ k (hk : k < l.length), ∃ b off, A = some ⟨b, off, none⟩ ∧ b < B ∧ w.cell? ⟨b, off + k * 3, none⟩ = some (.int .i64 l[k].1) ∧ w.cell? ⟨b, off + k * 3 + 1, none⟩ = some (.int .i64 l[k].2.1) ∧ w.cell? ⟨b, off + k * 3 + 2, none⟩ = some (.slice (f k).1 l[k].2.2.length (f k).2)
theorem WrsAt.below {l : List Wr} {f : Nat → Option Addr × Nat} {A : Option Addr} {w w' : World} {B : Nat} (h : WrsAt l f A w B) (hb : Below B w w') : WrsAt l f A w' B := fun k hk => by
  obtain ⟨b, off, e, h0, h1, h2, h3⟩ := h k hk
  exact ⟨b, off, e, h0, (hb.cell (p := ⟨b, _, none⟩) h0).trans h1, (hb.cell (p := ⟨b, _, none⟩) h0).trans h2, (hb.cell (p := ⟨b, _, none⟩) h0).trans h3⟩
/-- the cells of a look-up -/
def LkI (V S : Int) (w W : World) : Prop :=
  W.heap[w.heap.size + 1 + 1]? = some (.cells zrow 80 (0, 0)) ∧ W.heap[w.heap.size + 1 + 1 + 1]? = some (.cells #[.bool false] 4 (0, 0)) ∧ W.heap[w.heap.size]? = some (.cells #[.int .i64 V] 3 (0, 0)) ∧ W.heap[w.heap.size + 1]? = some (.cells #[.int .i64 S] 3 (0, 0))
theorem LkI.below {V S : Int} {w W W' : World} (h : LkI V S w W) (hb : Below W.heap.size W W') : LkI V S w W' :=
  ⟨(hb.block _ (Array.getElem?_eq_some_iff.1 h.1).1).trans h.1, (hb.block _ (Array.getElem?_eq_some_iff.1 h.2.1).1).trans h.2.1, (hb.block _ (Array.getElem?_eq_some_iff.1 h.2.2.1).1).trans h.2.2.1, (hb.block _ (Array.getElem?_eq_some_iff.1 h.2.2.2).1).trans h.2.2.2⟩
def NoHits (l : List Wr) (V S : Int) (pre : List (IdxN l.length)) : Prop := ∀ k ∈ pre, ¬ hits (l[k.1]'k.2) V S
/-- what it leaves by a hit -/
def LkX (ws : List Wr) (V S : Int) (w : World) (c : Code) (pre : List (IdxN ws.length)) (W : World) : Prop :=
  c = .ret ∧ ∃ ini last, pre = ini ++ [last] ∧ NoHits ws V S ini ∧ hits (ws[last.1]'last.2) V S ∧ ∃ x0 x1 x2 x3 x4 x5 x6 x7, datum (ws[last.1]'last.2) S = [x0, x1, x2, x3, x4, x5, x6, x7] ∧ OkSec [x0, x1, x2, x3, x4, x5, x6, x7] ∧
    W.heap[w.heap.size + 1 + 1]? = some (.cells #[.int .u8 x0, .int .u8 x1, .int .u8 x2, .int .u8 x3, .int .u8 x4, .int .u8 x5, .int .u8 x6, .int .u8 x7] 80 (0, 0)) ∧ W.heap[w.heap.size + 1 + 1 + 1]? = some (.cells #[.bool true] 4 (0, 0))
theorem heap_ownT {W W' : World} {B : Nat} {row : Option Nat} (hg : W.grownBy W' row) (hr : ∀ r, row = some r → B ≤ r ∧ ∃ o : Obj, W.heap[r]? = some o ∧ (o.isCells = false ∨ ItObj (fun _ => False) o)) {k : Nat} {cs : Array Value} {T : TypeId} {fr : Nat × Nat} (h : W.heap[k]? = some (.cells cs T fr)) : W'.heap[k]? = some (.cells cs T fr) :=
  (hg.block k (Array.getElem?_eq_some_iff.1 h).1 (fun e => by
    obtain ⟨_, o, h1, h2⟩ := hr k e.symm
    rw [h] at h1; cases h1
    rcases h2 with h2 | (h2 | ⟨_, _, _, _, h2⟩)
    · cases h2
    · cases h2
    · exact h2)).trans h
theorem LkX.own {ws : List Wr} {V S : Int} {w : World} {B : Nat} (c : Code) : OwnT (fun _ => False) B (LkX ws V S w c) := fun s W W' row h hg hr => by
  obtain ⟨h1, ini, last, h2, h3, h4, x0, x1, x2, x3, x4, x5, x6, x7, h5, h6, h7, h8⟩ := h
  exact ⟨h1, ini, last, h2, h3, h4, x0, x1, x2, x3, x4, x5, x6, x7, h5, h6, heap_ownT hg hr h7, heap_ownT hg hr h8⟩
theorem set8_other {W : World} {b b' : Nat} (h : b' ≠ b) (x0 x1 x2 x3 x4 x5 x6 x7 : Value) : (set8 W b x0 x1 x2 x3 x4 x5 x6 x7).heap[b']? = W.heap[b']? := by
  unfold set8
  rw [Below.heap_setCell _ _ _ _ h, Below.heap_setCell _ _ _ _ h, Below.heap_setCell _ _ _ _ h, Below.heap_setCell _ _ _ _ h, Below.heap_setCell _ _ _ _ h, Below.heap_setCell _ _ _ _ h, Below.heap_setCell _ _ _ _ h, Below.heap_setCell _ _ _ _ h]
end Go.Proofs.Ytjehedfdikdfpaa
namespace Go.Proofs.Ytjehedfdikdfpaa
open Go.RowKit Go.Shelf
attribute [local go_sem] Oper.semAt_some
theorem OwnT.up {β : Type} {own : TypeId → Prop} {B B' : Nat} {J : β → World → Prop} (h : OwnT own B J) (hb : B ≤ B') : OwnT own B' J := fun s W W' row hs hg hr => h s W W' row hs hg (fun r e => ⟨Nat.le_trans hb (hr r e).1, (hr r e).2⟩)
section
variable {F : Fence} {n : Nat} {P : Program}
end
/-- where the elements of a slice of writes lie -/
def SnsAt (l : List Snp) (f : Nat → Option Addr × Nat) (A : Option Addr) (w : World) (B : Nat) : Prop :=
  ∀ k (hk : k < l.length), ∃ b off, A = some ⟨b, off, none⟩ ∧ b < B ∧ w.cell? ⟨b, off + k * 3, none⟩ = some (.int .i64 l[k].1) ∧ w.cell? ⟨b, off + k * 3 + 1, none⟩ = some (.int .i64 l[k].2.1) ∧ w.cell? ⟨b, off + k * 3 + 2, none⟩ = some (.slice (f k).1 l[k].2.2.length (f k).2)
theorem SnsAt.below {l : List Snp} {f : Nat → Option Addr × Nat} {A : Option Addr} {w w' : World} {B : Nat} (h : SnsAt l f A w B) (hb : Below B w w') : SnsAt l f A w' B := fun k hk => by
  obtain ⟨b, off, e, h0, h1, h2, h3⟩ := h k hk
  exact ⟨b, off, e, h0, (hb.cell (p := ⟨b, _, none⟩) h0).trans h1, (hb.cell (p := ⟨b, _, none⟩) h0).trans h2, (hb.cell (p := ⟨b, _, none⟩) h0).trans h3⟩
end Go.Proofs.Ytjehedfdikdfpaa

namespace Go.Proofs.Ytjehedfdikdfpaa
open Go.RowKit Go.Shelf
attribute [local go_sem] Oper.semAt_some

end Go.Proofs.Ytjehedfdikdfpaa

namespace Go.Proofs.Ytjehedfdikdfpaa
open Go.RowKit Go.Shelf
attribute [local go_sem] Oper.semAt_some

/-- blocks of cells -/
def CS (w : World) (S : Nat → Prop) (b : Nat) : Prop := S b ∧ ∃ cs T fr, w.heap[b]? = some (.cells cs T fr)
theorem CS.turn {w w' : World} {S : Nat → Prop} {row : Option Nat} {A : Option Addr} {im : Img} {B : Nat} (h : SlAt (encSl encSec) w (CS w S) A im) (hg : w.grownBy w' row) (hr : ∀ r, row = some r → B ≤ r ∧ ∃ o : Obj, w.heap[r]? = some o ∧ (o.isCells = false ∨ ItObj (fun _ => False) o)) : SlAt (encSl encSec) w' (CS w' S) A im := by
  have hk : ∀ b, CS w S b → w'.heap[b]? = w.heap[b]? := fun b ⟨_, cs, T, fr, hb⟩ => (heap_ownT hg hr hb).trans hb.symm
  exact (h.blk hk).more (fun b hb => ⟨hb.1, by
    obtain ⟨cs, T, fr, e⟩ := hb.2
    exact ⟨cs, T, fr, (hk b hb).trans e⟩⟩)
end Go.Proofs.Ytjehedfdikdfpaa

namespace Go.Proofs.Ytjehedfdikdfpaa
open Go.RowKit Go.Shelf
attribute [local go_sem] Oper.semAt_some

end Go.Proofs.Ytjehedfdikdfpaa
namespace Go.Proofs.Ytjehedfdikdfpaa
open Go.RowKit Go.Shelf

section
variable {P : Program}
end
theorem All2.erase {α β : Type} {R : α → β → Prop} : ∀ {xs : List α} {ys : List β} (i : Nat), All2 R xs ys → All2 R (xs.eraseIdx i) (ys.eraseIdx i)
  | [], [], _, h => h
  | a :: xs, b :: ys, 0, h => h.2
  | a :: xs, b :: ys, i + 1, h => ⟨h.1, All2.erase i h.2⟩
end Go.Proofs.Ytjehedfdikdfpaa

namespace Go.Proofs.Ytjehedfdikdfpaa
open Go.RowKit Go.Shelf
attribute [local go_sem] Oper.semAt_some

end Go.Proofs.Ytjehedfdikdfpaa

namespace Go.Proofs.Ytjehedfdikdfpaa
open Go.RowKit Go.Shelf
attribute [local go_sem] Oper.semAt_some

end Go.Proofs.Ytjehedfdikdfpaa
namespace Go.Proofs.Ytjehedfdikdfpaa
open Go.RowKit Go.Shelf
attribute [local go_sem] Oper.semAt_some

def sB (k : Int) : Sec := [k, 0, 0, 0, 0, 0, 0, 0]
end Go.Proofs.Ytjehedfdikdfpaa

namespace Go.Proofs.Ytjehedfdikdfpaa
open Go.RowKit Go.Shelf
attribute [local go_sem] Oper.semAt_some

end Go.Proofs.Ytjehedfdikdfpaa

namespace Go.Proofs.Ytjehedfdikdfpaa
open Go.RowKit Go.Shelf
attribute [local go_sem] Oper.semAt_some

end Go.Proofs.Ytjehedfdikdfpaa

namespace Go.Proofs.Ytjehedfdikdfpaa
open Go.RowKit Go.Shelf
attribute [local go_sem] Oper.semAt_some

end Go.Proofs.Ytjehedfdikdfpaa
namespace Go.Proofs.Ytjehedfdikdfpaa
open Go.RowKit Go.Shelf
attribute [local go_sem] Oper.semAt_some

/-- append of all elements of a slice, at a step of a region that draws its order -/
theorem step_appAll {P : Program} {w : World} {α : Type} {E : Enc α} {t e : TypeId} {bytes : Nat} {ops : Array Oper} {o : Oper} {a : Act} {Q : Exit → Act → World → Prop} {K : Act → World → Prop} {X : Prop} (hT : SliceTy P t e E.size bytes) (hgd : o.guard = none) (s x : Operand) (ho : o.op = .call { callee := .builtin .append, args := #[s, x], argTypes := #[t, t] })
    {base : Nat} {S : Nat → Prop} {v : Value} {l : List α} (hs : a.eval s = v) (hown : Own E w base e S v l) {ad : Option Addr} {c m : Nat} {news : List α} (hx : a.eval x = .slice ad m c)
    (hm : m = news.length) (hr : SlAt E w S ad news) (hS : ∀ b, S b → b < w.heap.size) (hbase : base ≤ w.heap.size)
    (h63 : l.length + m ≤ maxLen) (hbytes : (l.length + m) * bytes ≤ 140737488355328)
    (h : ∀ A c' w', Own E w' base e S (.slice A (l.length + m) c') (l ++ news) → w.grownBy w' v.ownBlock → ((Value.slice A (l.length + m) c').ownBlock = v.ownBlock ∨ (Value.slice A (l.length + m) c').ownBlock = some w.heap.size) → K (a.put o.dst (.slice A (l.length + m) c')) w') :
    if Region.wanted o (yielded ops a.tmps) = true then Oper.wp P o a w K Q else X := by
  have hw : Region.wanted o (yielded ops a.tmps) = true := by simp [Region.wanted, hgd]
  rw [if_pos hw]
  have hrun : ∃ A c' w', (Builtin.append_ #[t, t] o.type #[v, .slice ad m c]).run P w = .ok (.slice A (l.length + m) c') w' ∧ Own E w' base e S (.slice A (l.length + m) c') (l ++ news) ∧ w.grownBy w' v.ownBlock ∧
      ((Value.slice A (l.length + m) c').ownBlock = v.ownBlock ∨ (Value.slice A (l.length + m) c').ownBlock = some w.heap.size) := by
    by_cases hn : news = []
    · subst hn
      exact run_app (P := P) (c := c) hT o.type hown (news := []) (css := []) hm trivial (fun h => absurd rfl h) hS hbase h63 hbytes
    · obtain ⟨b, off, rfl, _⟩ := hr.some_ hn
      obtain ⟨css, h1, h2, h3, h4⟩ := hr.row
      exact run_app (P := P) (c := c) hT o.type hown (news := news) (css := css) hm h3 (fun _ => ⟨_, rfl, h4⟩) hS hbase h63 hbytes
  obtain ⟨A, c', w', hr, h2, h3, h4⟩ := hrun
  unfold Oper.wp execOp
  simp only [ho, resolve, invoke, builtin, Sem.run_bind, Sem.run_pure, Result.andThen_ok, List.map_toArray, List.map_cons, List.map_nil, hs, hx, hr]
  exact h A c' w' h2 h3 h4
end Go.Proofs.Ytjehedfdikdfpaa

namespace Go.Proofs.Ytjehedfdikdfpaa
open Go.RowKit Go.Shelf
attribute [local go_sem] Oper.semAt_some

abbrev WB := Int × Int × Nat × Nat × Nat
section
variable {w w' : World} {lo : Nat} {A : Option Addr} {c : Nat} {xs : List WB} {l : List Wr}
end
end Go.Proofs.Ytjehedfdikdfpaa
namespace Go.Proofs.Ytjehedfdikdfpaa
open Go.RowKit Go.Shelf
attribute [local go_sem] Oper.semAt_some

/-- the walk below a node -/
def dfs (a b : List (List Int)) : Nat → Nat → List Nat
  | 0, i => if decide (i < (a.getD 0 []).length) && df a b 0 i then [i] else []
  | k + 1, i => if decide (i < (a.getD (k + 1) []).length) && df a b (k + 1) i then dfs a b k (2 * i) ++ dfs a b k (2 * i + 1) else []
theorem Own.sl_ {w : World} {base : Nat} {e : TypeId} {A : Option Addr} {n c : Nat} {l : List Int} (h : Own encInt w base e (fun _ => False) (.slice A n c) l) : SlAt encInt w (Nw base w.heap.size) A l := by
  obtain ⟨A3, c3, he, _, _, h3⟩ := h.reads (S' := Nw base w.heap.size) (fun _ h => h.elim) (fun g hg => h.lt g hg)
  simp only [List.cons.injEq, Value.slice.injEq, and_true] at he
  obtain ⟨rfl, _, _⟩ := he
  exact h3
theorem All2_ints {w : World} {S : Nat → Prop} : ∀ {css : List (List Value)} {l : List Int}, All2 (encInt.rd w S) css l → ∀ w' S', All2 (encInt.rd w' S') css l
  | [], [], _, _, _ => trivial
  | [], _ :: _, h, _, _ => h.elim
  | _ :: _, [], h, _, _ => h.elim
  | cs :: css, x :: l, h, w', S' => ⟨h.1, All2_ints h.2 w' S'⟩
theorem Own.flatI {w : World} {base base' : Nat} {S : Nat → Prop} {e : TypeId} {v : Value} {l : List Int} (h : Own encInt w base e S v l) (hb : base' ≤ base) : Own encInt w base' e (fun _ => False) v l := by
  obtain ⟨css, ⟨h0, h1⟩, h2, _⟩ := h
  refine ⟨css, ⟨h0, ?_⟩, All2_ints h2 _ _, fun _ _ h => h⟩
  rcases h1 with h1 | ⟨g, cap, cur, e1, hg, r⟩
  · exact Or.inl h1
  · exact Or.inr ⟨g, cap, cur, e1, Nat.le_trans hb hg, r⟩
end Go.Proofs.Ytjehedfdikdfpaa
namespace Go.Proofs.Ytjehedfdikdfpaa

theorem dfs_out {a b : List (List Int)} {k i : Nat} (h : (a.getD k []).length ≤ i) : dfs a b k i = [] := by
  cases k with
  | zero => rw [dfs, decide_eq_false (by omega)]; rfl
  | succ k => rw [dfs, decide_eq_false (by omega)]; rfl
theorem dfs_step {a b : List (List Int)} {k i : Nat} (h : i < (a.getD (k + 1) []).length) : dfs a b (k + 1) i = if df a b (k + 1) i then dfs a b k (2 * i) ++ dfs a b k (2 * i + 1) else [] := by
  rw [dfs, decide_eq_true h, Bool.true_and]
theorem kids_dfs (a b : List (List Int)) (k : Nat) : ∀ p : List Nat, (kids (a.getD k []).length p).flatMap (dfs a b k) = p.flatMap fun i => dfs a b k (2 * i) ++ dfs a b k (2 * i + 1)
  | [] => rfl
  | x :: r => by
    have e : kids (a.getD k []).length (x :: r) = (if 2 * x + 1 < (a.getD k []).length then [2 * x, 2 * x + 1] else [2 * x]) ++ kids (a.getD k []).length r := rfl
    rw [e, List.flatMap_append, kids_dfs a b k r, List.flatMap_cons]
    congr 1
    by_cases h : 2 * x + 1 < (a.getD k []).length
    · rw [if_pos h]; simp
    · rw [if_neg h, dfs_out (i := 2 * x + 1) (by omega)]; simp
theorem filter_flatMap {α β : Type} (f : α → Bool) (g : α → List β) : ∀ l : List α, (l.filter f).flatMap g = l.flatMap fun i => if f i then g i else []
  | [] => rfl
  | x :: r => by
    rw [List.filter_cons, List.flatMap_cons, ← filter_flatMap f g r]
    by_cases h : f x = true
    · rw [if_pos h, if_pos h, List.flatMap_cons]
    · rw [if_neg h, if_neg h]; rfl
theorem flatMap_congr_ {α β : Type} {g h : α → List β} : ∀ {l : List α}, (∀ x ∈ l, g x = h x) → l.flatMap g = l.flatMap h
  | [], _ => rfl
  | x :: r, hh => by
    rw [List.flatMap_cons, List.flatMap_cons, hh x (by simp), flatMap_congr_ (fun y hy => hh y (by simp [hy]))]
theorem fnd_dfs (a b : List (List Int)) : ∀ (k : Nat) (v : List Nat), (∀ j, j < k → (a.getD (j + 1) []).length = ((a.getD j []).length + 1) / 2) → (∀ i ∈ v, i < (a.getD k []).length) → fnd a b k v = v.flatMap (dfs a b k)
  | 0, v, _, hv => by
    have e : fnd a b 0 v = (v.filter (df a b 0)).flatMap fun i => [i] := by rw [fnd]; simp
    rw [e, filter_flatMap]
    refine flatMap_congr_ fun i hi => ?_
    rw [dfs, decide_eq_true (hv i hi), Bool.true_and]
  | k + 1, v, hl, hv => by
    have hm := hl k (by omega)
    have hp : ∀ i ∈ v.filter (df a b (k + 1)), i < (a.getD (k + 1) []).length := fun i hi => hv i (List.mem_filter.1 hi).1
    rw [fnd, fnd_dfs a b k _ (fun j hj => hl j (by omega)) (kids_lt hm hp), kids_dfs, filter_flatMap]
    refine flatMap_congr_ fun i hi => ?_
    rw [dfs_step (hv i hi)]
end Go.Proofs.Ytjehedfdikdfpaa
namespace Go.Proofs.Ytjehedfdikdfpaa

theorem runs_more {P : Int → Bool} {a : Nat} {s c : Int} {pre : List Ext} (h0 : runsL (below P a) = pre ++ [(s, c)]) (hs : s + c = a) : ∀ q : Nat, a ≤ q → (∀ x : Nat, a ≤ x → x < q → P x = true) → runsL (below P q) = pre ++ [(s, c + ((q : Int) - a))]
  | 0, h, _ => by
    have : a = 0 := by omega
    subst this
    rw [h0]; simp
  | q + 1, h, hp => by
    by_cases ha : a = q + 1
    · subst ha; rw [h0]; congr 2; simp
    · have ih := runs_more h0 hs q (by omega) (fun x h1 h2 => hp x h1 (by omega))
      rw [below_succ, hp q (by omega) (by omega), if_pos rfl, runsL_snoc, ih, runStep_more (s := s) (c := c + ((q : Int) - a)) (by simp) (by omega)]
      simp
      omega
/-- one extent more: joined to the last one if they touch -/
def extStep (out : List Ext) (e : Ext) : List Ext :=
  match out.getLast? with
  | some (s, c) => if s + c = e.1 then out.dropLast ++ [(s, c + e.2)] else out ++ [e]
  | none => [e]
def extsL (es : List Ext) : List Ext := es.foldl extStep []
theorem extsL_snoc (es : List Ext) (e : Ext) : extsL (es ++ [e]) = extStep (extsL es) e := by simp [extsL]
theorem any_snoc (es : List Ext) (e : Ext) (x : Int) : (es ++ [e]).any (inExt x) = (es.any (inExt x) || inExt x e) := by simp
theorem exts_runs : ∀ es : List Ext, es.Pairwise (fun x y => x.1 + x.2 ≤ y.1) → (∀ e ∈ es, 0 ≤ e.1 ∧ 0 < e.2 ∧ e.1 + e.2 ≤ 4096) →
    (∀ q : Nat, q ≤ 4096 → (∀ e ∈ es, e.1 + e.2 ≤ q) → runsL (below (fun x => es.any (inExt x)) q) = extsL es) ∧ (∀ s c, (extsL es).getLast? = some (s, c) → ∃ e ∈ es, s + c = e.1 + e.2) := by
  refine snocRec ?_ ?_
  · intro _ _
    refine ⟨fun q _ _ => ?_, fun s c h => by simp [extsL] at h⟩
    rw [runs_off (a := 0) (by omega) (fun x _ _ => rfl)]; rfl
  · intro es e ih hp hr
    rw [List.pairwise_append] at hp
    obtain ⟨hp1, _, hp2⟩ := hp
    obtain ⟨ih1, ih2⟩ := ih hp1 (fun x hx => hr x (by simp [hx]))
    obtain ⟨e1, e2, e3⟩ := hr e (by simp)
    have hle : ∀ x ∈ es, x.1 + x.2 ≤ e.1 := fun x hx => hp2 x hx e (by simp)
    obtain ⟨a, ha⟩ : ∃ a : Nat, e.1 = a := ⟨e.1.toNat, by omega⟩
    obtain ⟨d, hd⟩ : ∃ d : Nat, e.2 = d := ⟨e.2.toNat, by omega⟩
    have hA : runsL (below (fun x => (es ++ [e]).any (inExt x)) a) = extsL es := by
      rw [below_congr _ (fun x => es.any (inExt x)) a (fun x hx => by
        rw [any_snoc]
        have : inExt (x : Int) e = false := by unfold inExt; rw [decide_eq_false_iff_not]; omega
        rw [this, Bool.or_false])]
      exact ih1 a (by omega) (fun x hx => by have := hle x hx; omega)
    have hon : ∀ x : Nat, a ≤ x → x < a + d → (es ++ [e]).any (inExt (x : Int)) = true := fun x h1 h2 => by
      rw [any_snoc]
      have : inExt (x : Int) e = true := by unfold inExt; rw [decide_eq_true_iff]; omega
      rw [this, Bool.or_true]
    have hoff : ∀ x : Nat, a + d ≤ x → (es ++ [e]).any (inExt (x : Int)) = false := fun x h1 => by
      rw [List.any_eq_false]
      intro y hy h
      unfold inExt at h
      rw [decide_eq_true_iff] at h
      rcases List.mem_append.1 hy with hy | hy
      · have := hle y hy; omega
      · have : y = e := by simpa using hy
        subst this; omega
    have hmain : runsL (below (fun x => (es ++ [e]).any (inExt x)) (a + d)) = extsL (es ++ [e]) := by
      rw [extsL_snoc]
      cases hl : (extsL es).getLast? with
      | none =>
        have hnil : extsL es = [] := List.getLast?_eq_none_iff.1 hl
        rw [runs_on (a := a) (out := []) (by omega) (by rw [hA, hnil]) (by simp) hon]
        simp only [extStep, hl]
        show [((a : Int), ((a + d : Nat) : Int) - a)] = [e]
        congr 1
        exact Prod.ext (by simp [ha]) (by simp; omega)
      | some p =>
        obtain ⟨s, c⟩ := p
        obtain ⟨y, hy, hsc⟩ := ih2 s c hl
        have hya := hle y hy
        by_cases ht : s + c = e.1
        · have hpre : extsL es = (extsL es).dropLast ++ [(s, c)] := by
            have hne : extsL es ≠ [] := by intro h; rw [h] at hl; simp at hl
            rw [List.getLast?_eq_some_getLast hne, Option.some.injEq] at hl
            rw [← hl, List.dropLast_concat_getLast hne]
          rw [runs_more (a := a) (s := s) (c := c) (pre := (extsL es).dropLast) (by rw [hA]; exact hpre) (by omega) (a + d) (by omega) hon]
          simp only [extStep, hl, if_pos ht]
          congr 3; omega
        · rw [runs_on (a := a) (out := extsL es) (by omega) hA (fun s' c' h => by rw [hl] at h; cases h; omega) hon]
          simp only [extStep, hl, if_neg ht]
          congr 2
          exact Prod.ext (by simp [ha]) (by simp; omega)
    refine ⟨fun q hq hb => ?_, fun s c h => ?_⟩
    · have hqe := hb e (by simp)
      rw [runs_off (a := a + d) (by omega) (fun x h1 _ => hoff x h1), hmain]
    · refine ⟨e, by simp, ?_⟩
      rw [extsL_snoc] at h
      cases hl : (extsL es).getLast? with
      | none => simp only [extStep, hl] at h; simp at h; rw [h]
      | some p =>
        obtain ⟨s', c'⟩ := p
        simp only [extStep, hl] at h
        by_cases ht : s' + c' = e.1
        · rw [if_pos ht] at h; simp at h; omega
        · rw [if_neg ht] at h; simp at h; rw [h]
theorem opL_exts {es : List Ext} (hp : es.Pairwise (fun x y => x.1 + x.2 ≤ y.1)) (hr : ∀ e ∈ es, 0 ≤ e.1 ∧ 0 < e.2 ∧ e.1 + e.2 ≤ 4096) : opL or es [] = extsL es := by
  unfold opL
  rw [below_congr _ (fun x => es.any (inExt x)) 4096 (fun x _ => by rw [List.any_nil]; exact Bool.or_false _)]
  exact (exts_runs es hp hr).1 4096 (Nat.le_refl _) (fun e he => (hr e he).2.2)
theorem leaf_exts {n m : Nat} (hn : n ≤ 4096) (hm : 1 ≤ m) {is : List Nat} (hs : is.Pairwise (· < ·)) (hr : ∀ i ∈ is, i < leavesN n m) : (is.map (leafE n m)).Pairwise (fun x y => x.1 + x.2 ≤ y.1) ∧ ∀ e ∈ is.map (leafE n m), 0 ≤ e.1 ∧ 0 < e.2 ∧ e.1 + e.2 ≤ 4096 := by
  constructor
  · rw [List.pairwise_map]
    refine hs.imp (fun {i j} hij => ?_)
    have h1 : (i + 1) * m ≤ j * m := Nat.mul_le_mul_right _ hij
    rw [Nat.succ_mul] at h1
    simp only [leafE]
    omega
  · intro e he
    obtain ⟨i, hi, rfl⟩ := List.mem_map.1 he
    have h1 := leaf_lt hm (hr i hi)
    simp only [leafE]
    omega
end Go.Proofs.Ytjehedfdikdfpaa
namespace Go.Proofs.Ytjehedfdikdfpaa

def joinN (ns : List Nat) : List Ext := extsL (ns.map fun n : Nat => ((n : Int), (1 : Int)))
abbrev Wk := Tr × List Ext × Int × List Ext × Int × Bool
/-- kind, from, to, number, value, epoch, values, body -/
abbrev Msg := Int × Int × Int × Int × Int × Int × List Int × List Int
def zWk : Wk := (zTree, [], 0, [], 0, false)
def zMsg : Msg := (0, 0, 0, 0, 0, 0, [], [])
def reqV (t : Tr) (p : List Ext) : List Int := t.1 :: t.2.1 :: p.flatMap fun x => [x.1, x.2]
def levT (t : Tr) (k : Int) : List Int := t.2.2.getD k.toNat []
def begW (t : Tr) : Wk := if checkT t = 0 then (t, [(0, 1)], (t.2.2.length : Int) - 1, [], 0, false) else zWk
def wkE (w : Wk) : Int :=
  if checkT w.1 ≠ 0 then checkT w.1
  else if w.2.2.1 < 0 ∨ (w.1.2.2.length : Int) ≤ w.2.2.1 ∨ (w.2.2.2.2.2 = true ∧ w.2.2.1 ≠ 0) ∨ w.2.2.2.2.1 < 0 ∨ 8192 < w.2.2.2.2.1 then 2
  else if w.2.2.2.2.2 = true then (if w.2.1 = [] ∧ extE w.2.2.2.1 w.1.1 = 0 then 0 else 3)
  else (if w.2.1 ≠ [] ∧ w.2.2.2.1 = [] ∧ extE w.2.1 ((levT w.1 w.2.2.1).length : Int) = 0 then 0 else 3)
def learnE (w : Wk) (m : Msg) : Int :=
  if wkE w ≠ 0 then wkE w else if w.2.2.2.2.2 = true then 12 else if m.1 ≠ 14 then 1
  else if m.2.2.2.1 ≠ w.2.2.1 ∨ m.2.2.2.2.2.2.1 ≠ reqV w.1 w.2.1 then 22 else if m.2.2.2.2.2.2.2.length ≠ 8 * (numsL w.2.1).length then 3 else 0
def learnD (w : Wk) (m : Msg) : List Nat := dfr (levT w.1 w.2.2.1) m.2.2.2.2.2.2.2 (numsL w.2.1)
def learnW (w : Wk) (m : Msg) : Wk :=
  if learnE w m ≠ 0 then zWk
  else if w.2.2.1 = 0 then (w.1, [], 0, opL or ((learnD w m).map (leafE w.1.1.toNat w.1.2.1.toNat)) [], w.2.2.2.2.1 + (numsL w.2.1).length, true)
  else if learnD w m = [] then (w.1, [], 0, [], w.2.2.2.2.1 + (numsL w.2.1).length, true)
  else (w.1, joinN (kids (levT w.1 (w.2.2.1 - 1)).length (learnD w m)), w.2.2.1 - 1, [], w.2.2.2.2.1 + (numsL w.2.1).length, false)
end Go.Proofs.Ytjehedfdikdfpaa
namespace Go.Proofs.Ytjehedfdikdfpaa

/-- the extents that a request names -/
def pairsL (v : List Int) : List Ext := (List.range ((v.length - 2) / 2)).map fun i => (v.getD (2 + 2 * i) 0, v.getD (3 + 2 * i) 0)
def pairA (v : List Int) (i : Nat) : Ext := (v.getD (2 + 2 * i) 0, v.getD (3 + 2 * i) 0)
theorem pairsL_eq {v : List Int} {q : Nat} (h : v.length - 2 = 2 * q) : pairsL v = (List.range q).map (pairA v) := by
  unfold pairsL; rw [h, show 2 * q / 2 = q by omega]; rfl
def ansE (t : Tr) (m : Msg) : Int :=
  if checkT t ≠ 0 then checkT t else if m.1 ≠ 13 then 1
  else if m.2.2.2.2.2.2.1.length < 2 ∨ m.2.2.2.2.2.2.1.length % 2 = 1 then 3
  else if m.2.2.2.2.2.2.1.getD 0 0 ≠ t.1 ∨ m.2.2.2.2.2.2.1.getD 1 0 ≠ t.2.1 then 22
  else if m.2.2.2.1 < 0 ∨ (t.2.2.length : Int) ≤ m.2.2.2.1 then 2
  else if extE (pairsL m.2.2.2.2.2.2.1) ((levT t m.2.2.2.1).length : Int) ≠ 0 then 3 else 0
def bodyOf (lev : List Int) (ns : List Nat) : List Int := ns.flatMap fun n => le8 (lev.getD n 0)
theorem bodyOf_snoc (lev : List Int) (ns : List Nat) (x : Nat) : bodyOf lev (ns ++ [x]) = bodyOf lev ns ++ le8 (lev.getD x 0) := by unfold bodyOf; rw [List.flatMap_append]; simp
theorem bodyOf_len (lev : List Int) : ∀ ns : List Nat, (bodyOf lev ns).length = 8 * ns.length
  | [] => rfl
  | n :: ns => by
    have h := bodyOf_len lev ns
    unfold bodyOf at h ⊢
    rw [List.flatMap_cons, List.length_append, h, List.length_cons]
    have : (le8 (lev.getD n 0)).length = 8 := by simp [le8]
    omega
def ansV (t : Tr) (m : Msg) : Msg :=
  if ansE t m ≠ 0 then zMsg else (14, m.2.2.1, m.2.1, m.2.2.2.1, 0, 0, m.2.2.2.2.2.2.1, bodyOf (levT t m.2.2.2.1) (numsL (pairsL m.2.2.2.2.2.2.1)))
end Go.Proofs.Ytjehedfdikdfpaa
namespace Go.Proofs.Ytjehedfdikdfpaa
open Go.RowKit Go.Shelf
attribute [local go_sem] Oper.semAt_some

/-- the object of a walk in memory -/
def WkRow (W : World) (b : Nat) (s lf : Int) (A : Option Addr) (n c : Nat) (P : Option Addr) (pn pc : Nat) (lv : Int) (F : Option Addr) (fn fc : Nat) (sent : Int) (done : Bool) : Prop :=
  W.heap[b]? = some (.cells #[.int .i64 s, .int .i64 lf, .slice A n c, .slice P pn pc, .int .i64 lv, .slice F fn fc, .int .i64 sent, .bool done] 88 (0, 0))
section
variable {W : World} {b : Nat} {s lf : Int} {A : Option Addr} {n c : Nat} {P : Option Addr} {pn pc : Nat} {lv : Int} {F : Option Addr} {fn fc : Nat} {sent : Int} {done : Bool}
theorem WkRow.cells (h : WkRow W b s lf A n c P pn pc lv F fn fc sent done) : (W.cell? ⟨b, 0, none⟩ = some (.int .i64 s) ∧ W.cell? ⟨b, 1, none⟩ = some (.int .i64 lf) ∧ W.cell? ⟨b, 2, none⟩ = some (.slice A n c)) ∧ W.cell? ⟨b, 3, none⟩ = some (.slice P pn pc) ∧ W.cell? ⟨b, 4, none⟩ = some (.int .i64 lv) ∧ W.cell? ⟨b, 5, none⟩ = some (.slice F fn fc) ∧ W.cell? ⟨b, 6, none⟩ = some (.int .i64 sent) ∧ W.cell? ⟨b, 7, none⟩ = some (.bool done) :=
  ⟨⟨cell_of_row W _ 0 _ _ _ h, cell_of_row W _ 1 _ _ _ h, cell_of_row W _ 2 _ _ _ h⟩, cell_of_row W _ 3 _ _ _ h, cell_of_row W _ 4 _ _ _ h, cell_of_row W _ 5 _ _ _ h, cell_of_row W _ 6 _ _ _ h, cell_of_row W _ 7 _ _ _ h⟩
theorem WkRow.lt (h : WkRow W b s lf A n c P pn pc lv F fn fc sent done) : b < W.heap.size := (Array.getElem?_eq_some_iff.1 h).1
end
theorem WkRow.of_blk {W W' : World} {b : Nat} {s lf : Int} {A : Option Addr} {n c : Nat} {P : Option Addr} {pn pc : Nat} {lv : Int} {F : Option Addr} {fn fc : Nat} {sent : Int} {done : Bool} (h : WkRow W b s lf A n c P pn pc lv F fn fc sent done) (he : W'.heap[b]? = W.heap[b]?) : WkRow W' b s lf A n c P pn pc lv F fn fc sent done := he.trans h
theorem WkRow.setF {W : World} {b : Nat} {s lf : Int} {A : Option Addr} {n c : Nat} {P : Option Addr} {pn pc : Nat} {lv : Int} {F F' : Option Addr} {fn fc fn' fc' : Nat} {sent : Int} {done : Bool} (h : WkRow W b s lf A n c P pn pc lv F fn fc sent done) : WkRow (W.setCell ⟨b, 5, none⟩ (.slice F' fn' fc')) b s lf A n c P pn pc lv F' fn' fc' sent done := by
  unfold WkRow at h ⊢; simp [World.setCell, Array.getElem?_modify, h]
set_option maxHeartbeats 1000000 in
theorem nodes_any (b n c k : Nat) (s lf : Int) (A P F : Option Addr) (pn pc fn fc : Nat) (sent : Int) (done : Bool) (l : List (List Int)) (S : Nat → Prop) (w : World) (hn : l.length = n) (hk : k < l.length) (hl : n ≤ 100000)
    (hrow : WkRow w b s lf A n c P pn pc (k : Int) F fn fc sent done) (h1 : SlAt (encSl encU64) w S A l) :
    Calls Try.prog 76 #[.pointer (some ⟨b, 0, none⟩)] w fun e w' => ∃ D d, e = .returned (.slice D l[k].length d) ∧ l[k].length ≤ d ∧ d ≤ maxLen ∧ SlAt encU64 w S D l[k] ∧ Drew w w' := by
  subst hn
  obtain ⟨⟨_, _, c2⟩, _, c4, _⟩ := hrow.cells
  obtain ⟨b2, off, D, d, rfl, hb, g0, hD, hd1, hd2⟩ := h1.sl hk
  obtain ⟨lv, hlv⟩ : ∃ lv, l[k] = lv := ⟨_, rfl⟩
  rw [hlv] at g0 hD hd1 ⊢
  have HD := Lib.hid (And.intro hd1 (And.intro hd2 hD))
  have hki : (k : Int) < l.length := by omega
  have hnn : (0 : Int) ≤ k := by omega
  clear hlv hD hd1 hd2
  go_enter Try.func76, Try.ntmps76
  go_upto_region 1 with (fail)
  go_quiet (fail)
  go_wp2
  go_ret
  exact ⟨D, d, rfl, HD.out.1, HD.out.2.1, HD.out.2.2, Drew.step (Drew.refl _) _⟩
end Go.Proofs.Ytjehedfdikdfpaa
namespace Go.Proofs.Ytjehedfdikdfpaa
open Go.RowKit Go.Shelf
attribute [local go_sem] Oper.semAt_some

theorem litS44 {α : Type} {E : Enc α} {W : World} {S S0 : Nat → Prop} {g : Nat} {T : TypeId} {cs : Array Value} {css : List (List Value)} {l : List α} (hg : W.heap[g]? = some (.cells cs T (0, 0))) (hcs : cs = css.flatten.toArray) (hr : All2 (E.rd W S0) css l) (h0 : ∀ b, S0 b → S b) (h1 : S g) (hn : ¬ S0 g) : SlAt E W S (some ⟨g, 0, none⟩) l := by
  have hsz := All2.sizes hr
  have hlen : css.flatten.length = l.length * E.size := by rw [flatten_len E.size css hsz, hr.length]
  intro hne
  refine ⟨g, 0, rfl, h1, fun i x hx => ?_⟩
  obtain ⟨cs', hc, hr'⟩ := hr.get hx
  refine ⟨cs', fun j u hu => ?_, Enc.more hr' h0⟩
  have hj : j < cs'.length := (List.getElem?_eq_some_iff.1 hu).1
  have hf := flatten_at _ _ _ _ _ _ hsz hc hu
  rw [cell_of_row _ _ _ _ _ _ hg, hcs]
  simp only [List.getElem?_toArray]
  have e : 0 + i * E.size + j = i * E.size + j := by omega
  rw [e]
  exact hf
theorem blk8_set {w : World} {b : Nat} {T : TypeId} {c0 c1 c2 c3 c4 c5 c6 c7 : Value} (h : w.heap[b]? = some (.cells #[c0, c1, c2, c3, c4, c5, c6, c7] T (0, 0))) (u0 u1 u2 u3 u4 u5 u6 u7 : Value) : ((((((((w.setCell ⟨b, 0, none⟩ u0).setCell ⟨b, 1, none⟩ u1).setCell ⟨b, 2, none⟩ u2).setCell ⟨b, 3, none⟩ u3).setCell ⟨b, 4, none⟩ u4).setCell ⟨b, 5, none⟩ u5).setCell ⟨b, 6, none⟩ u6).setCell ⟨b, 7, none⟩ u7).heap[b]? = some (.cells #[u0, u1, u2, u3, u4, u5, u6, u7] T (0, 0)) := by
  simp [World.setCell, Array.getElem?_modify, h]
def reqL (s lf : Int) (p : List Ext) : List Int := s :: lf :: p.flatMap fun x => [x.1, x.2]
theorem reqL_succ {s lf : Int} {p : List Ext} {k : Nat} (hk : k < p.length) : reqL s lf (p.take (k + 1)) = reqL s lf (p.take k) ++ [p[k].1, p[k].2] := by
  unfold reqL; rw [List.take_succ_eq_append_getElem hk, List.flatMap_append]; simp
theorem reqL_len (s lf : Int) (p : List Ext) : (reqL s lf p).length = 2 + 2 * p.length := by
  unfold reqL
  have : ∀ p : List Ext, (p.flatMap fun x => [x.1, x.2]).length = 2 * p.length := by
    intro p
    induction p with
    | nil => rfl
    | cons x p ih => rw [List.flatMap_cons, List.length_append, ih]; simp; omega
  simp only [List.length_cons, this]; omega
theorem tyInts44 : SliceTy Try.prog 42 3 1 8 := sliceTy_mk (z := .int .i64 0) Try.underlying42 (by kernel_rfl) rfl (by decide)
set_option maxHeartbeats 4000000 in
set_option maxRecDepth 100000 in
theorem request_any (b n c pc fn fc : Nat) (s lf lv : Int) (A P F : Option Addr) (sent : Int) (done : Bool) (p : List Ext) (w : World) (hl : p.length ≤ 100000) (hI : I64 s ∧ I64 lf)
    (hrow : WkRow w b s lf A n c P p.length pc lv F fn fc sent done) (h1 : SlAt encExt w (Bl w.heap.size) P p) :
    Calls Try.prog 38 #[.pointer (some ⟨b, 0, none⟩)] w fun e w' => ∃ V vc, e = .returned (.agg #[.int .i64 13, .int .i64 0, .int .i64 0, .int .i64 lv, .int .i64 0, .int .i64 0, .slice V (reqL s lf p).length vc, .slice none 0 0]) ∧ ((reqL s lf p).length ≤ vc ∧ vc ≤ maxLen ∧ SlAt encInt w' (Nw w.heap.size w'.heap.size) V (reqL s lf p)) ∧ Below w.heap.size w w' := by
  obtain ⟨n0, hn0⟩ : ∃ n0, w.heap.size = n0 := ⟨_, rfl⟩
  obtain ⟨W0, hW0⟩ : ∃ W0, w.alloc (.cells #[.int .i64 0, .int .i64 0, .int .i64 0, .int .i64 0, .int .i64 0, .int .i64 0, .slice none 0 0, .slice none 0 0] 45) = W0 := ⟨_, rfl⟩
  have hB0 : Below n0 w W0 := by rw [← hW0, ← hn0]; exact ext_alloc (Below.refl _ _)
  have hbl : b < n0 := by rw [← hn0]; exact hrow.lt
  have HWK : Hid (∀ W, Below n0 w W → WkRow W b s lf A n c P p.length pc lv F fn fc sent done) := fun W hb => (hb.block b hbl).trans hrow
  obtain ⟨⟨c0, c1, c2⟩, c3, c4, _⟩ := (HWK.out W0 hB0).cells
  go_enter Try.func38, Try.ntmps38
  go_upto_region 1 with (fail)
  go_region
  obtain ⟨n1, hn1⟩ : ∃ n1, W0.heap.size = n1 := ⟨_, rfl⟩
  have hn01 : n0 < n1 := by rw [← hn1, ← hW0, ← hn0]; simp
  have hr0 : W0.heap[n0]? = some (.cells #[.int .i64 0, .int .i64 0, .int .i64 0, .int .i64 0, .int .i64 0, .int .i64 0, .slice none 0 0, .slice none 0 0] 45 (0, 0)) := by rw [← hW0, ← hn0]; exact heap_alloc_new _ _
  obtain ⟨W1, hW1⟩ : ∃ W1, (W0.alloc (.cells #[.int .i64 s, .int .i64 lf] 3)).drew = W1 := ⟨_, rfl⟩
  have hb1 : Below n1 W0 W1 := by rw [← hW1, ← hn1]; exact (ext_alloc (Below.refl _ _)).drew
  have hO1 : Hid (OwnX (fun _ => False) encInt W1 n1 3 (.slice (some ⟨n1, 0, none⟩) 2 2) [s, lf]) := by
    rw [← hW1, ← hn1]
    refine (show OwnX (fun _ => False) encInt (W0.alloc (.cells #[.int .i64 s, .int .i64 lf] 3)) W0.heap.size 3 (.slice (some ⟨W0.heap.size, 0, none⟩) 2 2) [s, lf] from ⟨⟨[[.int .i64 s], [.int .i64 lf]], World.ownsRow_lit W0 #[.int .i64 s, .int .i64 lf] 2 (by omega) (by unfold maxLen; omega) rfl, ⟨⟨rfl, hI.1⟩, ⟨rfl, hI.2⟩, trivial⟩, fun g hg hS => hS.2.2 hg⟩, fun _ _ h => h⟩).below (Below.refl _ _).drew
  have hz1 : n1 < W1.heap.size := by rw [← hW1, ← hn1]; show W0.heap.size < (W0.alloc _).heap.size; simp
  have HP1 : Hid (∀ W, Below n1 W0 W → SlAt encExt W (Bl n0) P p) := fun W hb => by
    have h := (h1.below (w' := W0) (by rw [hn0]; exact hB0))
    rw [hn0] at h
    exact (h.blk (fun g hg => hb.block g (by have : g < n0 := hg; omega)))
  have HWK1 : Hid (∀ W, Below n1 W0 W → WkRow W b s lf A n c P p.length pc lv F fn fc sent done) := fun W hb => HWK.out W (hB0.trans (hb.mono (by omega)))
  rw [hW1, hn1]
  clear hW1 hW0 c0 c1 c2 c3 c4 hrow h1
  obtain ⟨⟨c0, c1, c2⟩, c3, c4, _⟩ := (HWK1.out W1 hb1).cells
  go_wp2_with fail
  clear c0 c1 c2 c3 c4
  go_loopw [3, 25] (fun v i wr => ∃ (k : Nat) (V : Option Addr) (vc : Nat) (out : List Int), k ≤ p.length ∧ i = .int .i64 k ∧ v = .slice V out.length vc ∧ Below n1 W0 wr ∧ n1 < wr.heap.size ∧ Hid (out = reqL s lf (p.take k)) ∧ Hid (OwnX (fun _ => False) encInt wr n1 3 (.slice V out.length vc) out)) (fun _ i _ => p.length - (intOf i).toNat)
  case atStart => exact ⟨0, some ⟨n1, 0, none⟩, 2, [s, lf], by omega, rfl, rfl, hb1, hz1, by simp [Hid, reqL], hO1.out⟩
  case round =>
    obtain ⟨wo, rfl⟩ : ∃ wo : World, wo = wr := ⟨_, rfl⟩
    obtain ⟨k, V, vc, out, hk, rfl, rfl, hB, hz, hout, hown⟩ := hrel
    have hol : out.length ≤ 200002 := by rw [hout.out, reqL_len, List.length_take]; omega
    by_cases hlt : k < p.length
    · obtain ⟨b2, off, rfl, hb2, g0, g1, hi1, hi2⟩ := (HP1.out wo hB).ext hlt
      have hst := Lib.hid (reqL_succ (s := s) (lf := lf) hlt)
      obtain ⟨x, hx⟩ : ∃ x, p[k] = x := ⟨_, rfl⟩
      rw [hx] at g0 g1 hi1 hi2 hst
      obtain ⟨e1, e2⟩ := x
      simp only at g0 g1 hi1 hi2 hst
      have hki : (k : Int) < p.length := by omega
      have hnn : (0 : Int) ≤ k := by omega
      obtain ⟨V1, hV1⟩ : ∃ V1, wo.alloc (.cells #[.int .i64 e1, .int .i64 e2] 67) = V1 := ⟨_, rfl⟩
      have hbV : Below wo.heap.size wo V1 := by rw [← hV1]; exact ext_alloc (Below.refl _ _)
      have hrV : V1.heap[wo.heap.size]? = some (.cells #[.int .i64 e1, .int .i64 e2] 67 (0, 0)) := by rw [← hV1]; exact heap_alloc_new _ _
      obtain ⟨x0, x1, _⟩ := blk2 hrV
      have hlt5 := hown.out.lt
      have hVz := hbV.size
      have hO5 := Lib.hid ((hown.out.below hbV).alloc (.cells #[.int .i64 e1, .int .i64 e2] 3))
      have hO5o := Lib.hid hO5.out.1
      have hsrc : Hid (SlAt encInt (V1.alloc (.cells #[.int .i64 e1, .int .i64 e2] 3)) (fun g => Nw n1 (V1.alloc (.cells #[.int .i64 e1, .int .i64 e2] 3)).heap.size g ∧ ¬ (fun _ => False) g ∧ (Value.slice V out.length vc).ownBlock ≠ some g) (some ⟨V1.heap.size, 0, none⟩) [e1, e2]) :=
        litS44 (E := encInt) (S0 := fun _ => False) (css := [[.int .i64 e1], [.int .i64 e2]]) (heap_alloc_new _ _) rfl ⟨⟨rfl, hi1⟩, ⟨rfl, hi2⟩, trivial⟩ (fun _ h => h.elim) ⟨⟨by omega, by simp⟩, fun h => h, fun h => by have := (hlt5 _ h).2; omega⟩ (fun h => h)
      have HB0 := Lib.hid hB
      have HV1 := Lib.hid hV1
      clear hx hV1
      go_upto_region 5 with (fail)
      rw [HV1.out]
      go_wp2_with (at_builtin; refine Hid.out ?_)
      change wpList _ _ _ _ _ _
      refine wpList_appAll (E := encInt) tyInts44 rfl _ _ rfl rfl hO5o.out rfl rfl hsrc.out (fun g hg => hg.1.2) (by first | omega | (simp; omega)) (by unfold maxLen; first | omega | (simp; omega)) (by first | omega | (simp; omega)) ?_
      intro A7 c7 w7 hown7 hg7 hat7
      have hO7 := Lib.hid (hO5.out.app hown7 hg7 hat7 (fun g h => h.elim))
      have hB7 : Hid (Below n1 W0 w7) := ((HB0.out.trans (hbV.mono (by omega))).alloc (by omega) (.cells #[.int .i64 e1, .int .i64 e2] 3)).grown hg7 (by simp; omega) (fun g h => (hlt5 g h).1)
      have hz7 : n1 < w7.heap.size := by have := hg7.size; simp at this; omega
      clear hown7 hg7 hat7 hlt5
      go_wp2_with fail
      go_roundw
      case rel =>
        refine ⟨k + 1, A7, c7, out ++ [e1, e2], hlt, by go_num, by simp, hB7.out, hz7, by rw [Hid, hst.out, hout.out], ?_⟩
        have := hO7.out; simpa [Hid] using this
      case measure => simp [intOf]; omega
    · have hki : ¬ (k : Int) < p.length := by omega
      have hE : Hid (out = reqL s lf p) := by rw [Hid, hout.out, List.take_of_length_le (by omega)]
      obtain ⟨_, o1, o2, o3⟩ := hown.out.parts
      have HO := Lib.hid (And.intro o1 (And.intro o2 o3))
      have hrz := (hB.block n0 (by omega)).trans hr0
      obtain ⟨⟨c0, c1, c2⟩, c3, c4, _⟩ := (HWK1.out wo hB).cells
      obtain ⟨z0, z1, z2, z3, z4, z5, z6, z7, zf⟩ := blk8 hrz
      clear hlt o1 o2 o3
      go_wp2_with fail
      have hz := blk8_set hrz (.int .i64 13) (.int .i64 0) (.int .i64 0) (.int .i64 lv) (.int .i64 0) (.int .i64 0) (.slice V out.length vc) (.slice none 0 0)
      have hBwo : Below n0 w wo := hB0.trans (hB.mono (by omega))
      have hbe := ((((((((hBwo.setCell (p := ⟨n0, 0, none⟩) (Nat.le_refl _) (.int .i64 13)).setCell (p := ⟨n0, 1, none⟩) (Nat.le_refl _) (.int .i64 0)).setCell (p := ⟨n0, 2, none⟩) (Nat.le_refl _) (.int .i64 0)).setCell (p := ⟨n0, 3, none⟩) (Nat.le_refl _) (.int .i64 lv)).setCell (p := ⟨n0, 4, none⟩) (Nat.le_refl _) (.int .i64 0)).setCell (p := ⟨n0, 5, none⟩) (Nat.le_refl _) (.int .i64 0)).setCell (p := ⟨n0, 6, none⟩) (Nat.le_refl _) (.slice V out.length vc)).setCell (p := ⟨n0, 7, none⟩) (Nat.le_refl _) (.slice none 0 0))
      have hoth : ∀ g, g ≠ n0 → ((((((((wo.setCell ⟨n0, 0, none⟩ (.int .i64 13)).setCell ⟨n0, 1, none⟩ (.int .i64 0)).setCell ⟨n0, 2, none⟩ (.int .i64 0)).setCell ⟨n0, 3, none⟩ (.int .i64 lv)).setCell ⟨n0, 4, none⟩ (.int .i64 0)).setCell ⟨n0, 5, none⟩ (.int .i64 0)).setCell ⟨n0, 6, none⟩ (.slice V out.length vc)).setCell ⟨n0, 7, none⟩ (.slice none 0 0)).heap[g]? = wo.heap[g]? := fun g hg => ((((((((heap_setCell_other _ ⟨n0, 7, none⟩ g _ hg).trans (heap_setCell_other _ ⟨n0, 6, none⟩ g _ hg)).trans (heap_setCell_other _ ⟨n0, 5, none⟩ g _ hg)).trans (heap_setCell_other _ ⟨n0, 4, none⟩ g _ hg)).trans (heap_setCell_other _ ⟨n0, 3, none⟩ g _ hg)).trans (heap_setCell_other _ ⟨n0, 2, none⟩ g _ hg)).trans (heap_setCell_other _ ⟨n0, 1, none⟩ g _ hg)).trans (heap_setCell_other _ ⟨n0, 0, none⟩ g _ hg))
      have hsz : ((((((((wo.setCell ⟨n0, 0, none⟩ (.int .i64 13)).setCell ⟨n0, 1, none⟩ (.int .i64 0)).setCell ⟨n0, 2, none⟩ (.int .i64 0)).setCell ⟨n0, 3, none⟩ (.int .i64 lv)).setCell ⟨n0, 4, none⟩ (.int .i64 0)).setCell ⟨n0, 5, none⟩ (.int .i64 0)).setCell ⟨n0, 6, none⟩ (.slice V out.length vc)).setCell ⟨n0, 7, none⟩ (.slice none 0 0)).heap.size = wo.heap.size := by simp [World.setCell]
      change bodyPost _ _ _ _ _ ((((((((wo.setCell ⟨n0, 0, none⟩ (.int .i64 13)).setCell ⟨n0, 1, none⟩ (.int .i64 0)).setCell ⟨n0, 2, none⟩ (.int .i64 0)).setCell ⟨n0, 3, none⟩ (.int .i64 lv)).setCell ⟨n0, 4, none⟩ (.int .i64 0)).setCell ⟨n0, 5, none⟩ (.int .i64 0)).setCell ⟨n0, 6, none⟩ (.slice V out.length vc)).setCell ⟨n0, 7, none⟩ (.slice none 0 0))
      generalize ((((((((wo.setCell ⟨n0, 0, none⟩ (.int .i64 13)).setCell ⟨n0, 1, none⟩ (.int .i64 0)).setCell ⟨n0, 2, none⟩ (.int .i64 0)).setCell ⟨n0, 3, none⟩ (.int .i64 lv)).setCell ⟨n0, 4, none⟩ (.int .i64 0)).setCell ⟨n0, 5, none⟩ (.int .i64 0)).setCell ⟨n0, 6, none⟩ (.slice V out.length vc)).setCell ⟨n0, 7, none⟩ (.slice none 0 0)) = W3 at hz hbe hoth hsz ⊢
      obtain ⟨z0, z1, z2, z3, z4, z5, z6, z7, _⟩ := blk8 hz
      refine bodyPost_ret (v := .agg #[.int .i64 13, .int .i64 0, .int .i64 0, .int .i64 lv, .int .i64 0, .int .i64 0, .slice V out.length vc, .slice none 0 0]) ?_ rfl ?_
      · simp [results, Try.results38, Try.f38, go_sem, z0, z1, z2, z3, z4, z5, z6, z7]
      rw [← hE.out]
      exact ⟨V, vc, rfl, ⟨HO.out.1, HO.out.2.1, (HO.out.2.2.blk (fun g hg => hoth g (by have := hg.1.1; omega))).more (fun g hg => ⟨by have := hg.1.1; omega, by have := hg.1.2; omega⟩)⟩, hbe⟩
end Go.Proofs.Ytjehedfdikdfpaa
namespace Go.Proofs.Ytjehedfdikdfpaa
open Go.RowKit Go.Shelf

/-- a message -/
def encMsg : Enc Msg where
  size := 8
  rd w S cs x := ∃ V vc B bc, cs = [.int .i64 x.1, .int .i64 x.2.1, .int .i64 x.2.2.1, .int .i64 x.2.2.2.1, .int .i64 x.2.2.2.2.1, .int .i64 x.2.2.2.2.2.1, .slice V x.2.2.2.2.2.2.1.length vc, .slice B x.2.2.2.2.2.2.2.length bc] ∧
    (I64 x.1 ∧ I64 x.2.1 ∧ I64 x.2.2.1 ∧ I64 x.2.2.2.1 ∧ I64 x.2.2.2.2.1 ∧ I64 x.2.2.2.2.2.1) ∧ (x.2.2.2.2.2.2.1.length ≤ vc ∧ vc ≤ maxLen ∧ SlAt encInt w S V x.2.2.2.2.2.2.1) ∧ (x.2.2.2.2.2.2.2.length ≤ bc ∧ bc ≤ maxLen ∧ SlAt encU8 w S B x.2.2.2.2.2.2.2)
  len h := by obtain ⟨V, vc, B, bc, rfl, _⟩ := h; rfl
  one h := by obtain ⟨V, vc, B, bc, rfl, _⟩ := h; simp [Value.oneCell']
  keep h hk hS := by
    obtain ⟨V, vc, B, bc, rfl, h1, ⟨h2, h3, h4⟩, h5, h6, h7⟩ := h
    exact ⟨V, vc, B, bc, rfl, h1, ⟨h2, h3, h4.keep hk hS⟩, h5, h6, h7.keep hk hS⟩
/-- the value of a walk -/
def WkVal (w : World) (S : Nat → Prop) (x : Wk) (v : Value) : Prop :=
  ∃ A c P pc F fc, v = .agg #[.int .i64 x.1.1, .int .i64 x.1.2.1, .slice A x.1.2.2.length c, .slice P x.2.1.length pc, .int .i64 x.2.2.1, .slice F x.2.2.2.1.length fc, .int .i64 x.2.2.2.2.1, .bool x.2.2.2.2.2] ∧
    (x.1.2.2.length ≤ c ∧ c ≤ maxLen ∧ SlAt (encSl encU64) w S A x.1.2.2) ∧ (x.2.1.length ≤ pc ∧ pc ≤ maxLen ∧ SlAt encExt w S P x.2.1) ∧ (x.2.2.2.1.length ≤ fc ∧ fc ≤ maxLen ∧ SlAt encExt w S F x.2.2.2.1) ∧ (I64 x.1.1 ∧ I64 x.1.2.1 ∧ I64 x.2.2.1 ∧ I64 x.2.2.2.2.1)
theorem WkVal.keep {w w' : World} {S S' : Nat → Prop} {x : Wk} {v : Value} (h : WkVal w S x v) (hk : ∀ g, S g → w'.heap[g]? = w.heap[g]?) (hS : ∀ g, S g → S' g) : WkVal w' S' x v := by
  obtain ⟨A, c, P, pc, F, fc, rfl, ⟨a1, a2, a3⟩, ⟨b1, b2, b3⟩, ⟨c1, c2, c3⟩, hi⟩ := h
  exact ⟨A, c, P, pc, F, fc, rfl, ⟨a1, a2, (a3.blk hk).more hS⟩, ⟨b1, b2, (b3.blk hk).more hS⟩, ⟨c1, c2, (c3.blk hk).more hS⟩, hi⟩
theorem WkVal.fwd {w w' : World} {x : Wk} {v : Value} (h : WkVal w (Bl w.heap.size) x v) (hb : Below w.heap.size w w') : WkVal w' (Bl w'.heap.size) x v := h.keep (fun g hg => hb.block g hg) (fun g hg => Nat.lt_of_lt_of_le hg hb.size)
theorem wkVal_zero {w : World} {S : Nat → Prop} : WkVal w S zWk (.agg #[.int .i64 0, .int .i64 0, .slice none 0 0, .slice none 0 0, .int .i64 0, .slice none 0 0, .int .i64 0, .bool false]) :=
  ⟨none, 0, none, 0, none, 0, rfl, ⟨Nat.zero_le _, Nat.zero_le _, SlAt.nil_⟩, ⟨Nat.zero_le _, Nat.zero_le _, SlAt.nil_⟩, ⟨Nat.zero_le _, Nat.zero_le _, SlAt.nil_⟩, by unfold I64; decide, by unfold I64; decide, by unfold I64; decide, by unfold I64; decide⟩
/-- the value of a message -/
def MsgVal (w : World) (S : Nat → Prop) (x : Msg) (v : Value) : Prop :=
  ∃ V vc B bc, v = .agg #[.int .i64 x.1, .int .i64 x.2.1, .int .i64 x.2.2.1, .int .i64 x.2.2.2.1, .int .i64 x.2.2.2.2.1, .int .i64 x.2.2.2.2.2.1, .slice V x.2.2.2.2.2.2.1.length vc, .slice B x.2.2.2.2.2.2.2.length bc] ∧
    (I64 x.1 ∧ I64 x.2.1 ∧ I64 x.2.2.1 ∧ I64 x.2.2.2.1 ∧ I64 x.2.2.2.2.1 ∧ I64 x.2.2.2.2.2.1) ∧ (x.2.2.2.2.2.2.1.length ≤ vc ∧ vc ≤ maxLen ∧ SlAt encInt w S V x.2.2.2.2.2.2.1) ∧ (x.2.2.2.2.2.2.2.length ≤ bc ∧ bc ≤ maxLen ∧ SlAt encU8 w S B x.2.2.2.2.2.2.2)
theorem MsgVal.keep {w w' : World} {S S' : Nat → Prop} {x : Msg} {v : Value} (h : MsgVal w S x v) (hk : ∀ g, S g → w'.heap[g]? = w.heap[g]?) (hS : ∀ g, S g → S' g) : MsgVal w' S' x v := by
  obtain ⟨V, vc, B, bc, rfl, hi, ⟨a1, a2, a3⟩, b1, b2, b3⟩ := h
  exact ⟨V, vc, B, bc, rfl, hi, ⟨a1, a2, (a3.blk hk).more hS⟩, b1, b2, (b3.blk hk).more hS⟩
theorem i64_small (n : Int) (h : 0 ≤ n ∧ n ≤ 1000000) : I64 n := by unfold I64; omega
theorem msgVal_zero {w : World} {S : Nat → Prop} : MsgVal w S zMsg (.agg #[.int .i64 0, .int .i64 0, .int .i64 0, .int .i64 0, .int .i64 0, .int .i64 0, .slice none 0 0, .slice none 0 0]) :=
  have i0 := i64_small 0 (by omega)
  ⟨none, 0, none, 0, rfl, ⟨i0, i0, i0, i0, i0, i0⟩, ⟨Nat.zero_le _, Nat.zero_le _, SlAt.nil_⟩, Nat.zero_le _, Nat.zero_le _, SlAt.nil_⟩
/-- a message and the number of an error -/
def RetMsg (x : Msg) (r : Int) (w : World) (e : Ending) (w' : World) : Prop :=
  ∃ v, e = .returned (.tuple #[v, .int .i64 r]) ∧ MsgVal w' (Nw w.heap.size w'.heap.size) x v ∧ Below w.heap.size w w'
/-- a walk, messages and the number of an error -/
def RetW (x : Wk) (ms : List Msg) (r : Int) (w : World) (e : Ending) (w' : World) : Prop :=
  ∃ v B bc, e = .returned (.tuple #[v, .slice B ms.length bc, .int .i64 r]) ∧ WkVal w' (Nw w.heap.size w'.heap.size) x v ∧ ms.length ≤ bc ∧ bc ≤ maxLen ∧ SlAt encMsg w' (Nw w.heap.size w'.heap.size) B ms ∧ Below w.heap.size w w'
/-- the request of a walk -/
def reqMsg (x : Wk) : Msg := (13, 0, 0, x.2.2.1, 0, 0, reqL x.1.1 x.1.2.1 x.2.1, [])
def begM (t : Tr) : List Msg := if checkT t = 0 then [reqMsg (begW t)] else []
theorem set8_sz {W : World} {b : Nat} {u0 u1 u2 u3 u4 u5 u6 u7 : Value} : (set8 W b u0 u1 u2 u3 u4 u5 u6 u7).heap.size = W.heap.size := by simp [set8, World.setCell]
/-- the end of a function that returns a walk, messages and a number: the walk was stored in block b -/
theorem wk_end {w W : World} {b : Nat} {T : TypeId} {c0 c1 c2 c3 c4 c5 c6 c7 u0 u1 u2 u3 u4 u5 u6 u7 : Value} (hrow : W.heap[b]? = some (.cells #[c0, c1, c2, c3, c4, c5, c6, c7] T (0, 0))) (hb : w.heap.size ≤ b) (hB : Below w.heap.size w W) {x : Wk}
    (hv : WkVal W (fun g => w.heap.size ≤ g ∧ g < W.heap.size ∧ g ≠ b) x (.agg #[u0, u1, u2, u3, u4, u5, u6, u7])) {ms : List Msg} {B : Option Addr} {n bc : Nat} (hn : ms.length = n) (hm : n ≤ bc ∧ bc ≤ maxLen ∧ SlAt encMsg W (fun g => w.heap.size ≤ g ∧ g < W.heap.size ∧ g ≠ b) B ms) (r : Int) :
    (set8 W b u0 u1 u2 u3 u4 u5 u6 u7).heap[b]? = some (.cells #[u0, u1, u2, u3, u4, u5, u6, u7] T (0, 0)) ∧
    RetW x ms r w (.returned (.tuple #[.agg #[u0, u1, u2, u3, u4, u5, u6, u7], .slice B n bc, .int .i64 r])) (set8 W b u0 u1 u2 u3 u4 u5 u6 u7) := by
  subst hn
  have ho : ∀ g, (w.heap.size ≤ g ∧ g < W.heap.size ∧ g ≠ b) → (set8 W b u0 u1 u2 u3 u4 u5 u6 u7).heap[g]? = W.heap[g]? := fun g hg => set8_other hg.2.2 _ _ _ _ _ _ _ _
  have hs : ∀ g, (w.heap.size ≤ g ∧ g < W.heap.size ∧ g ≠ b) → Nw w.heap.size (set8 W b u0 u1 u2 u3 u4 u5 u6 u7).heap.size g := fun g hg => ⟨hg.1, by rw [set8_sz]; exact hg.2.1⟩
  exact ⟨set8_row hrow _ _ _ _ _ _ _ _, _, B, bc, rfl, hv.keep ho hs, hm.1, hm.2.1, (hm.2.2.blk ho).more hs, set8_below hB hb _ _ _ _ _ _ _ _⟩
theorem setCell_alloc {w : World} {o : Obj} {p : Addr} (v : Value) (h : p.block < w.heap.size) : (w.alloc o).setCell p v = (w.setCell p v).alloc o := by
  unfold World.setCell World.alloc
  simp only [World.mk.injEq, and_true, true_and]
  refine Array.ext_getElem? fun i => ?_
  rw [Array.getElem?_modify, Array.getElem?_push, Array.getElem?_push, Array.getElem?_modify, Array.size_modify]
  by_cases hi : i = w.heap.size
  · rw [if_pos hi, if_neg (by omega), if_pos hi]
  · rw [if_neg hi, if_neg hi]
theorem set8_alloc {w : World} {o : Obj} {b : Nat} (u0 u1 u2 u3 u4 u5 u6 u7 : Value) (h : b < w.heap.size) : set8 (w.alloc o) b u0 u1 u2 u3 u4 u5 u6 u7 = (set8 w b u0 u1 u2 u3 u4 u5 u6 u7).alloc o := by
  have hz : ∀ (w : World) (i : Nat) (v : Value), b < w.heap.size → b < (w.setCell ⟨b, i, none⟩ v).heap.size := fun w i v h => by simpa [World.setCell] using h
  unfold set8
  have h1 := hz _ 0 u0 h
  have h2 := hz _ 1 u1 h1
  have h3 := hz _ 2 u2 h2
  have h4 := hz _ 3 u3 h3
  have h5 := hz _ 4 u4 h4
  have h6 := hz _ 5 u5 h5
  have h7 := hz _ 6 u6 h6
  rw [setCell_alloc (p := ⟨b, 0, none⟩) _ h, setCell_alloc (p := ⟨b, 1, none⟩) _ h1, setCell_alloc (p := ⟨b, 2, none⟩) _ h2, setCell_alloc (p := ⟨b, 3, none⟩) _ h3, setCell_alloc (p := ⟨b, 4, none⟩) _ h4, setCell_alloc (p := ⟨b, 5, none⟩) _ h5, setCell_alloc (p := ⟨b, 6, none⟩) _ h6, setCell_alloc (p := ⟨b, 7, none⟩) _ h7]
/-- the end of a function that returns a message and a number: the message was stored in block b -/
theorem msg_end {w W : World} {b : Nat} {T : TypeId} {c0 c1 c2 c3 c4 c5 c6 c7 u0 u1 u2 u3 u4 u5 u6 u7 : Value} (hrow : W.heap[b]? = some (.cells #[c0, c1, c2, c3, c4, c5, c6, c7] T (0, 0))) (hb : w.heap.size ≤ b) (hB : Below w.heap.size w W) {x : Msg}
    (hv : MsgVal W (fun g => w.heap.size ≤ g ∧ g < W.heap.size ∧ g ≠ b) x (.agg #[u0, u1, u2, u3, u4, u5, u6, u7])) (r : Int) :
    (set8 W b u0 u1 u2 u3 u4 u5 u6 u7).heap[b]? = some (.cells #[u0, u1, u2, u3, u4, u5, u6, u7] T (0, 0)) ∧
    RetMsg x r w (.returned (.tuple #[.agg #[u0, u1, u2, u3, u4, u5, u6, u7], .int .i64 r])) (set8 W b u0 u1 u2 u3 u4 u5 u6 u7) := by
  have ho : ∀ g, (w.heap.size ≤ g ∧ g < W.heap.size ∧ g ≠ b) → (set8 W b u0 u1 u2 u3 u4 u5 u6 u7).heap[g]? = W.heap[g]? := fun g hg => set8_other hg.2.2 _ _ _ _ _ _ _ _
  have hs : ∀ g, (w.heap.size ≤ g ∧ g < W.heap.size ∧ g ≠ b) → Nw w.heap.size (set8 W b u0 u1 u2 u3 u4 u5 u6 u7).heap.size g := fun g hg => ⟨hg.1, by rw [set8_sz]; exact hg.2.1⟩
  exact ⟨set8_row hrow _ _ _ _ _ _ _ _, _, rfl, hv.keep ho hs, set8_below hB hb _ _ _ _ _ _ _ _⟩
/-- all blocks but one keep -/
def BelX (X : Nat) (w w' : World) : Prop := ∀ g, g < w.heap.size → g ≠ X → w'.heap[g]? = w.heap[g]?
theorem belX_of {X : Nat} {w w' : World} (h : Below w.heap.size w w') : BelX X w w' := fun g hg _ => h.block g hg
/-- the end of a function that returns a walk and its request: the walk was stored in block rb, then the request was laid -/
theorem wk_req_end {w w3 : World} {rb : Nat} {T : TypeId} {c0 c1 c2 c3 c4 c5 c6 c7 u0 u1 u2 u3 u4 u5 u6 u7 : Value} (hrow : w3.heap[rb]? = some (.cells #[c0, c1, c2, c3, c4, c5, c6, c7] T (0, 0))) (hb : w.heap.size ≤ rb) (hB : Below w.heap.size w w3) {x : Wk}
    (hv : WkVal w3 (fun g => w.heap.size ≤ g ∧ g < w3.heap.size ∧ g ≠ rb) x (.agg #[u0, u1, u2, u3, u4, u5, u6, u7])) {V : Option Addr} {n vc : Nat} (hn : (reqL x.1.1 x.1.2.1 x.2.1).length = n) (hV : n ≤ vc ∧ vc ≤ maxLen ∧ SlAt encInt w3 (fun g => w.heap.size ≤ g ∧ g < w3.heap.size ∧ g ≠ rb) V (reqL x.1.1 x.1.2.1 x.2.1)) :
    ((set8 w3 rb u0 u1 u2 u3 u4 u5 u6 u7).alloc (.cells #[.int .i64 13, .int .i64 0, .int .i64 0, .int .i64 x.2.2.1, .int .i64 0, .int .i64 0, .slice V n vc, .slice none 0 0] 45)).heap[rb]? = some (.cells #[u0, u1, u2, u3, u4, u5, u6, u7] T (0, 0)) ∧
    RetW x [reqMsg x] 0 w (.returned (.tuple #[.agg #[u0, u1, u2, u3, u4, u5, u6, u7], .slice (some ⟨w3.heap.size, 0, none⟩) 1 1, .int .i64 0])) ((set8 w3 rb u0 u1 u2 u3 u4 u5 u6 u7).alloc (.cells #[.int .i64 13, .int .i64 0, .int .i64 0, .int .i64 x.2.2.1, .int .i64 0, .int .i64 0, .slice V n vc, .slice none 0 0] 45)) := by
  subst hn
  have hr0 := set8_row hrow u0 u1 u2 u3 u4 u5 u6 u7
  have hsz : (set8 w3 rb u0 u1 u2 u3 u4 u5 u6 u7).heap.size = w3.heap.size := set8_sz
  have hB8 : Below w.heap.size w (set8 w3 rb u0 u1 u2 u3 u4 u5 u6 u7) := set8_below hB hb _ _ _ _ _ _ _ _
  have ho : ∀ g, (w.heap.size ≤ g ∧ g < w3.heap.size ∧ g ≠ rb) → (set8 w3 rb u0 u1 u2 u3 u4 u5 u6 u7).heap[g]? = w3.heap[g]? := fun g hg => set8_other hg.2.2 _ _ _ _ _ _ _ _
  generalize set8 w3 rb u0 u1 u2 u3 u4 u5 u6 u7 = W8 at hr0 hsz hB8 ho ⊢
  have ho2 : ∀ g, (w.heap.size ≤ g ∧ g < w3.heap.size ∧ g ≠ rb) → (W8.alloc (.cells #[.int .i64 13, .int .i64 0, .int .i64 0, .int .i64 x.2.2.1, .int .i64 0, .int .i64 0, .slice V (reqL x.1.1 x.1.2.1 x.2.1).length vc, .slice none 0 0] 45)).heap[g]? = w3.heap[g]? := fun g hg => (Below.heap_alloc _ _ _ (by rw [hsz]; exact hg.2.1)).trans (ho g hg)
  have hlv : I64 x.2.2.1 := by obtain ⟨_, _, _, _, _, _, _, _, _, _, h⟩ := hv; exact h.2.2.1
  have hrb : rb < W8.heap.size := (Array.getElem?_eq_some_iff.1 hr0).1
  refine ⟨(Below.heap_alloc _ _ _ hrb).trans hr0, _, _, _, rfl, hv.keep ho2 (fun g hg => ⟨hg.1, by simp; omega⟩), Nat.le_refl _, by unfold maxLen; decide, ?_, hB8.alloc hB8.size _⟩
  refine litS44 (E := encMsg) (S0 := fun g => w.heap.size ≤ g ∧ g < w3.heap.size ∧ g ≠ rb) (css := [[.int .i64 13, .int .i64 0, .int .i64 0, .int .i64 x.2.2.1, .int .i64 0, .int .i64 0, .slice V (reqL x.1.1 x.1.2.1 x.2.1).length vc, .slice none 0 0]]) (by rw [← hsz]; exact heap_alloc_new _ _) rfl ⟨?_, trivial⟩ (fun g hg => ⟨hg.1, by simp; omega⟩) ⟨hB.size, by simp; omega⟩ (fun h => by have := h.2.1; omega)
  have i13 : I64 13 := by unfold I64; decide
  have i0 : I64 0 := by unfold I64; decide
  exact ⟨V, vc, none, 0, rfl, ⟨i13, i0, i0, hlv, i0, i0⟩, ⟨hV.1, hV.2.1, hV.2.2.blk ho2⟩, Nat.zero_le _, Nat.zero_le _, SlAt.nil_⟩
end Go.Proofs.Ytjehedfdikdfpaa

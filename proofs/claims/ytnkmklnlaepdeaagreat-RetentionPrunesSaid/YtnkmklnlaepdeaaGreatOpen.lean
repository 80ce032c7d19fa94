/-
  Arguments that read as data read as plain data (Enc), type by type; the last step of a law's proof. No program in sight.
-/
import Derived.Test.YtnkmklnlaepdeaaGreatEnc
import Derived.OpenShut
import Derived.Carry
import Derived.ProofKit
import Derived.ChangeSame
import GoSem.Claim
import GoSem.ClaimJoined
import GoSem.ClaimMapViews
import Derived.JoinedTies
import Derived.KernelRfl
set_option linter.unusedVariables false
set_option linter.unusedSimpArgs false
set_option linter.unusedSectionVars false
set_option linter.unnecessarySimpa false
namespace Go.Proofs.YtnkmklnlaepdeaaGreat
open Go.RowKit Go.ChangeShapes Go.WideShapes Go.ChangeAt

/-- what reads as data at type t reads by E -/
def Opens {α : Type} (P : Program) (t : TypeId) (E : Enc α) : Prop :=
  P.cellsOf t = E.size ∧ ∀ (H : Type) (enc : TypeId × Value → H) (w : World) (base : Nat) (spare : Nat → Bool) (held : Bool) (fuel : Nat) (cs : List Value) (x : DataW H × List MemPlace),
    DataW.trod enc P w base spare held fuel t cs = some x → ∃ y : α, E.rd w (Bl w.heap.size) cs y
section
variable {P : Program} {t e : TypeId} {α β : Type} {E : Enc α} {F : Enc β}
theorem opens_int (ht : P.underlying t = some (.int .i64)) (hc : P.cellsOf t = 1) : Opens P t encInt := by
  refine ⟨hc, fun H enc w base spare held fuel cs x h => ?_⟩
  obtain ⟨n, rfl, _, hw⟩ := DataW.trod_int ht h
  exact ⟨n, rfl, by simp [Lit.wf, IntKind.min, IntKind.max, IntKind.signed, IntKind.bits] at hw; unfold I64; omega⟩
theorem opens_u8 (ht : P.underlying t = some (.int .u8)) (hc : P.cellsOf t = 1) : Opens P t encU8 := by
  refine ⟨hc, fun H enc w base spare held fuel cs x h => ?_⟩
  obtain ⟨n, rfl, _, hw⟩ := DataW.trod_int ht h
  exact ⟨n, rfl, by simp [Lit.wf, IntKind.min, IntKind.max, IntKind.signed, IntKind.bits] at hw; omega⟩
theorem opens_u64 (ht : P.underlying t = some (.int .u64)) (hc : P.cellsOf t = 1) : Opens P t encU64 := by
  refine ⟨hc, fun H enc w base spare held fuel cs x h => ?_⟩
  obtain ⟨n, rfl, _, hw⟩ := DataW.trod_int ht h
  exact ⟨n, rfl, by simp [Lit.wf, IntKind.min, IntKind.max, IntKind.signed, IntKind.bits] at hw; omega⟩
theorem opens_bool (ht : P.underlying t = some .bool) (hc : P.cellsOf t = 1) : Opens P t encBool := by
  refine ⟨hc, fun H enc w base spare held fuel cs x h => ?_⟩
  obtain ⟨b, rfl, _⟩ := DataW.trod_bool ht h
  exact ⟨b, rfl⟩
theorem opens_sec (ht : P.underlying t = some (.array 8 e)) (hc : P.cellsOf t = 8) (he : P.underlying e = some (.int .u8)) (hce : P.cellsOf e = 1) : Opens P t encSec := by
  refine ⟨hc, fun H enc w base spare held fuel cs x h => ?_⟩
  obtain ⟨xs, m, _, _, hl, hxl, hx⟩ := DataW.trod_array ht h
  rw [hc] at hl
  rw [hce] at hx
  have key : ∀ i, i < 8 → ∃ n : Int, cs[i]? = some (.int .u8 n) ∧ 0 ≤ n ∧ n < 256 := by
    intro i hi
    have h1 := hx i hi
    rw [Nat.mul_one, List.getElem?_eq_getElem (by omega)] at h1
    obtain ⟨n, hn, _, hw⟩ := DataW.trod_int he h1
    refine ⟨n, cell_of_cut hn, by simp [Lit.wf, IntKind.min, IntKind.max, IntKind.signed, IntKind.bits] at hw; omega⟩
  obtain ⟨x0, a0, b0⟩ := key 0 (by omega)
  obtain ⟨x1, a1, b1⟩ := key 1 (by omega)
  obtain ⟨x2, a2, b2⟩ := key 2 (by omega)
  obtain ⟨x3, a3, b3⟩ := key 3 (by omega)
  obtain ⟨x4, a4, b4⟩ := key 4 (by omega)
  obtain ⟨x5, a5, b5⟩ := key 5 (by omega)
  obtain ⟨x6, a6, b6⟩ := key 6 (by omega)
  obtain ⟨x7, a7, b7⟩ := key 7 (by omega)
  refine ⟨[x0, x1, x2, x3, x4, x5, x6, x7], ?_, rfl, ?_⟩
  · have h8 : ∀ l : List Value, l.length = 8 → ∃ c0 c1 c2 c3 c4 c5 c6 c7, l = [c0, c1, c2, c3, c4, c5, c6, c7] := fun l h => by
      match l, h with
      | [c0, c1, c2, c3, c4, c5, c6, c7], _ => exact ⟨_, _, _, _, _, _, _, _, rfl⟩
    obtain ⟨c0, c1, c2, c3, c4, c5, c6, c7, rfl⟩ := h8 cs hl
    simp at a0 a1 a2 a3 a4 a5 a6 a7
    simp [secV, a0, a1, a2, a3, a4, a5, a6, a7]
  · intro x hx
    simp at hx
    rcases hx with rfl | rfl | rfl | rfl | rfl | rfl | rfl | rfl <;> assumption
/-- the fields of a struct from an offset on -/
def OpensF (P : Program) (fs : List Field) (off total : Nat) (E : Enc α) : Prop :=
  off + E.size = total ∧ ∀ (H : Type) (enc : TypeId × Value → H) (w : World) (base : Nat) (spare : Nat → Bool) (held : Bool) (cs : List Value), cs.length = total →
    (∀ f ∈ fs, ∃ (fuel : Nat) (x : DataW H × List MemPlace), DataW.trod enc P w base spare held fuel f.type ((cs.drop f.offset).take (P.cellsOf f.type)) = some x) → ∃ y : α, E.rd w (Bl w.heap.size) (cs.drop off) y
theorem opensF_one {f : Field} {off total : Nat} (ho : f.offset = off) (he : Opens P f.type E) (ht : off + E.size = total) : OpensF P [f] off total E := by
  refine ⟨ht, fun H enc w base spare held cs hl hf => ?_⟩
  obtain ⟨fuel, x, hx⟩ := hf f (by simp)
  obtain ⟨y, hy⟩ := he.2 H enc w base spare held fuel _ x hx
  rw [ho, he.1, List.take_of_length_le (by rw [List.length_drop]; omega)] at hy
  exact ⟨y, hy⟩
theorem opensF_cons {f : Field} {fs : List Field} {off total : Nat} (ho : f.offset = off) (he : Opens P f.type E) (hfs : OpensF P fs (off + E.size) total F) : OpensF P (f :: fs) off total (encPair E F) := by
  refine ⟨by have := hfs.1; simp only [encPair]; omega, fun H enc w base spare held cs hl hf => ?_⟩
  obtain ⟨fuel, x, hx⟩ := hf f (by simp)
  obtain ⟨y, hy⟩ := he.2 H enc w base spare held fuel _ x hx
  obtain ⟨z, hz⟩ := hfs.2 H enc w base spare held cs hl (fun g hg => hf g (by simp [hg]))
  rw [ho, he.1] at hy
  refine ⟨(y, z), _, _, ?_, hy, hz⟩
  rw [← List.drop_drop, List.take_append_drop]
theorem opens_struct {fs : Array Field} (ht : P.underlying t = some (.struct fs)) (hf : OpensF P fs.toList 0 (P.cellsOf t) E) : Opens P t E := by
  refine ⟨by have := hf.1; omega, fun H enc w base spare held fuel cs x h => ?_⟩
  obtain ⟨xs, n, _, _, hl, hxl, hx⟩ := DataW.trod_struct ht h
  have := hf.2 H enc w base spare held cs hl (fun f hfm => by
    obtain ⟨i, hi, rfl⟩ := List.mem_iff_getElem.1 hfm
    have h1 := hx i fs[i] (by simp at hi; simp [hi])
    rw [List.getElem?_eq_getElem (by simp at hi; omega)] at h1
    exact ⟨n, _, by simpa using h1⟩)
  simpa using this
theorem opens_slice (ht : P.underlying t = some (.slice e)) (hc : P.cellsOf t = 1) (he : Opens P e E) (hp : 0 < E.size) : Opens P t (encSl E) := by
  refine ⟨hc, fun H enc w base spare held fuel cs x h => ?_⟩
  rcases DataW.trod_slice ht h with ⟨rfl, _⟩ | ⟨a, len, cap, elems, rest, n, rfl, rfl, _, _, hl, hm, hlen, hel, _⟩
  · exact ⟨[], none, 0, rfl, by simp, by simp, SlAt.nil_⟩
  · have key : ∀ i, i < len → ∃ (y : α) (cs' : List Value), (∀ j v, cs'[j]? = some v → w.cell? ((a.add (i * E.size)).add j) = some v) ∧ E.rd w (Bl w.heap.size) cs' y := by
      intro i hi
      have h1 := hel i hi
      rw [he.1, List.getElem?_eq_getElem (by omega)] at h1
      obtain ⟨cs', hc1, hc2⟩ := Option.bind_eq_some_iff.1 h1
      obtain ⟨_, hcl, hat⟩ := World.cells?_some hc1
      obtain ⟨y, hy⟩ := he.2 H enc w base spare held n _ _ hc2
      refine ⟨y, cs', fun j v hv => ?_, hy⟩
      have hj : j < cs'.length := (List.getElem?_eq_some_iff.1 hv).1
      exact (hat j (by omega)).trans hv
    have hlist : ∃ ys : List α, ys.length = len ∧ ∀ i y, ys[i]? = some y → ∃ cs' : List Value, (∀ j v, cs'[j]? = some v → w.cell? ((a.add (i * E.size)).add j) = some v) ∧ E.rd w (Bl w.heap.size) cs' y := by
      refine ⟨List.ofFn (fun i : Fin len => Classical.choose (key i.1 i.2)), by simp, fun i y hy => ?_⟩
      rw [List.getElem?_ofFn] at hy
      split at hy
      · rename_i hi
        injection hy with hy
        subst hy
        exact Classical.choose_spec (key i hi)
      · cases hy
    obtain ⟨ys, hyl, hys⟩ := hlist
    refine ⟨ys, some a, cap, by rw [hyl], by omega, hm, fun hne => ?_⟩
    have h0 : 0 < ys.length := List.length_pos_iff.2 hne
    obtain ⟨cs0, hc0, hr0⟩ := hys 0 ys[0] (List.getElem?_eq_getElem h0)
    have hl0 : 0 < cs0.length := by rw [E.len hr0]; exact hp
    have hcell := hc0 0 _ (List.getElem?_eq_getElem hl0)
    rw [Nat.zero_mul] at hcell
    have e0 : (a.add 0).add 0 = a := by simp [Addr.add]
    rw [e0] at hcell
    have hsp := World.cell?_spot hcell
    have hlt := World.block_lt_of_cell? w a hcell
    obtain ⟨b, off, spot⟩ := a
    simp only at hsp
    subst hsp
    refine ⟨b, off, rfl, hlt, fun i x hx => ?_⟩
    obtain ⟨cs', h1, h2⟩ := hys i x hx
    refine ⟨cs', fun j v hv => ?_, h2⟩
    have := h1 j v hv
    rw [add_plain, add_plain] at this
    exact this
end
section
variable {P : Program} {t e : TypeId} {α : Type} {E : Enc α} {H : Type} {enc : TypeId × Value → H} {W : World} {base b0 : Nat} {spare : Nat → Bool} {held : Bool} {r : Reach} {v : Value} {d : DataW H} {p : List MemPlace}
theorem arg_slice (ht : P.underlying t = some (.slice e)) (ho : Opens P t (encSl E)) (hv : Value.okWide P W r b0 t v) (h : DataW.Trod enc P W base spare held t v d p) :
    ∃ A c l, v = .slice A l.length c ∧ l.length ≤ c ∧ c ≤ maxLen ∧ SlAt E W (Bl W.heap.size) A l := by
  obtain ⟨A, n, c, rfl⟩ := okWide_slice ht hv
  obtain ⟨fuel, hf⟩ := h
  obtain ⟨l, A', c', he, h1, h2, h3⟩ := ho.2 _ _ _ _ _ _ _ _ _ hf
  simp [Value.cells] at he
  obtain ⟨rfl, rfl, rfl⟩ := he
  exact ⟨A, c, l, rfl, h1, h2, h3⟩
theorem arg_struct {fs : Array Field} (ht : P.underlying t = some (.struct fs)) (ho : Opens P t E) (hv : Value.okWide P W r b0 t v) (h : DataW.Trod enc P W base spare held t v d p) :
    ∃ cs y, v = .agg cs ∧ E.rd W (Bl W.heap.size) cs.toList y := by
  obtain ⟨cs, rfl, _⟩ := okWide_struct ht hv
  obtain ⟨fuel, hf⟩ := h
  obtain ⟨y, hy⟩ := ho.2 _ _ _ _ _ _ _ _ _ hf
  exact ⟨cs, y, rfl, hy⟩
theorem arg_int {k : IntKind} (ht : P.underlying t = some (.int k)) (hv : Value.okWide P W r b0 t v) (h : DataW.Trod enc P W base spare held t v d p) : ∃ n, v = .int k n ∧ (Lit.int k n).wf = true := by
  obtain ⟨n, rfl, _, _, hw⟩ := open_int ht hv h
  exact ⟨n, rfl, hw⟩
/-- arguments read behind the call as they read before -/
theorem trodAll_stays {W' : World} {sp : Nat → Bool} (hl : laidOutB P = true) (hb : Below W.heap.size W W') :
    ∀ {ts : List TypeId} {vs : List Value} {ds : List (DataW H)} {ps : List MemPlace}, (∀ t ∈ ts, P.readableRec t = true ∧ t < P.types.size) → (∀ x ∈ ps, x.block < W.heap.size ∧ sp x.block = true) →
      DataW.TrodAll enc P W 0 (fun _ => true) true ts vs ds ps → DataW.TrodAll enc P W' 0 sp true ts vs ds ps
  | [], _, _, _, _, _, h => by
    obtain ⟨rfl, rfl, rfl⟩ := trodAll_nil h
    exact trodAll_mk0
  | t :: _, _, _, _, hr, hx, h => by
    obtain ⟨v, vs, d, ds, p, q, rfl, rfl, rfl, h1, h2⟩ := trodAll_cons h
    refine trodAll_cons_mk (WideElems.Trod_stays hl (hr t (by simp)).1 (hr t (by simp)).2 h1 (fun x hxp => hb.same (hx x (by simp [hxp])).1) (fun x hxp => (hx x (by simp [hxp])).2)) ?_
    exact trodAll_stays hl hb (fun t ht => hr t (by simp [ht])) (fun x hxq => hx x (by simp [hxq])) h2
end
theorem trodAll_len {H : Type} {enc : TypeId × Value → H} {P : Program} {w : World} {base : Nat} {spare : Nat → Bool} {held : Bool} : ∀ {ts : List TypeId} {vs : List Value} {ds : List (DataW H)} {ps : List MemPlace}, DataW.TrodAll enc P w base spare held ts vs ds ps → ds.length = ts.length
  | [], _, _, _, h => by
    obtain ⟨rfl, rfl, _⟩ := trodAll_nil h
    rfl
  | _ :: _, _, _, _, h => by
    obtain ⟨v, vs1, d, ds1, a, b, rfl, rfl, rfl, _, h2⟩ := trodAll_cons h
    simp [trodAll_len h2]
/-- what a law's call does -/
def LawRet (w : World) (e : Ending) (w' : World) : Prop := e = .returned (.bool true) ∧ Below w.heap.size w w'
section
variable {H : Type} {enc : TypeId × Value → H} {P : Program}
theorem post_of_below {f : Func} {s : ChangeSpec} {apart fresh handsOn again : Bool} {W W' : World} {args : Array Value} {v : Value} {ds gs : List (DataW H)} {before pa pv : List MemPlace}
    (hW : DataW.Whole enc P f.params.toList s.vars apart W args.toList ds gs before)
    (hres : ∀ (b : Nat) (sp : Nat → Bool) (hd : Bool), DataW.TrodAll enc P W' b sp hd f.resultTypes.toList (v.resultList f.resultTypes.size) (s.fn H (ds ++ gs)).results [])
    (hargs : ∀ sp : Nat → Bool, (∀ p ∈ before, sp p.block = true) → DataW.TrodAll enc P W' 0 sp true f.params.toList args.toList (s.fn H (ds ++ gs)).args pa)
    (hvars : ∀ sp : Nat → Bool, (∀ p ∈ before, sp p.block = true) → DataW.TrodVars enc P W' sp s.vars (s.fn H (ds ++ gs)).vars pv)
    (hps : before = pa ++ pv) (hb : Below W.heap.size W W')
    (hok : ∀ (j : Nat) (t : TypeId) (r : Value), f.resultTypes[j]? = some t → (v.resultList f.resultTypes.size)[j]? = some r → Value.okWide P W' .any 0 t r) :
    s.post enc P f apart fresh handsOn again W args v W' := by
  have hlt : ∀ p ∈ before, p.block < W.heap.size := fun p hp => hW.lt p hp
  have hold : ∀ p ∈ before, (fun b => decide (b < W.heap.size)) p.block = true := fun p hp => by simpa using hlt p hp
  refine ⟨ds, gs, before, [], pa, pv, hW, hres _ _ _, hargs _ hold, hvars _ hold, World.keptBut_mono (fun p hp => ⟨hp, ?_⟩) (hb.frame (· ∈ before)), fun _ => ?_⟩
  · rw [hps, List.mem_append] at hp
    exact Or.inr hp
  · obtain ⟨_, _, _, _, _, hz, hn⟩ := hW
    refine ⟨hok, _, _, ([] ++ pa) ++ pv, ⟨[] ++ pa, pv, trodAll_append (hargs _ (fun _ _ => rfl)) (hres _ _ _), hvars _ (fun _ _ => rfl), rfl, ?_, ?_⟩, ?_⟩
    · intro b off hp
      have hin : MemPlace.cell b off ∈ before := by rw [hps]; simpa using hp
      rw [hb.frozen (hlt _ hin)]
      exact hz b off hin
    · intro ha
      have := hn ha
      rw [hps] at this
      simpa using this
    · intro p hp _
      rw [hps]
      simpa using hp
end
/-- THE STEP FROM A LAW'S CALL TO ITS ROW -/
theorem law_lifted {C : Checked} {f : FuncId} {fn : Func} {s : ChangeSpec} {conds : List PathCond} {apart fresh handsOn again : Bool} {tb : TypeId} {os : Os} {H : Type} {enc : TypeId × Value → H}
    (own : ownKnob C.prog.godebug = none) (started : os.Started) (noInit : C.prog.inits.idxOf? f = none) (hfn : C.prog.funcs[f]? = some fn) (hl : laidOutB C.prog = true)
    (hv : s.vars = []) (hspec : ∀ ds : List (DataW H), ds.length = fn.params.size → s.fn H ds = { results := [.lit (.bool true)], args := ds })
    (hread : ∀ t ∈ fn.params.toList, C.prog.readableRec t = true ∧ t < C.prog.types.size) (hrt : fn.resultTypes = #[tb]) (htb : C.prog.underlying tb = some .bool)
    (witness : ∃ (w : World) (tape : Tape) (i : Input), w.os = os ∧ (w.forCall tape i).Shaped C.prog ∧ i.vars = [] ∧ Input.okWide C.prog (w.forCall tape i) .any w.heap.size f i ∧
      s.pre6 enc C.prog fn conds apart (w.forCall tape i).memory i.args ∧ ({} : Assume).holds C.prog (lone (Frame.enter C.prog f i.args .normal) [] (w.forCall tape i)))
    (hcalls : ∀ (W : World) (args : Array Value) (ds : List (DataW H)) (p : List MemPlace) (base : Nat), (∀ (j : Nat) t v, fn.params[j]? = some t → args[j]? = some v → Value.okWide C.prog W .any base t v) →
      DataW.TrodAll enc C.prog W 0 (fun _ => true) true fn.params.toList args.toList ds p → Calls C.prog f args W (LawRet W)) :
    ReturnsInHanded {} C os f .any (s.pre6 enc C.prog fn conds apart) (s.post enc C.prog fn apart fresh handsOn again) := by
  refine returnsInHanded_of_change (C := C) own started noInit hfn witness ?_
  intro W base args ds gs before hval hW _ _
  have hW' := hW
  obtain ⟨p, q, hA, hV, rfl, hfz, hnd⟩ := hW
  rw [hv] at hV
  obtain ⟨rfl, rfl⟩ := trodVars_none hV
  have hlen : ds.length = fn.params.size := by have := trodAll_len hA; simpa using this
  refine (hcalls W args ds p base hval hA).mono fun e W' ⟨he, hb⟩ => ?_
  subst he
  refine ⟨_, rfl, post_of_below (pa := p) (pv := []) hW' (fun _ _ _ => ?_) (fun sp hsp => ?_) (fun _ _ => ?_) rfl hb ?_⟩
  · rw [List.append_nil, hspec ds hlen, hrt]
    exact trodAll_mk1 (shut_bool htb _)
  · rw [List.append_nil, hspec ds hlen]
    refine trodAll_stays hl hb hread (fun x hx => ⟨?_, hsp x (by simp [hx])⟩) hA
    exact hW'.lt x (by simp [hx])
  · rw [List.append_nil, hspec ds hlen, hv]
    exact rfl
  · exact ok_one hrt rfl (okWide_bool_mk htb _)
end Go.Proofs.YtnkmklnlaepdeaaGreat

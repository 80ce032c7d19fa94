/-
  For every size and all events the law CloneKeeps returns true: the image of a clone is that of its snapshot, changed by exactly the writes to it, whatever else happens, and the current image is changed by replication alone. No condition.
-/
import Derived.BigQuiet
import Derived.Deep.DeepCutAuto
import Derived.Test.YtgndgkjefgjamaaGreatY01
import Derived.Test.YtgndgkjefgjamaaGreatY02
import Derived.Test.YtgndgkjefgjamaaGreatY03
import Derived.Test.YtgndgkjefgjamaaGreatY04
import Derived.Test.YtgndgkjefgjamaaGreatY05
import Derived.Test.YtgndgkjefgjamaaGreatY06
import Derived.Test.YtgndgkjefgjamaaGreatY07
import Derived.Test.YtgndgkjefgjamaaGreatY08
import Derived.Test.YtgndgkjefgjamaaGreatY09
import Derived.Test.YtgndgkjefgjamaaGreatY10
import Derived.Test.YtgndgkjefgjamaaGreatY11
import Derived.Test.YtgndgkjefgjamaaGreatY12
import Derived.Test.YtgndgkjefgjamaaGreatY13
import Derived.Test.YtgndgkjefgjamaaGreatY14
import Derived.Test.YtgndgkjefgjamaaGreatY15
import Derived.Test.YtgndgkjefgjamaaGreatY16
import Derived.Test.YtgndgkjefgjamaaGreatY17
import Derived.Test.YtgndgkjefgjamaaGreatY18
import Derived.Test.YtgndgkjefgjamaaGreatY19
import Derived.Test.YtgndgkjefgjamaaGreatY20
import Derived.Test.YtgndgkjefgjamaaGreatY22
set_option linter.unusedVariables false
set_option linter.unusedSimpArgs false
set_option linter.unusedSectionVars false
set_option linter.unnecessarySimpa false
namespace Go.Proofs.YtgndgkjefgjamaaGreat.cloneKeeps
open Go.ChangeShapes Go.WideShapes Go.ChangeAt Go.RowKit Go.Proofs.YtgndgkjefgjamaaGreat

set_option maxRecDepth 100000 in
theorem lifted (os:Os) (started:os.Started) (H:Type) (enc:TypeId × Value→H) :
    ReturnsInHanded {} Tryz.checked os 7 .any (Rows.cloneKeepsSpec.pre6 enc Tryz.prog Tryz.f7 Rows.cloneKeepsRow.domain false) (Rows.cloneKeepsSpec.post enc Tryz.prog Tryz.f7 false true false false):=by
  refine law_lifted (C:=Tryz.checked) (tb:=4) own started (by kernel_rfl) Tryz.func7 laidOut rfl (fun ds h => ?_) ?_ (by kernel_rfl) Tryz.underlying4 (ChangeSpec.witness6 (enc:=enc) (C:=Tryz.checked) false ⟨#[],#[.int .u8 0,.slice none 0 0],[]⟩ 8 (by kernel_rfl) (by kernel_rfl) (by kernel_rfl) (by kernel_rfl)) ?_
  · have h':ds.length=2:=h.trans (by kernel_rfl)
    match ds,h' with
    | [_,_],_=>rfl
  · intro t ht
    have ht':t∈Tryz.f7.params.toList:=ht
    rw [Tryz.params7] at ht'
    simp at ht'
    rcases ht' with rfl | rfl <;> exact ⟨by kernel_rfl,of_decide_eq_true (by kernel_rfl)⟩
  intro W args ds p base hval0 hA0
  have hA:DataW.TrodAll enc Tryz.prog W 0 (fun _=>true) true Tryz.f7.params.toList args.toList ds p:=hA0
  have hval:∀ (j:Nat) t v,Tryz.f7.params[j]? = some t→args[j]? = some v→Value.okWide Tryz.prog W .any base t v:=hval0
  rw [Tryz.params7] at hA hval
  obtain ⟨v0,vs0,d0,ds0,p0,q0,hargs,rfl,rfl,h0,r0⟩:=trodAll_cons hA
  obtain ⟨v1,vs1,d1,ds1,p1,q1,rfl,rfl,rfl,h1,r1⟩:=trodAll_cons r0
  obtain ⟨rfl,rfl,rfl⟩:=trodAll_nil r1
  obtain rfl:args = #[v0,v1]:=by cases args; simp_all
  clear hA0 hval0
  obtain ⟨na,rfl,hna⟩:=arg_int Tryz.underlying5 (hval 0 _ _ rfl rfl) h0
  obtain ⟨A,c,l,rfl,k1,k2,k3⟩:=arg_slice Tryz.underlying73 op_evs (hval 1 _ _ rfl rfl) h1
  have hq:0≤na∧na < 256:=by simp [Lit.wf,IntKind.min,IntKind.max,IntKind.signed,IntKind.bits] at hna; omega
  exact keeps37_any A c l.length na l W rfl k3 (by unfold maxLen at k2; omega) hq
theorem over:Rows.cloneKeepsRow.holds Tryz.pinned (OpenSpec.ofChange Rows.cloneKeepsSpec) :=
  OpenClaim.holds_of_wide 7 Tryz.f7 rfl rfl rfl rfl rfl rfl rfl ⟨rfl,rfl,rfl,rfl,rfl⟩ rfl rfl rfl rfl rfl (by kernel_rfl) Tryz.func7 (by kernel_rfl)
    (of_decide_eq_true (by kernel_rfl)) (by unfold Func.isWrapper; first | (rw [if_pos (by decide +kernel)]; kernel_rfl) | (rw [if_neg (by decide +kernel)]; exact ⟨rfl,rfl⟩))
    (fun os started H enc _=>lifted os started H enc)
theorem proved:Rows.CloneKeepsSaid:=over
#print axioms proved
end Go.Proofs.YtgndgkjefgjamaaGreat.cloneKeeps

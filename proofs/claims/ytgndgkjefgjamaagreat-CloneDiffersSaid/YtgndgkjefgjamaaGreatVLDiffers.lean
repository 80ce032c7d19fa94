/-
  For every size, all events and every choice of a clone the law CloneDiffers returns true: a clone differs from its snapshot only in the sectors that Changed returns. No condition.
-/
import Derived.BigQuiet
import Derived.Deep.DeepCutAuto
import Derived.Test.YtgndgkjefgjamaaGreatV01
import Derived.Test.YtgndgkjefgjamaaGreatV02
import Derived.Test.YtgndgkjefgjamaaGreatV03
import Derived.Test.YtgndgkjefgjamaaGreatV04
import Derived.Test.YtgndgkjefgjamaaGreatV05
import Derived.Test.YtgndgkjefgjamaaGreatV06
import Derived.Test.YtgndgkjefgjamaaGreatV07
import Derived.Test.YtgndgkjefgjamaaGreatV08
import Derived.Test.YtgndgkjefgjamaaGreatV09
import Derived.Test.YtgndgkjefgjamaaGreatV10
import Derived.Test.YtgndgkjefgjamaaGreatV11
import Derived.Test.YtgndgkjefgjamaaGreatV12
import Derived.Test.YtgndgkjefgjamaaGreatV13
import Derived.Test.YtgndgkjefgjamaaGreatV14
import Derived.Test.YtgndgkjefgjamaaGreatV15
import Derived.Test.YtgndgkjefgjamaaGreatV16
import Derived.Test.YtgndgkjefgjamaaGreatV17
import Derived.Test.YtgndgkjefgjamaaGreatV18
import Derived.Test.YtgndgkjefgjamaaGreatV19
import Derived.Test.YtgndgkjefgjamaaGreatV20
set_option linter.unusedVariables false
set_option linter.unusedSimpArgs false
set_option linter.unusedSectionVars false
set_option linter.unnecessarySimpa false
namespace Go.Proofs.YtgndgkjefgjamaaGreat.cloneDiffers
open Go.ChangeShapes Go.WideShapes Go.ChangeAt Go.RowKit Go.Proofs.YtgndgkjefgjamaaGreat

set_option maxRecDepth 100000 in
theorem lifted (os:Os) (started:os.Started) (H:Type) (enc:TypeId × Value→H) :
  ReturnsInHanded {} Tryz.checked os 9 .any (Rows.cloneDiffersSpec.pre6 enc Tryz.prog Tryz.f9 Rows.cloneDiffersRow.domain false) (Rows.cloneDiffersSpec.post enc Tryz.prog Tryz.f9 false true false false):=by
 refine law_lifted (C:=Tryz.checked) (tb:=4) own started (by kernel_rfl) Tryz.func9 laidOut rfl (fun ds h => ?_) ?_ (by kernel_rfl) Tryz.underlying4 (ChangeSpec.witness6 (enc:=enc) (C:=Tryz.checked) false ⟨#[],#[.int .u8 0,.slice none 0 0,.int .u8 0],[]⟩ 8 (by kernel_rfl) (by kernel_rfl) (by kernel_rfl) (by kernel_rfl)) ?_
 ·have h':ds.length=3:=h.trans (by kernel_rfl)
  match ds,h' with
  | [_,_,_],_=>rfl
 ·intro t ht
  have ht':t∈Tryz.f9.params.toList:=ht
  rw [Tryz.params9] at ht'
  simp at ht'
  rcases ht' with rfl | rfl | rfl <;> exact⟨by kernel_rfl,of_decide_eq_true (by kernel_rfl)⟩
 intro W args ds p base hval0 hA0
 have hA:DataW.TrodAll enc Tryz.prog W 0 (fun _=>true) true Tryz.f9.params.toList args.toList ds p:=hA0
 have hval:∀ (j:Nat) t v,Tryz.f9.params[j]? = some t→args[j]? = some v→Value.okWide Tryz.prog W .any base t v:=hval0
 rw [Tryz.params9] at hA hval
 obtain⟨v0,vs0,d0,ds0,p0,q0,hargs,rfl,rfl,h0,r0⟩:=trodAll_cons hA
 obtain⟨v1,vs1,d1,ds1,p1,q1,rfl,rfl,rfl,h1,r1⟩:=trodAll_cons r0
 obtain⟨v2,vs2,d2,ds2,p2,q2,rfl,rfl,rfl,h2,r2⟩:=trodAll_cons r1
 obtain⟨rfl,rfl,rfl⟩:=trodAll_nil r2
 obtain rfl:args = #[v0,v1,v2]:=by cases args;simp_all
 clear hA0 hval0
 obtain⟨na,rfl,hna⟩:=arg_int Tryz.underlying5 (hval 0 _ _ rfl rfl) h0
 obtain⟨A,c,l,rfl,k1,k2,k3⟩:=arg_slice Tryz.underlying73 op_evs (hval 1 _ _ rfl rfl) h1
 obtain⟨nb,rfl,hnb⟩:=arg_int Tryz.underlying5 (hval 2 _ _ rfl rfl) h2
 have hqa:0≤na∧na<256:=by simp [Lit.wf,IntKind.min,IntKind.max,IntKind.signed,IntKind.bits] at hna;omega
 have hqb:0≤nb∧nb<256:=by simp [Lit.wf,IntKind.min,IntKind.max,IntKind.signed,IntKind.bits] at hnb;omega
 exact differs37_any A c l.length na l W rfl k3 (by unfold maxLen at k2;omega) hqa nb hqb
theorem over:Rows.cloneDiffersRow.holds Tryz.pinned (OpenSpec.ofChange Rows.cloneDiffersSpec) :=
 OpenClaim.holds_of_wide 9 Tryz.f9 rfl rfl rfl rfl rfl rfl rfl ⟨rfl,rfl,rfl,rfl,rfl⟩ rfl rfl rfl rfl rfl (by kernel_rfl) Tryz.func9 (by kernel_rfl)
  (of_decide_eq_true (by kernel_rfl)) (by unfold Func.isWrapper;first | (rw [if_pos (by decide +kernel)];kernel_rfl) | (rw [if_neg (by decide +kernel)];exact⟨rfl,rfl⟩))
  (fun os started H enc _=>lifted os started H enc)
theorem proved:Rows.CloneDiffersSaid:=over
#print axioms proved
end Go.Proofs.YtgndgkjefgjamaaGreat.cloneDiffers

/-
  slices.AppendSeq and slices.Collect over an iterator of extents.; Complement, and the extents of a list of writes.; clone.Changed: the walk.; slices.Delete over clones; clone.Delete: the walks.
-/
import Derived.Test.YtgndgkjefgjamaaGreatProg
import Derived.Sort.QuietIn
import Derived.BigQuiet
import Derived.Test.YtgndgkjefgjamaaGreatV01
import Derived.Test.YtgndgkjefgjamaaGreatV02
import Derived.Test.YtgndgkjefgjamaaGreatV03
import Derived.Test.YtgndgkjefgjamaaGreatV04
import Derived.Test.YtgndgkjefgjamaaGreatV05
import Derived.Test.YtgndgkjefgjamaaGreatV06
import Derived.Test.YtgndgkjefgjamaaGreatV07
import Derived.Test.YtgndgkjefgjamaaGreatV08
import Derived.Test.YtgndgkjefgjamaaGreatV09
import Derived.Test.YtgndgkjefgjamaaGreatV10
import Derived.Test.YtgndgkjefgjamaaGreatV11
import Derived.Test.YtgndgkjefgjamaaGreatV12
set_option linter.unusedVariables false
set_option linter.unusedSimpArgs false
set_option linter.unusedSectionVars false
set_option linter.unnecessarySimpa false
namespace Go.Proofs.YtgndgkjefgjamaaGreat
open Go.RowKit Go.Shelf
attribute [local go_sem] Oper.semAt_some

abbrev ExtI:={ e:Ext // I64 e.1∧I64 e.2 }
def extArgs (x:ExtI):Array Value := #[.agg #[.int .i64 x.1.1,.int .i64 x.1.2]]
theorem tyExtsI:SliceTy Tryz.prog 93 104 2 16:=sliceTy_mk (z := .agg #[.int .i64 0,.int .i64 0]) Tryz.underlying93 (by kernel_rfl) rfl (by decide)
def SeqExt (S:List ExtI→Prop) (w:World) (e:Ending) (W':World):Prop:=∃ (ys:List ExtI) (A:Option Addr) (c:Nat),S ys∧e = .returned (.slice A ys.length c)∧ys.length≤c∧c≤maxLen∧SlAt encExt W' (Nw w.heap.size W'.heap.size) A (ys.map (·.1))∧Below w.heap.size w W'
set_option maxRecDepth 100000 in
set_option maxHeartbeats 2000000 in
theorem appendSeqExt_in (n:Nat) (hn:3≤n) (own:TypeId→Prop) (ho1:¬ own 93) (ho2:¬ own 104) (gf:Nat) (lb:Array Value) (eg:∀ args w,(callFunc gf args).run Tryz.prog w = .ok (.enter gf args) w) (S Sp:List ExtI→Prop) (N:Nat) (hN:N≤1000000) (w:World)
  (hseq:SeqStopsT own Fence.wide (n - 1) Tryz.prog gf lb extArgs (KpT own w.heap.size) S Sp N w) (hS:∀ ys,S ys→ys.length≤N) :
  CallsIn Fence.wide n Tryz.prog 174 #[.slice none 0 0,.func (.func gf) #[] lb] w (SeqExt S w):=by
 have h1:1≤n:=by omega
 have HS:=Lib.hid hS;clear hS
 refine callsIn_of_wp_marks Tryz.func174 rfl trivial ?_ rfl
 simp only [Tryz.ntmps174,List.size_toArray,List.length_cons,List.length_nil,Nat.reduceAdd,Nat.reduceSub,Array.replicate_succ,Array.replicate_zero,List.push_toArray,List.append_toArray,List.nil_append,List.cons_append]
 gi_wp2
 have bS:=Boxed.new w 93 (.slice none 0 0)
 have hB0:Below w.heap.size w (w.alloc (.cells #[.slice none 0 0] 93)):=ext_alloc (Below.refl _ _)
 refine wpIn_rangeFunc_ownT rfl h1 (gf:=gf) (lb:=lb) (own:=own) rfl trivial eg hseq (fun h k=>KpT.trans h k) (fun W l o o' hl h ho _=>KpT.putObj W l o o' (by simp at hl;omega) h ho (by have:=(Array.getElem?_eq_some_iff.1 h).1;simp at hl;omega)) hB0 (fun _=>rfl)
  (fun pre W=>BoxOwn encExt w.heap.size w.heap.size 93 104 (pre.map (·.1)) W∧Below w.heap.size w W)
  (fun _ _ _=>False)
  (OwnT.and (boxOwn_ownT (fun pre:List ExtI=>pre.map (·.1)) ho1 ho2) (ownT_below (Nat.le_refl _) (by simp)))
  (fun _ _ _ _ _ hs _ _=>hs)
  ⟨⟨_,bS,Own.nil_⟩,hB0⟩
  (fun x a' W=>∃ Bx,w.heap.size<Bx∧W.heap[Bx]? = some (.cells #[.int .i64 x.1.1,.int .i64 x.1.2] 104 (0,0))∧a'={ tmps := #[.slice none 0 0,.func (.func gf) #[] lb,.pointer (some ⟨w.heap.size,0,none⟩),undef,.slice none 0 0,.pointer (some ⟨Bx,0,none⟩),.func (.func gf) #[] lb,.agg #[.int .i64 x.1.1,.int .i64 x.1.2],undef,undef,undef,undef,undef],defers:=[] }) ?hAx ?assign ?body ?done ?stop
 case hAx =>
  rintro x a' s X Y row ⟨Bx,hb,hh,he⟩ hg hr
  refine⟨Bx,hb,(hg.block Bx (Array.getElem?_eq_some_iff.1 hh).1 (fun e => ?_)).trans hh,he⟩
  obtain⟨_,o',h1,h2⟩:=hr Bx e.symm
  rw [hh] at h1;cases h1;cases h2
 case assign =>
  rintro l pre x W K ⟨hi,hB⟩ hK
  unfold extArgs
  gi_wp2
  obtain⟨v,hv,hrow⟩:=hi
  refine hK _ _ ((KeepsOthers.alloc _ _).from _) (KpT.alloc _ _ hB.size) ⟨BoxOwn.alloc ⟨v,hv,hrow⟩ _,ext_alloc hB⟩ ⟨W.heap.size,hv.lt,heap_alloc_new _ _,rfl⟩
 case body =>
  rintro l pre x a' W _ _ ⟨⟨v,hv,hrow⟩,hB⟩ ⟨Bx,hBx,hbx,rfl⟩ hlen
  have hc:=hv.cell
  have hsz:=hB.size
  obtain⟨t0,tf⟩:W.cell? ⟨Bx,0,none⟩=some (.int .i64 x.1.1)∧W.cell? ⟨Bx,1,none⟩=some (.int .i64 x.1.2):=⟨cell_of_row W Bx 0 _ _ _ hbx,cell_of_row W Bx 1 _ _ _ hbx⟩
  have hpl:(pre.map (·.1)).length=pre.length:=List.length_map ..
  have HPL:=Lib.hid hpl;clear hpl
  have HO1:=Lib.hid (hrow.alloc (fun _ h=>h.elim) (.cells #[.int .i64 x.1.1,.int .i64 x.1.2] 104))
  have HRD:Hid (encExt.rd (W.alloc (.cells #[.int .i64 x.1.1,.int .i64 x.1.2] 104)) (fun _=>False) [.int .i64 x.1.1,.int .i64 x.1.2] x.1):=ext_mk x.2.1 x.2.2
  gi_wp2_with (gi_at_builtin;refine Hid.out ?_)
  change wpListIn _ _ _ _ _ _ _ _
  refine wpListIn_app1 (E:=encExt) tyExtsI rfl _ _ rfl rfl HO1.out x.1 _ rfl HRD.out (heap_alloc_new _ _) (fun _ h=>h.elim) (by simp;omega) (by rw [HPL.out];unfold maxLen;omega) (by rw [HPL.out];omega) ?_
  intro A' c' w5 hown5 hg5 hat5
  obtain⟨hv5,hbo5,hk5,hkp5⟩:=BoxOwn.appended hv (by decide) ho1 ho2 hrow hsz (Nat.le_refl _) hown5 hg5
  have hc5:=hv5.cell
  have hf5:=hv5.frozen
  simp only [List.length_map] at hbo5 hk5 hkp5
  have HB5:=Lib.hid hbo5;have HK5:=Lib.hid hk5;have HKP5:=Lib.hid hkp5
  clear hown5 hg5 hat5 hbo5 hk5 hkp5
  gi_wp2
  exact⟨HK5.out.from _,HKP5.out,by rw [List.map_append];exact HB5.out,hB.trans HKP5.out.1⟩
 case done =>
  rintro D ys W hD hS ⟨⟨v,hv,hrow⟩,hB⟩ hK
  obtain⟨A,c,rfl⟩:=hrow.form
  have hc:=hv.cell
  simp only [List.length_map] at hc
  have hrow2:Own encExt (W.putObj D (.deferred none)) w.heap.size 104 (fun _=>False) (.slice A (ys.map (·.1)).length c) (ys.map (·.1)):=hrow.blk (fun g hg=>by
   rcases hg with hg | hg
   ·exact hg.elim
   ·obtain⟨_,cs,fr,hh⟩:=hrow.cellsOf g hg
    exact World.putObj_heap_other (fun e=>by subst e;rw [hK] at hh;cases hh))
  have HR:=Lib.hid hrow2;clear hrow2 hrow hv
  gi_wp2
  refine⟨by simp,.inl ⟨_,_,rfl,run_takeDeferred hK, ?_⟩⟩
  obtain⟨A',c',he,r1,r2,r3⟩:=HR.out.rd (fun _ h=>h.elim)
  simp only [List.cons.injEq,Value.slice.injEq,and_true] at he
  obtain⟨rfl,_,rfl⟩:=he
  simp only [List.length_map] at r1
  simp at hD
  exact⟨_,results_tmp rfl _ _ _,ys,A,c,hS,rfl,r1,r2,r3,hB.grown (grownBy_putObj' W D (.deferred none)) hB.size (fun k e=>by cases e;omega)⟩
 case stop =>
  rintro D c pre W _ _ h _
  exact h.elim
set_option maxHeartbeats 1000000 in
theorem collectExt_in (n:Nat) (hn:4≤n) (own:TypeId→Prop) (ho1:¬ own 93) (ho2:¬ own 104) (gf:Nat) (lb:Array Value) (eg:∀ args w,(callFunc gf args).run Tryz.prog w = .ok (.enter gf args) w) (S Sp:List ExtI→Prop) (N:Nat) (hN:N≤1000000) (w:World)
  (hseq:SeqStopsT own Fence.wide (n - 1 - 1) Tryz.prog gf lb extArgs (KpT own w.heap.size) S Sp N w) (hS:∀ ys,S ys→ys.length≤N) :
  CallsIn Fence.wide n Tryz.prog 157 #[.func (.func gf) #[] lb] w (SeqExt S w):=by
 have HC:=Lib.hid (appendSeqExt_in (n - 1) (by omega) own ho1 ho2 gf lb eg S Sp N hN w hseq hS)
 clear hseq hS
 refine callsIn_of_wp Tryz.func157 rfl trivial ?_ rfl
 simp only [Tryz.ntmps157,List.size_toArray,List.length_cons,List.length_nil,Nat.reduceAdd,Nat.reduceSub,Array.replicate_succ,Array.replicate_zero,List.push_toArray,List.append_toArray,List.nil_append,List.cons_append]
 gi_wp2_with fail
 refine⟨trivial,fun _=>by omega,CallsIn.mono HC.out ?_⟩
 rintro e w1 ⟨ys,A,c,k1,rfl,k2,k3,k4,k5⟩
 have HK4:=Lib.hid k4;clear k4
 gi_wp2
 go_ret
 exact⟨ys,A,c,k1,rfl,k2,k3,HK4.out,k5⟩
end Go.Proofs.YtgndgkjefgjamaaGreat

namespace Go.Proofs.YtgndgkjefgjamaaGreat
open Go.RowKit Go.Shelf Go.Lib Go.Sort

def encEnd:Enc End:=encPair encInt (encPair encInt encInt)
def endCells (x:End):List Value:=[.int .i64 x.1,.int .i64 x.2.1,.int .i64 x.2.2]
theorem end_cs {w:World} {S:Nat→Prop} {cs:List Value} {x:End} (h:encEnd.rd w S cs x):cs=endCells x∧I64 x.1∧I64 x.2.1∧I64 x.2.2:=by
 obtain⟨c1,c2,rfl,⟨rfl,h1⟩,⟨c3,c4,rfl,⟨rfl,h2⟩,⟨rfl,h3⟩⟩⟩:=h
 exact⟨rfl,h1,h2,h3⟩
theorem end_mk {w:World} {S:Nat→Prop} {x:End} (h1:I64 x.1) (h2:I64 x.2.1) (h3:I64 x.2.2):encEnd.rd w S (endCells x) x:=⟨[_],[_,_],rfl,⟨rfl,h1⟩,⟨[_],[_],rfl,⟨rfl,h2⟩,⟨rfl,h3⟩⟩⟩
theorem SlAt.end_ {w:World} {S:Nat→Prop} {A:Option Addr} {l:List End} {k:Nat} (h:SlAt encEnd w S A l) (hk:k<l.length) :
  ∃ b off,A=some ⟨b,off,none⟩∧S b∧w.cell? ⟨b,off+k * 3,none⟩=some (.int .i64 l[k].1)∧w.cell? ⟨b,off+k * 3+1,none⟩=some (.int .i64 l[k].2.1)∧w.cell? ⟨b,off+k * 3+2,none⟩=some (.int .i64 l[k].2.2)∧I64 l[k].1∧I64 l[k].2.1∧I64 l[k].2.2:=by
 obtain⟨b,off,cs,e,hb,hs,hr⟩:=h.at_ hk
 obtain⟨rfl,h1,h2,h3⟩:=end_cs hr
 exact⟨b,off,e,hb,hs 0 _ rfl,hs 1 _ rfl,hs 2 _ rfl,h1,h2,h3⟩
theorem Own.cells_ {α:Type} {E:Enc α} {w:World} {base:Nat} {e:TypeId} {S:Nat→Prop} {v:Value} {l:List α} (h:Own E w base e S v l):∀ g,v.ownBlock=some g→∃ cs fr,w.heap[g]? = some (.cells cs e fr):=by
 obtain⟨css,h1,h2,h3⟩:=h
 intro g hg
 rcases h1.2 with ⟨rfl,_⟩ | ⟨g',cap,cur,rfl,hb,hh,_⟩
 ·simp [Value.ownBlock] at hg
 ·have:g'=g:=by simpa [Value.ownBlock] using hg
  subst this
  exact⟨_,_,hh⟩
def cfEnd (x y:End):Int:=cmpI x.1 y.1
theorem cfEnd_lt (x y:End):ltOf cfEnd x y=decide (x.1<y.1):=by
 unfold ltOf cfEnd cmpI
 rw [decide_eq_decide]
 split <;> (try split) <;> omega
theorem swoEnd:SWO (ltOf cfEnd) where
 irrefl x:=by rw [cfEnd_lt];simp
 trans x y z h1 h2:=by rw [cfEnd_lt] at *;simp at *;omega
 ntrans x y z h1 h2:=by rw [cfEnd_lt] at *;simp at *;omega
theorem ends1_grow (p q:End) (W:World) :
  Calls Tryz.prog 192 #[.agg #[.int .i64 p.1,.int .i64 p.2.1,.int .i64 p.2.2],.agg #[.int .i64 q.1,.int .i64 q.2.1,.int .i64 q.2.2]] W fun e w'=>e = .returned (.int .i64 (cfEnd p q))∧∃ n os',w'=grow (W.drewN n) os':=by
 obtain⟨a,b,c⟩:=p
 obtain⟨a',b',c'⟩:=q
 go_enter Tryz.func192,Tryz.ntmps192
 go_wp2_with fail
 refine (compare_any a a' _).mono ?_
 rintro e w' ⟨rfl,rfl⟩
 go_wp2
 go_ret
 exact⟨ret_int rfl,0,_,by rw [alloc_eq_grow,alloc_eq_grow,grow_grow];rfl⟩
theorem cmpLaysEnd (blk off size:Nat) (w:World):CmpLays Tryz.prog 192 #[] endCells 3 cfEnd blk off size w:=fun _ _ _ _ x y=>ends1_grow x y _
theorem get_flat3 (ps:List End) (i:Nat) (hi:i<ps.length):(ps.toArray)[i]! = ps[i]:=by simp [hi]
theorem heap_sortK3 {w:World} {g n:Nat} {os:Array Obj} (d:Array End):w.grownBy (sortWorldK endCells 3 w g 0 n d os) (some g):=by
 refine⟨rfl,rfl,rfl,by simp [sortWorldK,grow,putRowK,putRow,mapBlock,Sort.ahead],fun k hk hne => ?_⟩
 unfold sortWorldK putRowK
 rw [heap_grow_old _ _ (by simpa [putRow,mapBlock,Sort.ahead] using hk)]
 have:g≠k:=fun e=>hne (by rw [e])
 simp [putRow,mapBlock,Sort.ahead,Array.getElem?_modify,this]
theorem sortEnd_any (A:Option Addr) (base c n:Nat) (T:TypeId) (S:Nat→Prop) (ps:List End) (w:World) (hn:ps.length=n) (h:Own encEnd w base T S (.slice A n c) ps) (hl:n≤4611686018427387000) (hok:∀ p∈ps,I64 p.1∧I64 p.2.1∧I64 p.2.2) :
  Calls Tryz.prog 191 #[.slice A n c,.func (.func 192) #[] #[]] w fun e w'=>(∃ v,e = .returned v)∧∃ qs:List End,qs.length=n∧qs.Perm ps∧qs.Pairwise (fun x y=>x.1≤y.1)∧SlAt encEnd w' (fun b=>A=some ⟨b,0,none⟩) A qs∧w.grownBy w' (Value.slice A n c).ownBlock∧(∀ b off,qs≠[]→A=some ⟨b,off,none⟩→∃ cs fr,w'.heap[b]? = some (.cells cs T fr)):=by
 subst hn
 by_cases h0:ps=[]
 ·subst h0
  have hcon:=AnyF.slices_SortFunc_none { Tryz.sortEnd with } A c (.func (.func 192) #[] #[]) w
  change Calls Tryz.prog 191 _ _ _ at hcon
  refine hcon.mono fun e w' ⟨he,hw⟩=>⟨⟨_,he⟩,[],rfl,List.Perm.refl _,List.Pairwise.nil,SlAt.nil_, ?_,fun _ _ h=>absurd rfl h⟩
  rw [hw];exact World.grownBy.refl _ _
 ·have hpos:0<ps.length:=List.length_pos_iff.2 h0
  obtain⟨g,_,rfl,_,hg,_⟩:=h.elem hpos
  have eg:∀ args w,(callFunc 192 args).run Tryz.prog w = .ok (.enter 192 args) w:=enters_of Tryz.func192 (by kernel_rfl) rfl
  have hH:HoldsK endCells 3 w g 0 ps.toArray:=by
   intro t ht
   rw [size_flatK] at ht
   have ht':t<ps.length * 3:=by simpa using ht
   have hi:t / 3<ps.length:=by omega
   obtain⟨g',cs,he,_,_,_,hc,hf,hr⟩:=h.elem (i:=t / 3) hi
   injection he with he
   injection he with he
   subst he
   obtain⟨rfl,_⟩:=end_cs hr
   refine⟨?_,by simpa using hf (0+t)⟩
   rw [get_flatK _ _ _ _ ht,get_flat3 ps _ hi]
   have hm:t % 3=0∨t % 3=1∨t % 3=2:=by omega
   have e3:encEnd.size=3:=rfl
   rcases hm with hm | hm | hm
   ·have:=hc 0 _ rfl
    rw [e3,show t / 3 * 3+0=0+t from by omega] at this
    rw [hm];exact this
   ·have:=hc 1 _ rfl
    rw [e3,show t / 3 * 3+1=0+t from by omega] at this
    rw [hm];exact this
   ·have:=hc 2 _ rfl
    rw [e3,show t / 3 * 3+2=0+t from by omega] at this
    rw [hm];exact this
  have hcon:=AnyQ.slices_SortFunc Tryz.sortEnd 3 Tryz.isAgg250 Tryz.sizeOf250 endCells (fun _=>rfl) (fun x v hv=>by simp [endCells] at hv;rcases hv with rfl | rfl | rfl <;> rfl) cfEnd swoEnd 192 #[] g 0 c ps.toArray w eg (cmpLaysEnd g 0 ps.toArray.size w) hH hg (by simp;omega)
  change Calls Tryz.prog 191 _ _ _ at hcon
  rw [List.size_toArray] at hcon
  refine hcon.mono fun e w' ⟨he,d',n,os,hp,hs,hw⟩=>⟨⟨_,he⟩,d'.toList, ?_, ?_, ?_, ?_, ?_, ?_⟩
  ·have:=hp.1;simpa using this
  ·have hsz:d'.size=ps.length:=by have:=hp.1;simpa using this
   have h3:=hp.2.2
   rw [← hsz] at h3
   have e1:(d'.extract 0 d'.size)=d':=by simp
   have e2:(ps.toArray.extract 0 d'.size)=ps.toArray:=by rw [hsz];simp
   rw [e1,e2] at h3
   simpa using h3
  ·have hsz:d'.size=ps.length:=by have:=hp.1;simpa using this
   rw [List.pairwise_iff_getElem]
   intro i j hi hj hij
   have hj':j<d'.size:=by simpa using hj
   have:=hs i j (Nat.zero_le _) hij (by omega)
   rw [cfEnd_lt,getElem!_pos d' j hj',getElem!_pos d' i (by omega)] at this
   simp only [decide_eq_false_iff_not] at this
   simp only [Array.getElem_toList]
   omega
  ·subst hw
   have hsz:d'.size=ps.length:=by have:=hp.1;simpa using this
   have hperm:d'.toList.Perm ps:=by
    have h3:=hp.2.2
    rw [← hsz] at h3
    have e1:(d'.extract 0 d'.size)=d':=by simp
    have e2:(ps.toArray.extract 0 d'.size)=ps.toArray:=by rw [hsz];simp
    rw [e1,e2] at h3
    simpa using h3
   refine fun _=>⟨g,0,rfl,rfl,fun i x hx=>⟨endCells x,fun j u hu => ?_, ?_⟩⟩
   ·have hi:i<d'.size:=by have:=(List.getElem?_eq_some_iff.1 hx).1;simpa using this
    have hq:=holdsK_putRowK endCells 3 (Sort.ahead w n) g 0 ps.toArray d' (holdsK_ahead endCells 3 w n g 0 _ hH) (by simp [hsz])
    have hq2:=holdsK_grow endCells 3 _ os g 0 _ (by simpa [putRowK,putRow,mapBlock,Sort.ahead] using hg) hq
    have hj:j<3:=(List.getElem?_eq_some_iff.1 hu).1
    have:=(HoldsK.cell hq2 (i:=i) (c:=j) hi hj).1
    have e1:d'[i]! = x:=by
     rw [getElem!_pos d' i hi]
     have:=(List.getElem?_eq_some_iff.1 hx).2
     simpa using this
    rw [e1] at this
    have e2:(endCells x)[j]! = u:=by
     obtain⟨hj',hu'⟩:=List.getElem?_eq_some_iff.1 hu
     rw [getElem!_pos _ j hj'];exact hu'
    rw [e2] at this
    exact this
   ·have hm:x∈ps:=hperm.mem_iff.1 (List.mem_of_getElem? hx)
    exact end_mk (hok x hm).1 (hok x hm).2.1 (hok x hm).2.2
  ·subst hw
   exact heap_sortK3 _
  ·subst hw
   intro b off _ e
   injection e with e
   injection e with e1 e2
   subst e1
   obtain⟨cs,fr,h1⟩:=h.cells_ g rfl
   refine⟨?_,fr, ?_⟩
   rotate_left
   ·unfold sortWorldK putRowK
    rw [heap_grow_old _ _ (by simpa [putRow,mapBlock,Sort.ahead] using hg)]
    simp only [putRow,mapBlock,Sort.ahead,Array.getElem?_modify,if_true]
    show Option.map _ (w.heap[g]?)=_
    rw [h1]
    rfl
end Go.Proofs.YtgndgkjefgjamaaGreat

namespace Go.Proofs.YtgndgkjefgjamaaGreat
open Go.RowKit

theorem tyEnds:SliceTy Tryz.prog 246 250 3 24:=sliceTy_mk (z := .agg #[.int .i64 0,.int .i64 0,.int .i64 0]) Tryz.underlying246 (by kernel_rfl) rfl (by decide)
theorem within2_any (s n:Int) (w:World) (hs:I64 s) (hn:I64 n):Calls Tryz.prog 190 #[.agg #[.int .i64 s,.int .i64 n]] w fun e w'=>∃ f t q,e = .returned (.tuple #[.int .i64 f,.int .i64 t,.bool q])∧q=decide (clipF (s,n)<clipT (s,n))∧(q=true→f=clipF (s,n)∧t=clipT (s,n))∧Below w.heap.size w w':=by
 refine (within_any s n w hs hn).mono fun e w' h => ?_
 obtain⟨f,t,q,he,h1,h2,h3,h4,h5,h6⟩:=h
 refine⟨f,t,q,he, ?_, ?_,h6⟩
 ·cases q with
  | true =>
    have hft:=h1.1 rfl
    have a1:=(h4 rfl f).1 ⟨Int.le_refl _,hft⟩
    simp only at a1
    rw [eq_comm,decide_eq_true_eq]
    unfold clipF clipT
    simp only
    split <;> split <;> omega
  | false =>
    rw [eq_comm,decide_eq_false_iff_not]
    intro hc
    have:=h5 rfl (clipF (s,n))
    unfold clipF clipT at *
    simp only at *
    split at this <;> split at hc <;> omega
 ·rintro rfl
  have hft:=h1.1 rfl
  have a1:=(h4 rfl f).1 ⟨Int.le_refl _,hft⟩
  have a2:=(h4 rfl (t - 1)).1 ⟨by omega,by omega⟩
  have a3:=(h4 rfl (clipF (s,n))).2
  have a4:=(h4 rfl (clipT (s,n) - 1)).2
  unfold clipF clipT at *
  simp only at *
  split at a3 <;> split at a4 <;> (constructor <;> omega)
def endsE (i:Int) (e:Ext):List End:=if clipF e<clipT e then [(clipF e,i,1),(clipT e,i, -1)] else []
theorem endsL_snoc (i:Int) (l:List Ext) (e:Ext):endsL i (l++[e])=endsL i l++endsE i e:=by simp [endsL,endsE]
theorem endsL_len (i:Int) (l:List Ext):(endsL i l).length≤2 * l.length:=by
 induction l using snocRec with
 | h0=>simp [endsL]
 | h1 l e ih =>
   rw [endsL_snoc,List.length_append,List.length_append]
   have:(endsE i e).length≤2:=by unfold endsE;split <;> simp
   simp;omega
def endsN (ls:List (List Ext)) (k:Nat):List End:=(List.range k).flatMap fun (i:Nat)=>endsL i (ls.getD i [])
theorem endsN_succ (ls:List (List Ext)) (k:Nat):endsN ls (k+1)=endsN ls k++endsL k (ls.getD k []):=by simp [endsN,List.range_succ]
theorem endsN_len (ls:List (List Ext)) (k:Nat) (hk:k≤ls.length):(endsN ls k).length≤2 * ((ls.take k).map List.length).sum:=by
 induction k with
 | zero=>simp [endsN]
 | succ k ih =>
   have h1:=ih (by omega)
   have h2:=endsL_len k (ls.getD k [])
   have e:ls.getD k []=ls[k]'(by omega):=by simp [List.getD_eq_getElem?_getD,List.getElem?_eq_getElem (show k<ls.length by omega)]
   rw [endsN_succ,List.length_append,List.take_succ_eq_append_getElem (by omega),List.map_append,List.sum_append]
   rw [e] at h2 ⊢
   simp only [List.map_cons,List.map_nil,List.sum_cons,List.sum_nil]
   omega
theorem endsL_ok {i:Int} (hi:0≤i∧i≤1000) (l:List Ext):∀ e∈endsL i l,I64 e.1∧I64 e.2.1∧I64 e.2.2:=by
 intro e he
 obtain⟨x,_,hx⟩:=List.mem_flatMap.1 he
 split at hx
 ·rename_i hc
  have hF:0≤clipF x:=by unfold clipF;split <;> omega
  have hT:clipT x≤4096:=by unfold clipT;split <;> omega
  simp only [List.mem_cons,List.not_mem_nil,or_false] at hx
  unfold I64
  rcases hx with rfl | rfl <;> (simp only;omega)
 ·simp at hx
def EndsRet (ls:List (List Ext)) (w:World) (e:Ending) (w':World):Prop :=
 ∃ A c,∃ qs:List End,e = .returned (.slice A qs.length c)∧qs.length≤c∧c≤maxLen∧qs.Perm (endsN ls ls.length)∧qs.Pairwise (fun x y=>x.1≤y.1)∧(∀ e∈qs,I64 e.1∧I64 e.2.1∧I64 e.2.2)∧SlAt encEnd w' (Nw w.heap.size w'.heap.size) A qs∧Below w.heap.size w w'∧(∀ b off,qs≠[]→A=some ⟨b,off,none⟩→∃ cs fr,w'.heap[b]? = some (.cells cs 250 fr))
set_option maxHeartbeats 4000000 in
theorem ends_any (A:Option Addr) (c:Nat) (ls:List (List Ext)) (w:World) (h1:SlAt (encSl encExt) w (Bl w.heap.size) A ls) (hl:ls.length≤1000) (ht:(ls.map List.length).sum≤1000000) :
  Calls Tryz.prog 176 #[.slice A ls.length c] w (EndsRet ls w):=by
 have H1:Hid (∀ w',Below w.heap.size w w'→SlAt (encSl encExt) w' (Bl w.heap.size) A ls):=fun w' hb=>h1.below hb
 clear h1
 have hsum:∀ k,((ls.take k).map List.length).sum≤(ls.map List.length).sum:=fun k=>by
  have:=congrArg (fun l=>(l.map List.length).sum) (List.take_append_drop k ls)
  simp only [List.map_append,List.sum_append] at this
  omega
 have HSUM:=Lib.hid hsum;clear hsum
 go_enter Tryz.func176,Tryz.ntmps176
 go_wp2
 go_loopw [3,13] (fun v i wr=>∃ (k:Nat) (B:Option Addr) (vc:Nat) (out:List End),k≤ls.length∧i = .int .i64 k∧v = .slice B out.length vc∧Below w.heap.size w wr∧Hid (out=endsN ls k)∧Hid (OwnW encEnd wr w.heap.size w.heap.size 250 (.slice B out.length vc) out)) (fun _ i _=>ls.length - (intOf i).toNat)
 case atStart=>exact⟨0,none,0,[],by omega,rfl,rfl,Below.refl _ _,by simp [Hid,endsN],OwnW.nil_⟩
 case round =>
  obtain⟨wo,rfl⟩:∃ wo:World,wo=wr:=⟨_,rfl⟩
  obtain⟨k,B,vc,out,hk,rfl,rfl,hB,hout,hown⟩:=hrel
  by_cases hlt:k<ls.length
  ·obtain⟨b,off,D,dc,rfl,hb,g0,hD,hn1,hn2⟩:=(H1.out wo hB).sl hlt
   have hnn:(0:Int)≤k:=by omega
   have hki:(k:Int)<ls.length:=by omega
   obtain⟨l,hl'⟩:∃ l,Hid (l=ls[k]'hlt):=⟨_,Lib.hid rfl⟩
   have hgd:ls.getD k []=l:=by rw [hl'.out];simp [List.getD_eq_getElem?_getD,List.getElem?_eq_getElem hlt]
   have HGD:=Lib.hid hgd;clear hgd
   rw [← hl'.out] at g0 hD hn1
   have hlen:(endsN ls k).length+2 * l.length≤2000000:=by
    have h1:=endsN_len ls k hk
    have h2:=HSUM.out (k+1)
    rw [List.take_succ_eq_append_getElem hlt,List.map_append,List.sum_append, ← hl'.out] at h2
    simp only [List.map_cons,List.map_nil,List.sum_cons,List.sum_nil] at h2
    omega
   have HD:Hid (∀ w',Below w.heap.size w w'→SlAt encExt w' (Bl w.heap.size) D l):=fun w' hb=>hD.keep (fun p hp=>World.cell?_of_block ((hb.block _ hp).trans (hB.block _ hp).symm)) (fun _ h=>h)
   unfold maxLen at hn2
   clear hD
   go_wp2
   go_loopw [3,20] (fun v j wr=>∃ (m:Nat) (B:Option Addr) (vc:Nat) (out:List End),m≤l.length∧j = .int .i64 m∧v = .slice B out.length vc∧Below w.heap.size w wr∧Hid (out=endsN ls k++endsL k (l.take m))∧Hid (OwnW encEnd wr w.heap.size w.heap.size 250 (.slice B out.length vc) out)) (fun _ j _=>l.length - (intOf j).toNat)
   case atStart=>exact⟨0,B,vc,out,by omega,rfl,rfl,hB,by rw [hout.out];simp [Hid,endsL],hown.out⟩
   case round =>
    obtain⟨wp,rfl⟩:∃ wp:World,wp=wr:=⟨_,rfl⟩
    clear hB hout hown
    obtain⟨m,B,vc,out,hm,rfl,rfl,hB,hout,hown⟩:=hrel
    have hol:out.length≤2000000:=by
     have h3:=endsL_len k (l.take m)
     have h4:(l.take m).length≤l.length:=by rw [List.length_take];omega
     rw [hout.out,List.length_append];omega
    by_cases hlm:m<l.length
    ·obtain⟨b',off',rfl,hb',e0,e1,hi1,hi2⟩:=(HD.out wp hB).ext hlm
     have hmm:(0:Int)≤m:=by omega
     have hmi:(m:Int)<l.length:=by omega
     have hsz:=hB.size
     go_wp2_with fail
     refine (within2_any l[m].1 l[m].2 _ hi1 hi2).mono ?_
     rintro e w1 ⟨f,t,q,rfl,hq,hft,hb1⟩
     have hB1:Below w.heap.size w w1:=ext_trans (ext_alloc hB) hb1
     have hw1:=ext_trans (ext_alloc (Below.refl wp.heap.size wp)) hb1
     have HO1:=Lib.hid (hown.out.below hw1)
     have hsz1:=hw1.size
     have HQ:=Lib.hid hq;have HFT:=Lib.hid hft
     clear hq hft
     have hst:Hid (endsN ls k++endsL k (l.take (m+1))=out++endsE k l[m]):=by
      rw [Hid,List.take_succ_eq_append_getElem hlm,endsL_snoc, ← List.append_assoc, ← hout.out]
     cases q with
     | false =>
       have hE:Hid (endsE k l[m]=[]):=if_neg (by
        have:=HQ.out
        rw [eq_comm,decide_eq_false_iff_not] at this
        exact this)
       clear e0 e1
       go_wp2
       go_roundw
       case rel=>exact⟨m+1,B,vc,out,hlm,by go_num,rfl,hB1,by rw [Hid,hst.out,hE.out,List.append_nil],HO1.out⟩
       case measure=>simp [intOf];omega
     | true =>
       obtain⟨hf1,hf2⟩:=HFT.out rfl
       have hE:Hid (endsE k l[m]=[(f,(k:Int),1),(t,(k:Int), -1)]):=by
        rw [hf1,hf2]
        exact if_pos (by
         have:=HQ.out
         rw [eq_comm,decide_eq_true_eq] at this
         exact this)
       have hFb:I64 f:=by rw [hf1];unfold I64 clipF;split <;> (unfold I64 at hi1;simp only at *;omega)
       have hTb:I64 t:=by
        have:=HQ.out
        rw [eq_comm,decide_eq_true_eq] at this
        have hF0:0≤clipF (l[m].1,l[m].2):=by unfold clipF;split <;> (simp only at *;omega)
        have hT0:clipT (l[m].1,l[m].2)≤4096:=by unfold clipT;split <;> (simp only at *;omega)
        rw [hf2];unfold I64;omega
       have hKb:I64 (k:Int):=by unfold I64;omega
       have HO2:=Lib.hid (Own.alloc HO1.out (fun _ h=>h.1.2) (.cells #[.int .i64 f,.int .i64 k,.int .i64 1,.int .i64 t,.int .i64 k,.int .i64 (-1)] 250))
       clear hf1 hf2 e0 e1
       go_wp2_with (at_builtin;refine Hid.out ?_)
       change wpList _ _ _ _ _ _
       refine wpList_app (E:=encEnd) tyEnds rfl _ _ rfl rfl HO2.out (news:=[(f,(k:Int),1),(t,(k:Int), -1)]) (css:=[endCells (f,(k:Int),1),endCells (t,(k:Int), -1)]) rfl rfl ⟨end_mk hFb hKb (by unfold I64;simp only;omega),end_mk hTb hKb (by unfold I64;simp only;omega),trivial⟩ (fun _=>⟨_,rfl,fun j u hu=>cell_new w1 _ _ j u hu⟩) (fun _ h=>by simp;have:=h.1.2;omega) (by simp;omega) (by unfold maxLen;omega) (by omega) ?_
       intro A' c' w5 hown5 hg5 hat5
       have hlt1:∀ g,(Value.slice B out.length vc).ownBlock=some g→g<w1.heap.size:=fun g hg=>(HO1.out.lt g hg).2
       have hok5:=Lib.hid (OwnW.app (hown5.more (S':=fun b=>Nw w.heap.size (w1.alloc (.cells #[.int .i64 f,.int .i64 k,.int .i64 1,.int .i64 t,.int .i64 k,.int .i64 (-1)] 250)).heap.size b∧(Value.slice B out.length vc).ownBlock≠some b) (fun b hb=>⟨hb.1.mono (Nat.le_refl _) (by simp),hb.2⟩) (OwnW_new hown5 hat5 hlt1 (by simp))) hg5 hat5)
       have hB5:=Lib.hid ((ext_alloc (o := .cells #[.int .i64 f,.int .i64 k,.int .i64 1,.int .i64 t,.int .i64 k,.int .i64 (-1)] 250) hB1).grown hg5 (by simp;omega) (fun g h=>(hown.out.lt g h).1))
       clear hown5 hg5 hat5 hlt1
       go_wp2
       go_roundw
       case rel=>exact⟨m+1,A',c',out++[(f,(k:Int),1),(t,(k:Int), -1)],hlm,by go_num,by simp,hB5.out,by rw [Hid,hst.out,hE.out],by have:=hok5.out;simpa [Hid] using this⟩
       case measure=>simp [intOf];omega
    ·have hkk:m=l.length:=by omega
     subst hkk
     go_wp2
     go_roundw
     case rel=>exact⟨k+1,B,vc,out,hlt,by go_num,rfl,hB,by rw [Hid,endsN_succ,HGD.out,hout.out,List.take_length],hown.out⟩
     case measure=>simp [intOf];omega
  ·have hkk:k=ls.length:=by omega
   subst hkk
   have hln:=endsN_len ls ls.length (Nat.le_refl _)
   rw [List.take_length] at hln
   have hol:out.length≤2000000:=by rw [hout.out];omega
   have hokp:∀ p∈out,I64 p.1∧I64 p.2.1∧I64 p.2.2:=by
    rw [hout.out]
    intro p hp
    obtain⟨i,hi,hp⟩:=List.mem_flatMap.1 hp
    have:=List.mem_range.1 hi
    exact endsL_ok (by omega) _ p hp
   have HOKP:=Lib.hid hokp;clear hokp hln
   have hc:=Lib.hid (sortEnd_any B w.heap.size vc out.length 250 _ out wo rfl hown.out (by omega) HOKP.out)
   go_wp2_with fail
   refine hc.out.mono ?_
   rintro e w1 ⟨⟨v,rfl⟩,qs,hql,hqp,hqs,hsl,hg1,hty⟩
   obtain⟨_,p1,p2,_⟩:=hown.out.parts
   have hsz:=hB.size
   have hown2:=Lib.hid hown.out.lt
   have hfin:Hid (EndsRet ls w (.returned (.slice B out.length vc)) w1):=by
    refine⟨B,vc,qs,by rw [hql],by omega,p2,hqp.trans (by rw [hout.out]),hqs,fun e he=>HOKP.out e (hqp.mem_iff.1 he),hsl.more (fun g hg => ?_),hB.grown hg1 hsz (fun g hg=>(hown2.out g hg).1),hty⟩
    have:=hown2.out g (by rw [hg];rfl)
    have:=hg1.size
    exact⟨by omega,by omega⟩
   clear hqp hqs hsl hg1 hql p1 p2 hty
   go_wp2
   go_ret
   exact hfin.out
end Go.Proofs.YtgndgkjefgjamaaGreat

namespace Go.Proofs.YtgndgkjefgjamaaGreat
open Go.RowKit Go.Shelf
attribute [local go_sem] Oper.semAt_some


def swOwn (T:TypeId):Prop:=T=250∨T=248
def KeepEnd (W W':World):Prop:=∀ (i:Nat) (cs:Array Value) (fr:Nat × Nat),W.heap[i]? = some (.cells cs 250 fr)→W'.heap[i]? = W.heap[i]?
theorem KeepEnd.refl (W:World):KeepEnd W W:=fun _ _ _ _=>rfl
theorem KeepEnd.trans {A B C:World} (h:KeepEnd A B) (k:KeepEnd B C):KeepEnd A C:=fun i cs fr hi=>(k i cs fr ((h i cs fr hi).trans hi)).trans (h i cs fr hi)
theorem KeepEnd.kpT {n₀:Nat} {A B C:World} (h:KeepEnd A B) (k:KpT swOwn n₀ B C):KeepEnd A C:=h.trans (fun i cs fr hi=>k.2.2 i cs _ fr hi (Or.inl rfl))
theorem KeepEnd.alloc {A B:World} (h:KeepEnd A B) (o:Obj):KeepEnd A (B.alloc o):=h.trans (fun i cs fr hi=>Below.heap_alloc _ _ _ (Array.getElem?_eq_some_iff.1 hi).1)
theorem KeepEnd.set {A B:World} (h:KeepEnd A B) {b j:Nat} {u:Value} (hb:A.heap.size≤b):KeepEnd A (B.setCell ⟨b,j,none⟩ u):=fun i cs fr hi=>(Below.heap_setCell _ _ _ _ (fun e=>by have:=(Array.getElem?_eq_some_iff.1 hi).1;simp only at e;omega)).trans (h i cs fr hi)
theorem SlAt.keepEnd {W W':World} {A:Option Addr} {l:List End} {S:Nat→Prop} (h:SlAt encEnd W S A l) (hT:∀ b off,l≠[]→A=some ⟨b,off,none⟩→∃ cs fr,W.heap[b]? = some (.cells cs 250 fr)) (hk:KeepEnd W W'):SlAt encEnd W' S A l:=fun hl=>by
 obtain⟨b,off,e,hb,hc⟩:=h hl
 obtain⟨cs,fr,hh⟩:=hT b off hl e
 have hs:=hk _ _ _ hh
 refine⟨b,off,e,hb,fun i x hx => ?_⟩
 obtain⟨ys,h1,h2⟩:=hc i x hx
 obtain⟨rfl,k1,k2,k3⟩:=end_cs h2
 exact⟨_,fun j v hv=>(World.cell?_of_block (a:=⟨b,_,none⟩) hs).trans (h1 j v hv),end_mk k1 k2 k3⟩
theorem grown_drew {W W':World} {row:Option Nat} (h:W.grownBy W' row):W.grownBy W'.drew row:=⟨h.os,h.tape,h.output,h.size,h.block⟩
theorem last_true {qs:List End} {k:Nat} {x:End} (h:∀ h:k+1<qs.length,qs[k+1].1≠x.1):lastAt x (qs.drop (k+1))=true:=by
 by_cases hk:k+1<qs.length
 ·rw [List.drop_eq_getElem_cons hk]
  exact decide_eq_true (h hk)
 ·rw [List.drop_of_length_le (by omega)];rfl
theorem last_false {qs:List End} {k:Nat} {x:End} (hk:k+1<qs.length) (h:qs[k+1].1=x.1):lastAt x (qs.drop (k+1))=false:=by
 rw [List.drop_eq_getElem_cons hk]
 exact decide_eq_false (by simpa using h)
def depA (dA d:Int) (L:Nat):Int:=if L=0 then dA+d else dA
def depB (dB d:Int) (L:Nat):Int:=if L=0 then dB else dB+d
theorem step_last (keep:Bool→Bool→Bool) (dA dB start:Int) (inside:Bool) (out:List Ext) (p d:Int) (L:Nat) (now:Bool) (hn:now=swIn keep (depA dA d L) (depB dB d L)):swStep keep ⟨dA,dB,start,inside,out⟩ (p,(L:Int),d) true=⟨depA dA d L,depB dB d L,if now && !inside then p else start,now,if !now && inside then out++[(start,p - start)] else out⟩:=by
 subst hn
 unfold swStep depA depB
 simp only [Bool.true_eq_false,if_false,Int.natCast_eq_zero]
theorem step_more (keep:Bool→Bool→Bool) (dA dB start:Int) (inside:Bool) (out:List Ext) (p d:Int) (L:Nat):swStep keep ⟨dA,dB,start,inside,out⟩ (p,(L:Int),d) false=⟨depA dA d L,depB dB d L,start,inside,out⟩:=by
 unfold swStep depA depB
 simp only [if_true,Int.natCast_eq_zero]
theorem dep_set {w:World} {D:Nat} {dA dB d dl:Int} {L:Nat} {T:TypeId} (h:w.heap[D]? = some (.cells #[.int .i64 dA,.int .i64 dB] T (0,0))) (hL:L<2) (hd:dl=if L=0 then dA else dB):(w.setCell ⟨D,L,none⟩ (.int .i64 (dl+d))).heap[D]? = some (.cells #[.int .i64 (depA dA d L),.int .i64 (depB dB d L)] T (0,0)):=by
 match L,hL with
 | 0,_=>simp [World.setCell,Array.getElem?_modify,h,depA,depB,hd]
 | 1,_=>simp [World.setCell,Array.getElem?_modify,h,depA,depB,hd]
theorem union1_any (p q:Bool) (w:World):Calls Tryz.prog 159 #[.bool p,.bool q] w fun e w'=>e = .returned (.bool (or p q))∧w'=w:=by
 cases p with
 | true =>
   go_enter Tryz.func159,Tryz.ntmps159
   go_wp2
   go_ret
   exact⟨rfl,rfl⟩
 | false =>
   go_enter Tryz.func159,Tryz.ntmps159
   go_wp2
   go_ret
   exact⟨rfl,rfl⟩
structure KeepFn (kf:Nat) (keep:Bool→Bool→Bool):Prop where
 enters:∀ args w,(callFunc kf args).run Tryz.prog w = .ok (.enter kf args) w
 calls:∀ (p q:Bool) (w:World),Calls Tryz.prog kf #[.bool p,.bool q] w fun e w'=>e = .returned (.bool (keep p q))∧w'=w
 off:keep false false=false
theorem KeepFn.at {kf:Nat} {keep:Bool→Bool→Bool} (h:KeepFn kf keep) (p q now:Bool) (hn:keep p q=now) (w:World):Calls Tryz.prog kf #[.bool p,.bool q] w fun e w'=>e = .returned (.bool now)∧w=w' :=
 (h.calls p q w).mono fun _ _ ⟨h1,h2⟩=>⟨by rw [h1,hn],h2.symm⟩
set_option maxRecDepth 100000 in
set_option maxHeartbeats 4000000 in
theorem sweep_in (kf:Nat) (keep:Bool→Bool→Bool) (hkf:KeepFn kf keep) (n:Nat) (hn:3≤n) (l B1 B2 B3 n₀:Nat) (A A':Option Addr) (c c':Nat) (a b:List Ext) (J Jx:List ExtI→World→Prop)
  (hY:∀ pre x W,J pre W→pre.length<1000000→YieldAt Fence.wide (n - 1) Tryz.prog l #[.agg #[.int .i64 x.1.1,.int .i64 x.1.2]] W fun e W' =>
   (e = .returned (.bool true)∧J (pre++[x]) W'∧KpT swOwn n₀ W W')∨(e = .returned (.bool false)∧Jx (pre++[x]) W'))
  (W:World) (hn₀:n₀≤W.heap.size) (hJ:AbidesT swOwn W.heap.size J) (h1:W.cell? ⟨B1,0,none⟩=some (.slice A a.length c)) (h2:W.cell? ⟨B2,0,none⟩=some (.slice A' b.length c')) (h3:W.cell? ⟨B3,0,none⟩=some (.func (.func kf) #[] #[])) (hB3':B3<n₀) (h0:J [] W) (ha:SlAt encExt W (Bl W.heap.size) A a) (hb:SlAt encExt W (Bl W.heap.size) A' b) (hla:a.length≤100000) (hlb:b.length≤100000) (hca:a.length≤c∧c≤maxLen) (hcb:b.length≤c'∧c'≤maxLen) :
  CallsIn Fence.wide n Tryz.prog 175 #[.func (.yield l) #[] #[],.pointer (some ⟨B1,0,none⟩),.pointer (some ⟨B2,0,none⟩),.pointer (some ⟨B3,0,none⟩)] W fun e W'=>(∃ v,e = .returned v) ∧
   ((∃ ys:List ExtI,ys.map (·.1)=opL keep a b∧J ys W')∨(∃ pre:List ExtI,pre.map (·.1) <+: opL keep a b∧Jx pre W')):=by
 have hls:SlAt (encSl encExt) (W.alloc (.cells #[.slice A a.length c,.slice A' b.length c'] 93)) (Bl (W.alloc (.cells #[.slice A a.length c,.slice A' b.length c'] 93)).heap.size) (some ⟨W.heap.size,0,none⟩) [a,b]:=fun _=>by
  have hb':Below W.heap.size W (W.alloc (.cells #[.slice A a.length c,.slice A' b.length c'] 93)):=ext_alloc (Below.refl _ _)
  refine⟨W.heap.size,0,rfl,by simp [Bl],fun i x hx => ?_⟩
  match i,hx with
  | 0,hx =>
    cases hx
    exact⟨[.slice A a.length c],fun j v hv=>by
     have hj:j=0:=by have:=(List.getElem?_eq_some_iff.1 hv).1;simp at this;exact this
     subst hj
     cases hv
     exact cell_of_row _ _ 0 _ _ _ (heap_alloc_new _ _),A,c,rfl,hca.1,hca.2,ha.fwd hb'⟩
  | 1,hx =>
    cases hx
    exact⟨[.slice A' b.length c'],fun j v hv=>by
     have hj:j=0:=by have:=(List.getElem?_eq_some_iff.1 hv).1;simp at this;exact this
     subst hj
     cases hv
     exact cell_of_row _ _ 1 _ _ _ (heap_alloc_new _ _),A',c',rfl,hcb.1,hcb.2,hb.fwd hb'⟩
 have hend:=ends_any (some ⟨W.heap.size,0,none⟩) 2 [a,b] (W.alloc (.cells #[.slice A a.length c,.slice A' b.length c'] 93)) hls (by simp) (by simp;omega)
 have HE:=Lib.hid hend;clear hend hls
 have hent:=hkf.enters
 have HKF:=Lib.hid hkf;clear hkf
 have HJ:=Lib.hid hJ;clear hJ
 have HA:=Lib.hid ha;have HB:=Lib.hid hb;clear ha hb
 refine callsIn_of_wp Tryz.func175 rfl trivial ?_ rfl
 simp only [Tryz.ntmps175,List.size_toArray,List.length_cons,List.length_nil,Nat.reduceAdd,Nat.reduceSub,Array.replicate_succ,Array.replicate_zero,List.push_toArray,List.append_toArray,List.nil_append,List.cons_append]
 gi_wp2_with fail
 refine⟨trivial,fun _=>by omega,CallsIn.mono (callsIn_wide.2 HE.out) ?_⟩
 rintro e w1 ⟨Q,qc,qs,rfl,k1,k2,hperm,hsrt,hok,hsl,hb1,hty⟩
 have hB1:Below W.heap.size W w1:=ext_trans (ext_alloc (Below.refl _ _)) hb1
 have HP:=Lib.hid hperm;have HS:=Lib.hid hsrt;have HOK:=Lib.hid hok;have HSL:=Lib.hid hsl;have HTY:=Lib.hid hty
 have HJ1:Hid (J [] w1):=HJ.out [] W w1 none h0 ⟨hB1.os,hB1.tape,hB1.output,hB1.size,fun i hi _=>hB1.block i hi⟩ (fun r e=>by cases e)
 clear hperm hsrt hok hsl hty h0 hb1
 have hrg:∀ e∈qs,0≤e.1∧e.1≤4096∧(e.2.1=0∨e.2.1=1)∧(e.2.2=1∨e.2.2 = -1):=fun e he=>by
  have h2:=HP.out.mem_iff.1 he
  exact ends_range (a:=a) (b:=b) e (by simpa [endsN,List.range_succ,endsOf] using h2)
 have hql:qs.length≤400000:=by
  have h2:=HP.out.length_eq
  have h3:=endsN_len [a,b] 2 (by simp)
  simp at h2 h3
  omega
 have HRG:=Lib.hid hrg;clear hrg
 have hsz1:=hB1.size
 gi_wp2_with fail
 gi_loopw [7,8,18] (fun s ins i wr=>∃ (k:Nat) (pre:List ExtI) (st:Sw),k≤qs.length∧i = .int .i64 k∧s = .int .i64 st.start∧ins = .bool st.inside∧Hid (st=swN keep qs k)∧Hid (pre.map (·.1)=st.out)∧J pre wr∧Hid (wr.heap[w1.heap.size]? = some (.cells #[.int .i64 st.dA,.int .i64 st.dB] 248 (0,0)))∧Below n₀ W wr∧KeepEnd w1 wr) (fun _ _ i _=>qs.length - (intOf i).toNat)
 case atStart =>
  refine⟨0,[],sw0,Nat.zero_le _,rfl,rfl,rfl,rfl,rfl, ?_,heap_alloc_new _ _,(hB1.mono hn₀).alloc (by omega) _,(KeepEnd.refl _).alloc _⟩
  exact HJ.out [] w1 _ none HJ1.out (World.grownBy_alloc _ _ _) (fun r e=>by cases e)
 case round =>
  obtain⟨k,pre,st,hk,rfl,rfl,rfl,hst,hpre,hJs,hdep,hB,hke⟩:=hrel
  have hdl:=(Array.getElem?_eq_some_iff.1 hdep.out).1
  by_cases hlt:k<qs.length
  ·obtain⟨bq,off,rfl,hbq,e0,e1,e2,i1,i2,i3⟩:=(HSL.out.keepEnd HTY.out hke).end_ hlt
   obtain⟨g1,g2,g3,g4⟩:=HRG.out qs[k] (List.getElem_mem hlt)
   obtain⟨y,hy⟩:∃ y,Hid (y=qs[k]'hlt):=⟨_,Lib.hid rfl⟩
   rw [← hy.out] at e0 e1 e2 i1 i2 i3 g1 g2 g3 g4
   obtain⟨p,L,d⟩:=y
   simp only at e0 e1 e2 i1 i2 i3 g1 g2 g3 g4
   obtain⟨Ln,hLn⟩:∃ Ln:Nat,L=Ln:=⟨L.toNat,by omega⟩
   subst hLn
   have hnn:(0:Int)≤k:=by omega
   have hki:(k:Int)<qs.length:=by omega
   have hok:=swN_ok keep qs HRG.out k hk
   rw [← hst.out] at hok
   obtain⟨o1,o2,o3,o4,o5,o6,o7,o8⟩:=hok
   obtain⟨dl,hdl2,hdl3,hdl4⟩:∃ dl,Hid (dl=if Ln=0 then st.dA else st.dB) ∧ -(k:Int)≤dl∧dl≤k:=⟨_,Lib.hid rfl,by split <;> assumption,by split <;> assumption⟩
   have hdc:wr.cell? ⟨w1.heap.size,Ln,none⟩=some (.int .i64 dl):=by
    rw [cell_of_row _ _ _ _ _ _ hdep.out,hdl2.out]
    rcases g3 with g3 | g3
    ·have:Ln=0:=by omega
     subst this;rfl
    ·have:Ln=1:=by omega
     subst this;rfl
   have hdf:∀ j,wr.frozen? ⟨w1.heap.size,j,none⟩=false:=fun j=>by simp [World.frozen?,hdep.out]
   have hL2:(Ln:Int)<2:=by omega
   have hL0:(0:Int)≤Ln:=by omega
   have hd1 : -1≤d:=by omega
   have hd2:d≤1:=by omega
   have HG3:=Lib.hid g3;have HG4:=Lib.hid g4
   clear g3 g4
   obtain⟨dA,dB,start,inside,out⟩:=st
   simp only at hst hpre hdep hdl2 o1 o2 o3 o4 o5 o6 o7 o8
   have hls:=fun (q:Bool) (hq:lastAt (p,(Ln:Int),d) (qs.drop (k+1))=q)=>Lib.hid (show swN keep qs (k+1)=swStep keep ⟨dA,dB,start,inside,out⟩ (p,(Ln:Int),d) q by rw [swN_succ hlt, ← hst.out, ← hy.out,hq])
   have HLS:=Lib.hid hls;clear hls
   gi_wp2_with fail
   gi_region
   have hdep2:=Lib.hid (dep_set (d:=d) hdep.out (by omega) hdl2.out)
   have hX:=heap_alloc_new (wr.setCell ⟨w1.heap.size,Ln,none⟩ (.int .i64 (dl+d))) (.cells #[.int .i64 p,.int .i64 Ln,.int .i64 d] 250)
   have hszs:(wr.setCell ⟨w1.heap.size,Ln,none⟩ (.int .i64 (dl+d))).heap.size=wr.heap.size:=by simp [World.setCell]
   rw [hszs] at hX
   have hJ2:Hid (J pre ((wr.setCell ⟨w1.heap.size,Ln,none⟩ (.int .i64 (dl+d))).alloc (.cells #[.int .i64 p,.int .i64 Ln,.int .i64 d] 250)).drew):=by
    have hg1:wr.grownBy (wr.setCell ⟨w1.heap.size,Ln,none⟩ (.int .i64 (dl+d))) (some w1.heap.size):=⟨rfl,rfl,rfl,by rw [hszs];exact Nat.le_refl _,fun i hi hne=>Below.heap_setCell _ _ _ _ (fun e=>hne (by rw [e]))⟩
    refine HJ.out pre wr _ (some w1.heap.size) hJs (grown_drew (grown_alloc hg1 _)) (fun r e => ?_)
    cases e
    exact⟨hsz1,_,hdep.out,Or.inr ⟨_,_,_,rfl,Or.inr rfl⟩⟩
   have hB2:Below n₀ W ((wr.setCell ⟨w1.heap.size,Ln,none⟩ (.int .i64 (dl+d))).alloc (.cells #[.int .i64 p,.int .i64 Ln,.int .i64 d] 250)).drew:=((hB.setCell (p:=⟨w1.heap.size,Ln,none⟩) (by simp;omega) _).alloc (by rw [hszs];omega) _).drew
   have hke2:Hid (KeepEnd w1 ((wr.setCell ⟨w1.heap.size,Ln,none⟩ (.int .i64 (dl+d))).alloc (.cells #[.int .i64 p,.int .i64 Ln,.int .i64 d] 250)).drew):=(hke.set (Nat.le_refl _)).alloc _
   have hdep3:Hid (((wr.setCell ⟨w1.heap.size,Ln,none⟩ (.int .i64 (dl+d))).alloc (.cells #[.int .i64 p,.int .i64 Ln,.int .i64 d] 250)).drew.heap[w1.heap.size]? = some (.cells #[.int .i64 (depA dA d Ln),.int .i64 (depB dB d Ln)] 248 (0,0))):=(Below.heap_alloc _ _ _ (by rw [hszs];exact hdl)).trans hdep2.out
   have hX2:((wr.setCell ⟨w1.heap.size,Ln,none⟩ (.int .i64 (dl+d))).alloc (.cells #[.int .i64 p,.int .i64 Ln,.int .i64 d] 250)).drew.heap[wr.heap.size]? = some (.cells #[.int .i64 p,.int .i64 Ln,.int .i64 d] 250 (0,0)):=hX
   have hsz2:wr.heap.size<((wr.setCell ⟨w1.heap.size,Ln,none⟩ (.int .i64 (dl+d))).alloc (.cells #[.int .i64 p,.int .i64 Ln,.int .i64 d] 250)).drew.heap.size:=(Array.getElem?_eq_some_iff.1 hX2).1
   clear hX hszs hdep2 hJs
   generalize ((wr.setCell ⟨w1.heap.size,Ln,none⟩ (.int .i64 (dl+d))).alloc (.cells #[.int .i64 p,.int .i64 Ln,.int .i64 d] 250)).drew=w2 at hJ2 hB2 hke2 hdep3 hX2 hsz2 ⊢
   have x0:=cell_of_row _ _ 0 _ _ _ hX2
   clear hdc hdf e0 e1 e2
   by_cases hk1:k+1<qs.length
   ·obtain⟨bq',off',hbo,_,f0,f1,f2,_⟩:=(HSL.out.keepEnd HTY.out hke2.out).end_ hk1
    injection hbo with hbo
    injection hbo with hbo1 hbo2
    subst hbo1 hbo2
    obtain⟨p2,hp2⟩:∃ p2,Hid (p2=(qs[k+1]'hk1).1):=⟨_,Lib.hid rfl⟩
    rw [← hp2.out] at f0
    clear f1 f2
    have hk1i:(k:Int)+1<qs.length:=by omega
    have hk1d:decide ((k:Int)+1<qs.length)=true:=decide_eq_true hk1i
    by_cases hpp:p2=p
    ·have hppb:(p2==p)=true:=by simp [hpp]
     have HPP:=Lib.hid hpp;clear hpp
     gi_wp2_with fail
     gi_quiet (fail)
     gi_wp2_with fail
     go_roundw
     case rel =>
      refine⟨k+1,pre,⟨depA dA d Ln,depB dB d Ln,start,inside,out⟩,hlt,by go_num,rfl,rfl, ?_,hpre.out, ?_,hdep3.out,bDrew hB2 _,hke2.out⟩
      ·rw [Hid,(HLS.out false (last_false hk1 (by rw [← hp2.out];exact HPP.out))).out,step_more]
      ·exact HJ.out pre w2 _ none hJ2.out ⟨rfl,rfl,rfl,Nat.le_refl _,fun _ _ _=>rfl⟩ (fun r e=>by cases e)
     case measure=>simp [intOf];omega
    ·have hppb:(p2==p)=false:=by simp [hpp]
     have hlast:Hid (lastAt (p,(Ln:Int),d) (qs.drop (k+1))=true):=last_true (fun h=>by rw [← hp2.out];exact hpp)
     have HPP:=Lib.hid hpp;clear hpp
     gi_wp2_with fail
     gi_quiet (fail)
     have hJ3:Hid (J pre (w2.drewN nq)):=HJ.out pre w2 _ none hJ2.out ⟨rfl,rfl,rfl,Nat.le_refl _,fun _ _ _=>rfl⟩ (fun r e=>by cases e)
     have hB3:Below n₀ W (w2.drewN nq):=bDrew hB2 _
     have hke3:Hid (KeepEnd w1 (w2.drewN nq)):=hke2.out
     have hdep4:(w2.drewN nq).heap[w1.heap.size]? = some (.cells #[.int .i64 (depA dA d Ln),.int .i64 (depB dB d Ln)] 248 (0,0)):=hdep3.out
     have hX3:(w2.drewN nq).heap[wr.heap.size]? = some (.cells #[.int .i64 p,.int .i64 Ln,.int .i64 d] 250 (0,0)):=hX2
     clear hJ2 hB2 hke2 hdep3 hX2 hsz2 x0
     generalize w2.drewN nq=w3 at hJ3 hB3 hke3 hdep4 hX3 ⊢
     have x0:=cell_of_row _ _ 0 _ _ _ hX3
     have d0:=cell_of_row _ _ 0 _ _ _ hdep4
     have d1:=cell_of_row _ _ 1 _ _ _ hdep4
     have hb3:=(hB3.cell (p:=⟨B3,0,none⟩) hB3').trans h3
     have HDEP:=Lib.hid hdep4
     clear hX3 hdep4
     obtain⟨eA,hA⟩:∃ eA,Hid (eA=depA dA d Ln):=⟨_,Lib.hid rfl⟩
     obtain⟨eB,hB'⟩:∃ eB,Hid (eB=depB dB d Ln):=⟨_,Lib.hid rfl⟩
     rw [← hA.out] at d0
     rw [← hB'.out] at d1
     obtain⟨now,hnow⟩:∃ now,Hid (now=swIn keep eA eB):=⟨_,Lib.hid rfl⟩
     have hstep:Hid (swN keep qs (k+1)=⟨depA dA d Ln,depB dB d Ln,if now && !inside then p else start,now,if !now && inside then out++[(start,p - start)] else out⟩):=by
      rw [Hid,(HLS.out true hlast.out).out,step_last (now:=now) (hn:=by rw [hnow.out,hA.out,hB'.out])]
     gi_wp2_with fail
     refine⟨trivial,fun _=>by omega,CallsIn.mono (callsIn_wide.2 (HKF.out.at _ _ now hnow.out.symm w3)) ?_⟩
     clear d0 d1 hb3
     rintro e w' ⟨rfl,rfl⟩
     cases now with
     | true =>
       cases inside with
       | true =>
         gi_wp2_with fail
         refine⟨fun _ h=>(by cases h), ?_⟩
         gi_wp2_with fail
         go_roundw
         case rel=>exact⟨k+1,pre,_,hlt,by go_num,rfl,rfl,hstep.out.symm,hpre.out,hJ3.out,HDEP.out,hB3,hke3.out⟩
         case measure=>simp [intOf];omega
       | false =>
         gi_wp2_with fail
         refine⟨fun _ h=>(by cases h), ?_⟩
         gi_wp2_with fail
         go_roundw
         case rel=>exact⟨k+1,pre,_,hlt,by go_num,rfl,rfl,hstep.out.symm,hpre.out,hJ3.out,HDEP.out,hB3,hke3.out⟩
         case measure=>simp [intOf];omega
     | false =>
       cases inside with
       | false =>
         gi_wp2_with fail
         refine⟨fun _ h=>(by cases h), ?_⟩
         gi_wp2_with fail
         go_roundw
         case rel=>exact⟨k+1,pre,_,hlt,by go_num,rfl,rfl,hstep.out.symm,hpre.out,hJ3.out,HDEP.out,hB3,hke3.out⟩
         case measure=>simp [intOf];omega
       | true =>
         have hpl:pre.length<1000000:=by
          have h2:=congrArg List.length hpre.out
          rw [List.length_map] at h2
          omega
         have hx64:I64 start∧I64 (p - start):=by unfold I64;omega
         obtain⟨fn,tmps,assign,body,hy',hR⟩:=hY pre ⟨(start,p - start),hx64⟩ w3 hJ3.out hpl
         dsimp only at hy'
         gi_wp2_with fail
         refine⟨fun _=>by omega,hR.mono ?_⟩
         clear x0 hy' hR
         have hgr:=Lib.hid hB3;clear hB3
         rintro e w4 (⟨rfl,hJ4,hk4⟩ | ⟨rfl,hJx4⟩)
         ·have hd4:Hid (w4.heap[w1.heap.size]? = some (.cells #[.int .i64 (depA dA d Ln),.int .i64 (depB dB d Ln)] 248 (0,0))):=(hk4.2.2 _ _ _ _ HDEP.out (Or.inr rfl)).trans HDEP.out
          gi_wp2_with fail
          go_roundw
          case rel=>exact⟨k+1,pre++[⟨(start,p - start),hx64⟩],_,hlt,by go_num,rfl,rfl,hstep.out.symm,by rw [Hid,List.map_append,hpre.out];rfl,hJ4,hd4.out,hgr.out.trans hk4.1,hke3.out.kpT hk4⟩
          case measure=>simp [intOf];omega
         ·have hpf:Hid ((pre++[(⟨(start,p - start),hx64⟩:ExtI)]).map (·.1) <+: opL keep a b):=by
           have h2:=sweep_law keep HKF.out.off a b qs (by have h2:=HP.out;simpa [endsN,List.range_succ,endsOf] using h2) HS.out
           have h3:=swN_prefix keep qs (k:=k+1) hlt
           rw [← sweepL_swN,h2,hstep.out] at h3
           rw [Hid,List.map_append,hpre.out]
           exact h3
          gi_wp2_with fail
          refine bodyPost_ret (results_none rfl _ _ _) rfl ?_
          exact⟨⟨_,rfl⟩,.inr ⟨_,hpf.out,hJx4⟩⟩
   ·have hk1i:¬ ((k:Int)+1<qs.length):=by omega
    have hk1d:decide ((k:Int)+1<qs.length)=false:=decide_eq_false hk1i
    have hlast:Hid (lastAt (p,(Ln:Int),d) (qs.drop (k+1))=true):=last_true (fun h=>absurd h hk1)
    have hk1e:(qs.length:Int)≤(k:Int)+1:=by omega
    clear hk1 hk1i
    gi_wp2_with fail
    gi_quiet (fail)
    have hJ3:Hid (J pre (w2.drewN nq)):=HJ.out pre w2 _ none hJ2.out ⟨rfl,rfl,rfl,Nat.le_refl _,fun _ _ _=>rfl⟩ (fun r e=>by cases e)
    have hB3:Below n₀ W (w2.drewN nq):=bDrew hB2 _
    have hke3:Hid (KeepEnd w1 (w2.drewN nq)):=hke2.out
    have hdep4:(w2.drewN nq).heap[w1.heap.size]? = some (.cells #[.int .i64 (depA dA d Ln),.int .i64 (depB dB d Ln)] 248 (0,0)):=hdep3.out
    have hX3:(w2.drewN nq).heap[wr.heap.size]? = some (.cells #[.int .i64 p,.int .i64 Ln,.int .i64 d] 250 (0,0)):=hX2
    clear hJ2 hB2 hke2 hdep3 hX2 hsz2 x0
    generalize w2.drewN nq=w3 at hJ3 hB3 hke3 hdep4 hX3 ⊢
    have x0:=cell_of_row _ _ 0 _ _ _ hX3
    have d0:=cell_of_row _ _ 0 _ _ _ hdep4
    have d1:=cell_of_row _ _ 1 _ _ _ hdep4
    have hb3:=(hB3.cell (p:=⟨B3,0,none⟩) hB3').trans h3
    have HDEP:=Lib.hid hdep4
    clear hX3 hdep4
    obtain⟨eA,hA⟩:∃ eA,Hid (eA=depA dA d Ln):=⟨_,Lib.hid rfl⟩
    obtain⟨eB,hB'⟩:∃ eB,Hid (eB=depB dB d Ln):=⟨_,Lib.hid rfl⟩
    rw [← hA.out] at d0
    rw [← hB'.out] at d1
    obtain⟨now,hnow⟩:∃ now,Hid (now=swIn keep eA eB):=⟨_,Lib.hid rfl⟩
    have hstep:Hid (swN keep qs (k+1)=⟨depA dA d Ln,depB dB d Ln,if now && !inside then p else start,now,if !now && inside then out++[(start,p - start)] else out⟩):=by
     rw [Hid,(HLS.out true hlast.out).out,step_last (now:=now) (hn:=by rw [hnow.out,hA.out,hB'.out])]
    gi_wp2_with fail
    refine⟨trivial,fun _=>by omega,CallsIn.mono (callsIn_wide.2 (HKF.out.at _ _ now hnow.out.symm w3)) ?_⟩
    clear d0 d1 hb3
    rintro e w' ⟨rfl,rfl⟩
    cases now with
    | true =>
      cases inside with
      | true =>
        gi_wp2_with fail
        refine⟨fun _ h=>(by cases h), ?_⟩
        gi_wp2_with fail
        go_roundw
        case rel=>exact⟨k+1,pre,_,hlt,by go_num,rfl,rfl,hstep.out.symm,hpre.out,hJ3.out,HDEP.out,hB3,hke3.out⟩
        case measure=>simp [intOf];omega
      | false =>
        gi_wp2_with fail
        refine⟨fun _ h=>(by cases h), ?_⟩
        gi_wp2_with fail
        go_roundw
        case rel=>exact⟨k+1,pre,_,hlt,by go_num,rfl,rfl,hstep.out.symm,hpre.out,hJ3.out,HDEP.out,hB3,hke3.out⟩
        case measure=>simp [intOf];omega
    | false =>
      cases inside with
      | false =>
        gi_wp2_with fail
        refine⟨fun _ h=>(by cases h), ?_⟩
        gi_wp2_with fail
        go_roundw
        case rel=>exact⟨k+1,pre,_,hlt,by go_num,rfl,rfl,hstep.out.symm,hpre.out,hJ3.out,HDEP.out,hB3,hke3.out⟩
        case measure=>simp [intOf];omega
      | true =>
        have hpl:pre.length<1000000:=by
         have h2:=congrArg List.length hpre.out
         rw [List.length_map] at h2
         omega
        have hx64:I64 start∧I64 (p - start):=by unfold I64;omega
        obtain⟨fn,tmps,assign,body,hy',hR⟩:=hY pre ⟨(start,p - start),hx64⟩ w3 hJ3.out hpl
        dsimp only at hy'
        gi_wp2_with fail
        refine⟨fun _=>by omega,hR.mono ?_⟩
        clear x0 hy' hR
        have hgr:=Lib.hid hB3;clear hB3
        rintro e w4 (⟨rfl,hJ4,hk4⟩ | ⟨rfl,hJx4⟩)
        ·have hd4:Hid (w4.heap[w1.heap.size]? = some (.cells #[.int .i64 (depA dA d Ln),.int .i64 (depB dB d Ln)] 248 (0,0))):=(hk4.2.2 _ _ _ _ HDEP.out (Or.inr rfl)).trans HDEP.out
         gi_wp2_with fail
         go_roundw
         case rel=>exact⟨k+1,pre++[⟨(start,p - start),hx64⟩],_,hlt,by go_num,rfl,rfl,hstep.out.symm,by rw [Hid,List.map_append,hpre.out];rfl,hJ4,hd4.out,hgr.out.trans hk4.1,hke3.out.kpT hk4⟩
         case measure=>simp [intOf];omega
        ·have hpf:Hid ((pre++[(⟨(start,p - start),hx64⟩:ExtI)]).map (·.1) <+: opL keep a b):=by
          have h2:=sweep_law keep HKF.out.off a b qs (by have h2:=HP.out;simpa [endsN,List.range_succ,endsOf] using h2) HS.out
          have h3:=swN_prefix keep qs (k:=k+1) hlt
          rw [← sweepL_swN,h2,hstep.out] at h3
          rw [Hid,List.map_append,hpre.out]
          exact h3
         gi_wp2_with fail
         refine bodyPost_ret (results_none rfl _ _ _) rfl ?_
         exact⟨⟨_,rfl⟩,.inr ⟨_,hpf.out,hJx4⟩⟩
  ·have hkk:k=qs.length:=by omega
   subst hkk
   have hfin:Hid (pre.map (·.1)=opL keep a b):=by
    rw [Hid,hpre.out,hst.out, ← sweepL_swN]
    exact sweep_law _ HKF.out.off a b qs (by have h2:=HP.out;simpa [endsN,List.range_succ,endsOf] using h2) HS.out
   gi_wp2_with fail
   go_end0
   exact⟨⟨_,rfl⟩,.inl ⟨pre,hfin.out,hJs⟩⟩
end Go.Proofs.YtgndgkjefgjamaaGreat

namespace Go.Proofs.YtgndgkjefgjamaaGreat
open Go.RowKit Go.Shelf
attribute [local go_sem] Oper.semAt_some

theorem sweep_any (A A':Option Addr) (n c m c' kf:Nat) (w:World):Calls Tryz.prog 158 #[.slice A n c,.slice A' m c',.func (.func kf) #[] #[]] w fun e w'=>e = .returned (.func (.func 175) #[] #[.pointer (some ⟨w.heap.size,0,none⟩),.pointer (some ⟨w.heap.size+1,0,none⟩),.pointer (some ⟨w.heap.size+1+1,0,none⟩)]) ∧
  w'=((w.alloc (.cells #[.slice A n c] 93)).alloc (.cells #[.slice A' m c'] 93)).alloc (.cells #[.func (.func kf) #[] #[]] 227):=by
 go_enter Tryz.func158,Tryz.ntmps158
 go_wp2
 go_ret
 exact⟨rfl,rfl⟩
def opSeq (keep:Bool→Bool→Bool) (a b:List Ext) (ys:List ExtI):Prop:=ys.map (·.1)=opL keep a b
theorem sweep_stops {kf:Nat} {keep:Bool→Bool→Bool} (hkf:KeepFn kf keep) (n:Nat) (hn:3≤n) (A A':Option Addr) (c c' B1 B2 B3:Nat) (a b:List Ext) (w:World)
  (h1:w.cell? ⟨B1,0,none⟩=some (.slice A a.length c)) (h2:w.cell? ⟨B2,0,none⟩=some (.slice A' b.length c')) (h3:w.cell? ⟨B3,0,none⟩=some (.func (.func kf) #[] #[])) (l1:B1<w.heap.size) (l2:B2<w.heap.size) (l3:B3<w.heap.size) (ha:SlAt encExt w (Bl w.heap.size) A a) (hb:SlAt encExt w (Bl w.heap.size) A' b) (hla:a.length≤100000) (hlb:b.length≤100000) (hca:a.length≤c∧c≤maxLen) (hcb:b.length≤c'∧c'≤maxLen) :
  SeqStopsT swOwn Fence.wide n Tryz.prog 175 #[.pointer (some ⟨B1,0,none⟩),.pointer (some ⟨B2,0,none⟩),.pointer (some ⟨B3,0,none⟩)] extArgs (KpT swOwn w.heap.size) (opSeq keep a b) (fun pre=>pre.map (·.1) <+: opL keep a b) 1000000 w :=
 fun l J Jx W hW hJ _ hY h0=>sweep_in kf keep hkf n hn l B1 B2 B3 w.heap.size A A' c c' a b J Jx hY W hW.size hJ ((hW.cell (p:=⟨B1,0,none⟩) l1).trans h1) ((hW.cell (p:=⟨B2,0,none⟩) l2).trans h2) ((hW.cell (p:=⟨B3,0,none⟩) l3).trans h3) l3 h0 (ha.fwd hW) (hb.fwd hW) hla hlb hca hcb
theorem opSeq_len {keep:Bool→Bool→Bool} {a b:List Ext} (ys:List ExtI) (h:opSeq keep a b ys):ys.length≤1000000:=by
 have:=congrArg List.length h
 rw [List.length_map] at this
 have:=(opL_bound keep a b).2
 omega
theorem alloc3_cells (w:World) (o1 o2 o3:Obj):(((w.alloc o1).alloc o2).alloc o3).heap[w.heap.size]? = some o1∧(((w.alloc o1).alloc o2).alloc o3).heap[w.heap.size+1]? = some o2∧(((w.alloc o1).alloc o2).alloc o3).heap[w.heap.size+1+1]? = some o3:=by
 refine⟨?_, ?_, ?_⟩
 ·exact (Below.heap_alloc _ _ _ (by simp <;> omega)).trans ((Below.heap_alloc _ _ _ (by simp)).trans (heap_alloc_new _ _))
 ·exact (Below.heap_alloc _ _ _ (by simp)).trans (heap_new2 _ _ _)
 ·exact heap_new3 _ _ _ _
theorem keepU:KeepFn 159 or:=⟨enters_of Tryz.func159 (by kernel_rfl) rfl,union1_any,rfl⟩
theorem union_any (A A':Option Addr) (c c' n m:Nat) (a b r:List Ext) (hn:a.length=n) (hm:b.length=m) (hr:opL or a b=r) (w:World) (h1:SlAt encExt w (Bl w.heap.size) A a) (h2:SlAt encExt w (Bl w.heap.size) A' b) (hla:n≤100000) (hlb:m≤100000) (hca:n≤c∧c≤maxLen) (hcb:m≤c'∧c'≤maxLen) :
  Calls Tryz.prog 132 #[.slice A n c,.slice A' m c'] w (RetSl encExt r w):=by
 subst hn hm hr
 obtain⟨n,hn⟩:∃ n:Nat,10≤n:=⟨10,Nat.le_refl _⟩
 have hB3:Below w.heap.size w (((w.alloc (.cells #[.slice A a.length c] 93)).alloc (.cells #[.slice A' b.length c'] 93)).alloc (.cells #[.func (.func 159) #[] #[]] 227)):=ext_alloc (ext_alloc (ext_alloc (Below.refl _ _)))
 have hc3:=alloc3_cells w (.cells #[.slice A a.length c] 93) (.cells #[.slice A' b.length c'] 93) (.cells #[.func (.func 159) #[] #[]] 227)
 have hstop:=sweep_stops (keepU) (n - 1 - 1 - 1) (by omega) A A' c c' _ _ _ a b _ (cell_of_row _ _ 0 _ _ _ hc3.1) (cell_of_row _ _ 0 _ _ _ hc3.2.1) (cell_of_row _ _ 0 _ _ _ hc3.2.2) (by simp <;> omega) (by simp <;> omega) (by simp) (h1.fwd hB3) (h2.fwd hB3) hla hlb hca hcb
 have HC:=Lib.hid (collectExt_in (n - 1) (by omega) swOwn (by unfold swOwn;decide) (by unfold swOwn;decide) 175 _ (enters_of Tryz.func175 (by kernel_rfl) rfl) (opSeq or a b) _ 1000000 (Nat.le_refl _) _ hstop opSeq_len)
 clear hstop hc3 h1 h2
 refine (callsIn_wide (n:=n)).1 ?_
 refine callsIn_of_wp Tryz.func132 rfl trivial ?_ rfl
 simp only [Tryz.ntmps132,List.size_toArray,List.length_cons,List.length_nil,Nat.reduceAdd,Nat.reduceSub,Array.replicate_succ,Array.replicate_zero,List.push_toArray,List.append_toArray,List.nil_append,List.cons_append]
 gi_wp2_with fail
 refine⟨trivial,fun _=>by omega,CallsIn.mono (callsIn_wide.2 (sweep_any A A' a.length c b.length c' 159 _)) ?_⟩
 rintro e w1 ⟨rfl,rfl⟩
 gi_wp2_with fail
 refine⟨trivial,fun _=>by omega,CallsIn.mono HC.out ?_⟩
 rintro e w2 ⟨ys,Q,qc,k1,rfl,k2,k3,k4,k5⟩
 have hk:ys.length=(opL or a b).length:=by
  have:=congrArg List.length k1
  rwa [List.length_map] at this
 rw [k1] at k4
 rw [hk] at k2 ⊢
 have HK4:=Lib.hid k4
 clear k1 k4 hk
 gi_wp2
 go_ret
 exact⟨Q,qc,rfl,k2,k3,HK4.out.more (fun g h=>h.mono hB3.size (Nat.le_refl _)),ext_trans hB3 k5⟩
end Go.Proofs.YtgndgkjefgjamaaGreat
namespace Go.Proofs.YtgndgkjefgjamaaGreat
open Go.RowKit Go.Shelf

set_option maxHeartbeats 2000000 in
theorem extents_any (A:Option Addr) (c:Nat) (l:List Wr) (V:Int) (w:World) (h1:SlAt encWr w (Bl w.heap.size) A l) (hs:l.length≤100000) (hV:I64 V) :
  Calls Tryz.prog 80 #[.slice A l.length c,.int .i64 V] w (RetSl encExt (runsL (secsOf l V)) w):=by
 have H1:Hid (∀ w',Below w.heap.size w w'→SlAt encWr w' (Bl w.heap.size) A l):=fun w' hb=>h1.below hb
 clear h1
 go_enter Tryz.func80,Tryz.ntmps80
 go_wp2
 go_loopw [5,10] (fun v i wr=>∃ (k:Nat) (B:Option Addr) (vc:Nat) (out:List Ext),k≤l.length∧i = .int .i64 k∧v = .slice B out.length vc∧Below w.heap.size w wr∧Hid (out=extL (l.take k) V)∧Hid (OwnW encExt wr w.heap.size w.heap.size 104 (.slice B out.length vc) out)) (fun _ i _=>l.length - (intOf i).toNat)
 case atStart=>exact⟨0,none,0,[],by omega,rfl,rfl,Below.refl _ _,by simp [Hid,extL],OwnW.nil_⟩
 case round =>
  obtain⟨k,B,vc,out,hk,rfl,rfl,hB,hout,hown⟩:=hrel
  have hol:out.length≤100000:=by
   have h3:=extL_len (l.take k) V
   have h4:(l.take k).length≤l.length:=by rw [List.length_take];omega
   rw [hout.out];omega
  by_cases hlt:k<l.length
  ·obtain⟨b,off,D,dc,rfl,hb,g0,g1,g2,hD,hn1,hn2,hi1,hi2⟩:=(H1.out wr hB).wr hlt
   have hnn:(0:Int)≤k:=by omega
   have hki:(k:Int)<l.length:=by omega
   have hsz:=hB.size
   unfold maxLen at hn2
   obtain⟨y,hy⟩:∃ y,Hid (y=l[k]'hlt):=⟨_,Lib.hid rfl⟩
   rw [← hy.out] at g0 g1 g2 hn1 hi1 hi2
   obtain⟨v,s,data⟩:=y
   simp only at g0 g1 g2 hn1 hi1 hi2
   have hst:Hid (extL (l.take (k+1)) V=out++(if v=V then [(s,(data.length:Int))] else [])):=by
    rw [Hid,List.take_succ_eq_append_getElem hlt,extL_snoc, ← hout.out, ← hy.out]
   by_cases hv:v=V
   ·have hvb:(v==V)=true:=by simp [hv]
    have HV:=Lib.hid hv;clear hv
    have HO1:=Lib.hid (Own.alloc (Own.alloc hown.out (fun _ h=>h.1.2) (.cells #[.int .i64 v,.int .i64 s,.slice D data.length dc] 45)) (fun _ h=>by simp;have:=h.1.2;omega) (.cells #[.int .i64 s,.int .i64 data.length] 104))
    have HRD:Hid (encExt.rd ((wr.alloc (.cells #[.int .i64 v,.int .i64 s,.slice D data.length dc] 45)).alloc (.cells #[.int .i64 s,.int .i64 data.length] 104)) (fun b=>Nw w.heap.size wr.heap.size b∧(Value.slice B out.length vc).ownBlock≠some b) [.int .i64 s,.int .i64 data.length] (s,(data.length:Int))):=ext_mk (x:=(s,(data.length:Int))) hi2 (by unfold I64;simp only;omega)
    clear hi1 hi2
    go_wp2_with (at_builtin;refine Hid.out ?_)
    change wpList _ _ _ _ _ _
    refine wpList_app1 (E:=encExt) tyExts rfl _ _ rfl rfl HO1.out (s,(data.length:Int)) [.int .i64 s,.int .i64 data.length] rfl HRD.out (heap_new2 _ _ _) (fun _ h=>by simp;have:=h.1.2;omega) (by simp;omega) (by unfold maxLen;omega) (by omega) ?_
    intro A' c' w5 hown5 hg5 hat5
    have hlt1:∀ g,(Value.slice B out.length vc).ownBlock=some g→g<wr.heap.size:=fun g hg=>(hown.out.lt g hg).2
    have hok5:=Lib.hid (OwnW.app (hown5.more (S':=fun b=>Nw w.heap.size ((wr.alloc (.cells #[.int .i64 v,.int .i64 s,.slice D data.length dc] 45)).alloc (.cells #[.int .i64 s,.int .i64 data.length] 104)).heap.size b∧(Value.slice B out.length vc).ownBlock≠some b) (fun b hb=>⟨hb.1.mono (Nat.le_refl _) (by simp;omega),hb.2⟩) (OwnW_new hown5 hat5 hlt1 (by simp;omega))) hg5 hat5)
    have hB5:=Lib.hid ((ext_alloc (o := .cells #[.int .i64 s,.int .i64 data.length] 104) (ext_alloc (o := .cells #[.int .i64 v,.int .i64 s,.slice D data.length dc] 45) hB)).grown hg5 (by simp;omega) (fun g h=>(hown.out.lt g h).1))
    clear hown5 hg5 hat5 hlt1 g0 g1 g2
    go_wp2
    go_roundw
    case rel=>exact⟨k+1,A',c',out++[(s,(data.length:Int))],hlt,by go_num,by simp,hB5.out,by rw [Hid,hst.out,if_pos HV.out],by have:=hok5.out;simpa [Hid] using this⟩
    case measure=>simp [intOf];omega
   ·have hvb:(v==V)=false:=by simp [hv]
    have HV:=Lib.hid hv;clear hv
    have HO1:=Lib.hid (hown.out.below ((Below.refl _ _).alloc (Nat.le_refl _) (.cells #[.int .i64 v,.int .i64 s,.slice D data.length dc] 45)))
    go_wp2
    go_roundw
    case rel=>exact⟨k+1,B,vc,out,hlt,by go_num,rfl,ext_alloc hB,by rw [Hid,hst.out,if_neg HV.out,List.append_nil],HO1.out⟩
    case measure=>simp [intOf];omega
  ·have hkk:k=l.length:=by omega
   subst hkk
   obtain⟨_,p1,p2,p3⟩:=hown.out.parts
   have hext:opL or out []=runsL (secsOf l V):=by
    rw [hout.out,List.take_length]
    exact extents_law l V
   have HC:=Lib.hid (union_any B none vc 0 out.length 0 out [] _ rfl rfl hext wr (p3.more (fun _ h=>h.2)) SlAt.nil_ hol (by omega) ⟨p1,p2⟩ ⟨Nat.le_refl _,by unfold maxLen;omega⟩)
   have hsz:=hB.size
   clear hext p3
   go_wp2_with fail
   refine HC.out.mono ?_
   rintro e w1 ⟨Q,qc,rfl,k2,k3,k4,k5⟩
   have HK4:=Lib.hid k4;clear k4
   go_wp2
   go_ret
   exact⟨Q,qc,rfl,k2,k3,HK4.out.more (fun g h=>h.mono hsz (Nat.le_refl _)),ext_trans hB k5⟩
end Go.Proofs.YtgndgkjefgjamaaGreat
namespace Go.Proofs.YtgndgkjefgjamaaGreat
open Go.RowKit Go.Shelf
attribute [local go_sem] Oper.semAt_some

theorem tyExs37:SliceTy Tryz.prog 58 93 1 24:=sliceTy_mk (z := .slice none 0 0) Tryz.underlying58 (by kernel_rfl) rfl (by decide)
def chgL (xs:List Wr) (n:Nat):List (List Ext):=(List.range n).map fun (v:Nat)=>runsL (secsOf xs v)
theorem chgL_len (xs:List Wr) (n:Nat):(chgL xs n).length=n:=by simp [chgL]
theorem chgL_succ (xs:List Wr) (n:Nat):chgL xs (n+1)=chgL xs n++[runsL (secsOf xs n)]:=by simp [chgL,List.range_succ]
set_option maxHeartbeats 4000000 in
set_option maxRecDepth 100000 in
theorem clChanged_any (A A2 A3:Option Addr) (c c2 c3 n m p:Nat) (im:Img) (l:List Snp) (cl:List Cln) (nm:ByteArray) (w:World) (hn:im.length=n) (hm:l.length=m) (hp:cl.length=p) (h1:SlAt (encSl encSec) w (Bl w.heap.size) A im) (h2:SlAt encSnp w (Bl w.heap.size) A2 l) (h3:SlAt encCln w (Bl w.heap.size) A3 cl) (hL:ClLim (im,l) cl) (r:List (List Ext)) (hr:chgS ((im,l),cl) nm=r) (en:Int) (he:cfE ((im,l),cl) nm=en) :
  Calls Tryz.prog 28 #[.agg #[.slice A n c,.slice A2 m c2,.slice A3 p c3],.string nm] w (RetSlN (encSl encExt) r en w):=by
 subst hn hm hp
 have HRR0:=Lib.hid hr
 have HEN:=Lib.hid he
 clear hr he
 obtain⟨n0,hn0⟩:∃ n0,w.heap.size=n0:=⟨_,rfl⟩
 obtain⟨W0,hW0⟩:∃ W0,w.alloc (.cells #[.slice A im.length c,.slice A2 l.length c2,.slice A3 cl.length c3] 29)=W0:=⟨_,rfl⟩
 have hB0:Below n0 w W0:=by rw [← hW0, ← hn0];exact ext_alloc (Below.refl _ _)
 have hr0:W0.heap[n0]? = some (.cells #[.slice A im.length c,.slice A2 l.length c2,.slice A3 cl.length c3] 29 (0,0)):=by rw [← hW0, ← hn0];exact heap_alloc_new _ _
 obtain⟨n2,hn2⟩:∃ n2,W0.heap.size=n2:=⟨_,rfl⟩
 have hn02:n0<n2:=by rw [← hn2];exact (Array.getElem?_eq_some_iff.1 hr0).1
 have up:∀ {α:Type} {E:Enc α} {A:Option Addr} {l:List α},SlAt E w (Bl w.heap.size) A l→∀ W,Below n2 W0 W→SlAt E W (Bl W.heap.size) A l:=fun h W hb=>by
  rw [hn0] at h
  exact (h.blk (fun g hg=>(hb.block g (by have:g<n0:=hg;omega)).trans (hB0.block g hg))).more (fun g hg=>by have:g<n0:=hg;have:=hb.size;show g<W.heap.size;omega)
 have hB00:=Below.refl n2 W0
 have hl1:=hL.sn.ims
 have hl2:=hL.sn.its
 have hl3:=hL.its
 simp only at hl1 hl2
 have HLM:=Lib.hid hL
 have HN0:=Lib.hid hn0
 have HN2:=Lib.hid hn2
 have hN0:n0≤w.heap.size∧w.heap.size≤n0:=by omega
 have HBW:Hid (∀ W,Below n2 W0 W→Below w.heap.size w W):=fun W hb=>by rw [hn0];exact hB0.trans (hb.mono (by omega))
 have HFI:=Lib.hid (clFind_any A A2 A3 c c2 c3 im.length l.length cl.length im l cl nm W0 rfl rfl rfl (up h1 W0 hB00) (up h2 W0 hB00) (up h3 W0 hB00) HLM.out)
 obtain⟨p0,p1,p2,_⟩:=blk3 hr0
 clear h1 h2 h3 up hB0 hL hr0
 go_enter Tryz.func28,Tryz.ntmps28
 go_wp2_with fail
 refine HFI.out.mono ?_
 intro e w1 hf
 rcases hf with ⟨q,hq0,hqe,rfl,hb1⟩ | ⟨k,B,vc,D,dc,g,gc,m1,m2,hE0,hN0',rfl,hcr,hb1⟩
 ·rw [HN2.out] at hb1
  clear p0 p1 p2 HFI hn2 hn0 hW0
  obtain⟨ob,hob⟩:∃ ob,w1.heap.size=ob:=⟨_,rfl⟩
  have hq0':(q != 0)=true:=by simp [hq0]
  have HE:=Lib.hid hqe
  have HQ0:=Lib.hid hq0
  clear hq0 hqe
  obtain⟨w2,hw2⟩:∃ w2,w1.alloc (.cells #[.slice none 0 0,.slice none 0 0,.slice none 0 0] 29)=w2:=⟨_,rfl⟩
  have hb2:Below n2 W0 w2:=by rw [← hw2];exact hb1.alloc (by have:=hb1.size;have:=HN2.out;omega) _
  have HW2:=Lib.hid hw2
  clear hw2
  go_upto_region 2 with (fail)
  rw [HW2.out]
  clear HW2
  have hen:Hid (q=en):=by rw [Hid, ← HEN.out];exact HE.out.symm
  have hrr:Hid (r=[]):=by rw [Hid, ← HRR0.out,chgS,if_neg (by rw [HE.out];exact HQ0.out)]
  go_wp2_with fail
  go_ret2
  rw [hen.out,hrr.out]
  exact⟨none,0,rfl,by simp,by simp,SlAt.nil_,HBW.out w2 hb2⟩
 ·rw [HN2.out] at hb1
  clear p0 p1 p2 HFI hn2 hn0 hW0
  obtain⟨ob,hob⟩:∃ ob,w1.heap.size=ob:=⟨_,rfl⟩
  have HE:=Lib.hid hE0
  obtain⟨hck,hkl,hknm,hfd⟩:=cfE_ok hE0
  simp only at hkl hfd
  rw [hN0'] at hkl
  have HNK:=Lib.hid hN0'
  have HCKE:=Lib.hid hck
  obtain⟨w2,hw2⟩:∃ w2,w1.alloc (.cells #[.slice B im.length vc,.slice D l.length dc,.slice (some ⟨g,0,none⟩) cl.length gc] 29)=w2:=⟨_,rfl⟩
  have hb12:Below ob w1 w2:=by rw [← hw2, ← hob];exact ext_alloc (Below.refl _ _)
  have hr2:w2.heap[ob]? = some (.cells #[.slice B im.length vc,.slice D l.length dc,.slice (some ⟨g,0,none⟩) cl.length gc] 29 (0,0)):=by rw [← hw2, ← hob];exact heap_alloc_new _ _
  have hle:=hcr.le
  have hz1:=hb1.size
  have hN2:n2≤W0.heap.size∧W0.heap.size≤n2:=by have:=HN2.out;omega
  have hz2:ob<w2.heap.size:=(Array.getElem?_eq_some_iff.1 hr2).1
  have hb2:Below n2 W0 w2:=hb1.trans (hb12.mono (by omega))
  have hO2:OwnX (fun b=>b=ob) encCln w2 m2 87 (.slice (some ⟨g,0,none⟩) cl.length gc) cl:=(hcr.cl.var (X':=fun b=>b=ob) (fun g hg=>Or.inr (by rw [hob];omega))).below (by rw [hob];exact hb12)
  have HO2:=Lib.hid hO2
  have HCR:=Lib.hid hcr
  obtain⟨_,_,_,hS2⟩:=hO2.parts
  have hgl:=hO2.lt g rfl
  have hgo:g≠ob:=hO2.2 g rfl
  obtain⟨b',off',Dx,dx,hA',hbS,g0,g1,g2,hDx,hd1,hd2,hi1,hi2⟩:=hS2.cln hkl
  injection hA' with hA'
  injection hA' with hA1 hA2
  subst hA1 hA2
  obtain⟨xv,hxv⟩:∃ x,cl[k]=x:=⟨_,rfl⟩
  rw [hxv] at g0 g1 g2 hDx hd1 hi1 hi2
  have HXV:Hid (cAt ((im,l),cl) nm=xv):=by rw [Hid,cAt,hN0',List.getD_eq_getElem?_getD,List.getElem?_eq_getElem hkl];exact hxv
  have HXM:Hid (xv∈cl):=by rw [Hid, ← hxv];exact List.getElem_mem hkl
  obtain⟨xn,xnum,xs⟩:=xv
  simp only [Nat.zero_add] at g0 g1 g2 hDx hd1 hi1 hi2
  obtain⟨nq,hnq⟩:∃ nq,w2.heap.size=nq:=⟨_,rfl⟩
  have hnqs:nq≤w2.heap.size∧w2.heap.size≤nq:=by omega
  have HOC:Hid (∀ W,Below nq w2 W→W.cell? ⟨ob,0,none⟩=some (.slice B im.length vc)∧W.cell? ⟨ob,1,none⟩=some (.slice D l.length dc)∧W.cell? ⟨ob,2,none⟩=some (.slice (some ⟨g,0,none⟩) cl.length gc)):=fun W hb=>by
   obtain⟨a,b,d,_⟩:=blk3 ((hb.block ob (by omega)).trans hr2)
   exact⟨a,b,d⟩
  have HXC:Hid (∀ W,Below nq w2 W→W.cell? ⟨g,k * 3,none⟩=some (.string xn)∧W.cell? ⟨g,k * 3+1,none⟩=some (.int .i64 xnum)∧W.cell? ⟨g,k * 3+2,none⟩=some (.slice Dx xs.length dx)):=fun W hb=>by
   have hgg:∀ i,W.cell? ⟨g,i,none⟩=w2.cell? ⟨g,i,none⟩:=fun i=>World.cell?_of_block (hb.block g (by omega))
   exact⟨(hgg _).trans g0,(hgg _).trans g1,(hgg _).trans g2⟩
  have HXS:Hid (∀ W,Below nq w2 W→SlAt encWr W (Bl W.heap.size) Dx xs):=fun W hb=>(hDx.blk (fun x hx=>hb.block x (by have:=hx.1.2;omega))).more (fun x hx=>by have:=hx.1.2;have:=hb.size;show x<W.heap.size;omega)
  have HIM:Hid (∀ W,Below nq w2 W→SlAt (encSl encSec) W (Bl W.heap.size) B im∧SlAt encSnp W (Bl W.heap.size) D l):=fun W hb=>by
   have hz:=hb.size
   exact⟨(HCR.out.im.2.2.blk (fun x hx=>(hb.block x (by have:=hx.2;omega)).trans (hb12.block x (by have:=hx.2;omega)))).more (fun x hx=>by have:=hx.2;show x<W.heap.size;omega),(HCR.out.sn.2.2.blk (fun x hx=>(hb.block x (by have:=hx.2;omega)).trans (hb12.block x (by have:=hx.2;omega)))).more (fun x hx=>by have:=hx.2;show x<W.heap.size;omega)⟩
  have HBQ:Hid (∀ W,Below nq w2 W→Below n2 W0 W):=fun W hb=>hb2.trans (hb.mono (by omega))
  have HCAP:=Lib.hid (And.intro HCR.out.im.1 (And.intro HCR.out.im.2.1 (And.intro HCR.out.sn.1 HCR.out.sn.2.1)))
  have HW2:=Lib.hid hw2
  have hk0:(0:Int)≤k:=by omega
  have hk9:(k:Int)≤9223372036854775806:=by omega
  have hckl:cl.length≤16:=(clE_ok hck).2.1
  clear hw2 hcr hO2 hS2 hE0 hck hknm hfd hN0' g0 g1 g2 hDx hnq hxv hbS
  go_upto_region 2 with (fail)
  rw [HW2.out]
  clear HW2
  have hrr:Hid (chgL xs im.length=r):=by rw [Hid, ← HRR0.out,chgS,if_pos HE.out,HXV.out];rfl
  have hen:Hid ((0:Int)=en):=by rw [Hid, ← HEN.out];exact HE.out.symm
  have hxl:xs.length≤100000:=(HLM.out.ovl _ HXM.out).1
  have HXT:=Lib.hid (fun W (v:Nat) (hb:Below nq w2 W) (hv:v≤100000)=>extents_any Dx dx xs (v:Int) W (HXS.out W hb) hxl (by unfold I64;omega))
  obtain⟨q0,q1,q2⟩:=HOC.out w2 (Below.refl _ _)
  go_wp2_with fail
  clear q0 q1 q2
  go_loopw [9,25] (fun a i wr=>∃ (j:Nat) (F:Option Addr) (fc:Nat) (out:List (List Ext)),j≤im.length∧i = .int .i64 j∧a = .slice F out.length fc∧Below nq w2 wr∧nq≤wr.heap.size∧Hid (out=chgL xs j)∧Hid (OwnX (fun _=>False) (encSl encExt) wr nq 93 (.slice F out.length fc) out)) (fun _ i _=>im.length - (intOf i).toNat)
  case atStart=>exact⟨0,none,0,[],by omega,rfl,rfl,Below.refl _ _,by omega,rfl,OwnX.nil_⟩
  case round =>
   obtain⟨wo,rfl⟩:∃ wo:World,wo=wr:=⟨_,rfl⟩
   obtain⟨j,F,fc,out,hj,rfl,rfl,hB,hszo,hout,hown⟩:=hrel
   by_cases hlt:j<im.length
   ·have hki:(j:Int)<im.length:=by omega
    have hnn:(0:Int)≤j:=by omega
    have hol:out.length≤j:=by rw [hout.out,chgL_len];exact Nat.le_refl _
    obtain⟨q0,q1,q2⟩:=HXC.out wo hB
    obtain⟨row,hrow⟩:∃ x,runsL (secsOf xs (j:Int))=x:=⟨_,rfl⟩
    have HT:=HXT.out wo j hB (by omega)
    rw [hrow] at HT
    have HT2:=Lib.hid HT
    have HROW:=Lib.hid hrow
    clear HT hrow
    go_wp2_with fail
    refine HT2.out.mono ?_
    rintro e w4 ⟨A4,c4,rfl,k1,k2,k3,h4⟩
    have hO4:=Lib.hid ((hown.out.below h4).alloc (.cells #[.slice A4 row.length c4] 93))
    have hO4o:=Lib.hid hO4.out.1
    have hlt1:=Lib.hid hown.out.lt
    have hz4:=h4.size
    have HRD:Hid ((encSl encExt).rd (w4.alloc (.cells #[.slice A4 row.length c4] 93)) (fun g=>Nw nq (w4.alloc (.cells #[.slice A4 row.length c4] 93)).heap.size g∧¬ False∧(Value.slice F out.length fc).ownBlock≠some g) [.slice A4 row.length c4] row) :=
     ⟨A4,c4,rfl,k1,k2,OwnX.since (X:=fun _=>False) (B:=wo.heap.size) ((k3.blk (fun g hg=>Below.heap_alloc _ _ _ hg.2)).more (fun g hg=>hg.mono (Nat.le_refl _) (by simp))) hszo (fun g hg=>hg.elim) (fun g hg=>(hlt1.out g hg).2)⟩
    clear q0 q1 q2 k3 HT2
    go_wp2_with (at_builtin;refine Hid.out ?_)
    change wpList _ _ _ _ _ _
    refine wpList_app1 (E:=encSl encExt) tyExs37 rfl _ _ rfl rfl hO4o.out row [.slice A4 row.length c4] rfl HRD.out (heap_alloc_new _ _) (fun _ h=>h.1.2) (by simp;omega) (by unfold maxLen;omega) (by omega) ?_
    intro A5 c5 w5 hown5 hg5 hat5
    have hz5:=hg5.size
    rw [World.size_alloc] at hz5
    have hO5:Hid (OwnX (fun _=>False) (encSl encExt) w5 nq 93 (.slice A5 (out.length+1) c5) (out++[row])):=hO4.out.app hown5 hg5 hat5 (fun g hg=>hg.elim)
    have hB5:Below nq w2 w5:=hB.trans (((h4.mono hszo).alloc (by omega) (.cells #[.slice A4 row.length c4] 93)).grown hg5 (by simp;omega) (fun g h=>(hlt1.out g h).1))
    clear hown5 hg5 hat5 hO4 hO4o HRD h4
    go_wp2
    go_roundw
    case rel=>exact⟨j+1,A5,c5,out++[row],hlt,by go_num,by simp,hB5,by omega,by rw [Hid,chgL_succ,hout.out,HROW.out],by simpa [Hid] using hO5.out⟩
    case measure=>simp [intOf];omega
   ·have hkk:j=im.length:=by omega
    subst hkk
    have hki:¬ ((im.length:Int)<im.length):=by omega
    have he2:out=r:=by rw [hout.out];exact hrr.out
    subst he2
    obtain⟨_,b1,b2,b3⟩:=hown.out.parts
    have hbf:=HBW.out wo (HBQ.out wo hB)
    have hbz:=hb2.size
    have HB3:=Lib.hid (b3.more (S':=Nw w.heap.size wo.heap.size) (fun g hg=>⟨by have:=hg.1.1;omega,hg.1.2⟩))
    clear b3 hout hown hrr
    go_wp2
    go_ret2
    rw [hen.out]
    exact⟨F,fc,rfl,b1,b2,HB3.out,hbf⟩
end Go.Proofs.YtgndgkjefgjamaaGreat
namespace Go.Proofs.YtgndgkjefgjamaaGreat
open Go.RowKit Go.Shelf
attribute [local go_sem] Oper.semAt_some

set_option maxRecDepth 100000 in
set_option maxHeartbeats 4000000 in
theorem deleteC_any (g i r m c base:Nat) (S:Nat→Prop) (l:List Cln) (w:World) (hm:l.length=m) (hr:m=i+1+r) (h:Own encCln w base 87 S (.slice (some ⟨g,0,none⟩) m c) l) (hmx:m≤9223372036854775806) :
  Calls Tryz.prog 72 #[.slice (some ⟨g,0,none⟩) m c,.int .i64 i,.int .i64 ((i:Int)+1)] w fun e w'=>e = .returned (.slice (some ⟨g,0,none⟩) (i+r) c)∧Own encCln w' base 87 S (.slice (some ⟨g,0,none⟩) (i+r) c) (l.eraseIdx i)∧w.grownBy w' (some g):=by
 subst hm
 have hcap:l.length≤c:=by
  obtain⟨_,⟨_,hrow⟩,_⟩:=h
  rcases hrow with ⟨hv,_⟩ | ⟨_,_,_,hv,_,_,h1,_⟩
  ·cases hv
  ·simp only [Value.slice.injEq] at hv
   omega
 obtain⟨hg,hbase,vs,v1,v2,v3,v4,v5⟩:=Own.delete (w:=w.drew) (h.blk (fun _ _=>rfl)) i r hr
 simp only [show encCln.size=3 from rfl] at v1 v2 v4 v5
 have V5:=Lib.hid v5
 clear v5 h
 obtain⟨m,hm⟩:∃ m,l.length=m:=⟨_,rfl⟩
 rw [hm] at hr hmx hcap ⊢
 have HM:=Lib.hid hm
 clear hm
 have hi0:(0:Int)≤i:=by omega
 have hne:((i:Int)==(i:Int)+1)=false:=by simp;omega
 have him:(i:Int)+1≤m:=by omega
 obtain⟨zs,hz⟩:∃ zs:List Value,Hid (zs=[.string ⟨#[]⟩,.int .i64 0,.slice none 0 0]):=⟨_,rfl⟩
 obtain⟨k5,k6⟩:=V5.out zs (by rw [hz.out];rfl)
 have K6:=Lib.hid k6
 clear k6 V5
 obtain⟨Ad,hA,hsrc⟩:∃ A:Addr,(if c=i+1 then some (⟨g,0,none⟩:Addr) else some ⟨g,(i+1) * 3,none⟩)=some A∧Hid (∀ j u,vs[j]? = some u→w.drew.cell? (A.add j)=some u):=by
  by_cases h:c=i+1
  ·refine⟨⟨g,0,none⟩,by simp [h],fun t u hu => ?_⟩
   have h0:vs.length=0:=by rw [v1];omega
   rw [List.length_eq_zero_iff.1 h0] at hu
   simp at hu
  ·exact⟨⟨g,(i+1) * 3,none⟩,by simp [h],fun t u hu=>by rw [Addr.add_lit];exact v2 t u hu⟩
 have s1:=Lib.hid v1;have s2:=Lib.hid v3
 have s3:Hid (∀ t,t<vs.length→(w.drew.cell? ⟨g,0+i * 3+t,none⟩).isSome=true∧w.drew.frozen? ⟨g,0+i * 3+t,none⟩=false):=by rw [Nat.zero_add];exact v4
 obtain⟨W1,hW1⟩:∃ W1,W1=w.drew.setCells g (0+i * 3) vs:=⟨_,rfl⟩
 have hW:Hid (W1=w.drew.setCells g (0+i * 3) vs):=hW1
 rw [Nat.zero_add] at hW1
 rw [← hW1] at k5 K6
 have hcl:∀ ty,(Builtin.clear_ #[27] ty #[.slice (some ⟨g,(i+r) * 3,none⟩) 1 (c - (i+r))]).run Tryz.prog W1 = .ok (.tuple #[]) (W1.setCells g ((i+r) * 3) zs):=fun ty=>by
  rw [hz.out]
  exact run_clear1 W1 27 87 ty (.agg #[.string ⟨#[]⟩,.int .i64 0,.slice none 0 0]) #[.string ⟨#[]⟩,.int .i64 0,.slice none 0 0] Tryz.underlying27 (fun w=>by kernel_rfl) (by kernel_rfl) (by intro v hv;simp at hv;rcases hv with rfl | rfl | rfl <;> rfl) g ((i+r) * 3) _ (fun j hj=>(k5 j (by rw [hz.out];simpa using hj)).1) (fun j hj=>(k5 j (by rw [hz.out];simpa using hj)).2)
 clear k5 v1 v2 v3 v4 hW1
 obtain⟨i0,hi0',hz1⟩:∃ i0,Tryz.prog.info? 87=some i0∧i0.size=3:=⟨_,rfl,rfl⟩
 have hck:c≠i+r:=by omega
 have hb3:(0:Int)≤(i:Int)+(r:Int):=by omega
 have hb4:(i:Int)+(r:Int)≤(i:Int)+1+(r:Int):=by omega
 have hb5:(i:Int)+1+(r:Int)≤(c:Int):=by omega
 have hn1:i+1+r - (i+r)=1:=by omega
 have hmo:Tryz.prog.follows .mixedOrders=true:=by kernel_rfl
 have hb1:(0:Int)≤(i:Int)+1:=by omega
 have hb2:(i:Int)+1≤(i:Int)+1+(r:Int):=by omega
 have hic:i≤c:=by omega
 have hjc:i+1≤c:=by omega
 go_enter Tryz.func72,Tryz.ntmps72
 go_upto_region 5 with (fail)
 go_region_law_o (refine step_append_room rfl (.tmp 22) (.tmp 25) 27 rfl 87 i0 3 Tryz.underlying27 hi0' hz1 g 0 i c (by simp [Act.eval,Act.put]) Ad r (c - (i+1)) vs (by simp [Act.eval,Act.put];done) s1.out hsrc.out s2.out (by omega) s3.out ?_;rw [← hW.out])
 go_wp2
 go_ret
 rw [hW.out] at K6 ⊢
 exact⟨rfl,K6.out,grown_trans36 (grown_trans36 (grown_drew36 w _) (grown_setCells g vs (0+i * 3) w.drew)) (grown_setCells g zs _ _)⟩
def DelRetC (g k c lo:Nat) (X:Nat→Prop) (l:List Cln) (w:World) (e:Ending) (w':World):Prop :=
 e = .returned (.slice (some ⟨g,0,none⟩) (l.length - 1) c)∧OwnX X encCln w' lo 87 (.slice (some ⟨g,0,none⟩) (l.length - 1) c) (l.eraseIdx k)∧w.grownBy w' (some g)
theorem deleteCX (g k m c lo:Nat) (X:Nat→Prop) (l:List Cln) (w:World) (ii jj:Int) (hii:ii=k) (hjj:jj=(k:Int)+1) (hm:l.length=m) (hk:k<m) (h:OwnX X encCln w lo 87 (.slice (some ⟨g,0,none⟩) m c) l) (hmx:m≤9223372036854775806) :
  Calls Tryz.prog 72 #[.slice (some ⟨g,0,none⟩) m c,.int .i64 ii,.int .i64 jj] w (DelRetC g k c lo X l w):=by
 subst hii hjj
 refine (deleteC_any g k (m - (k+1)) m c lo _ l w hm (by omega) h.1 hmx).mono ?_
 rintro e w' ⟨rfl,h1,h2⟩
 have e1:k+(m - (k+1))=l.length - 1:=by omega
 rw [e1] at h1 ⊢
 exact⟨rfl,⟨h1.more (fun b hb=>⟨hb.1.mono (Nat.le_refl _) h2.size,hb.2.1,hb.2.2⟩) (fun b hb hS=>hS.2.2 hb),fun b hb=>h.2 b hb⟩,h2⟩

set_option maxHeartbeats 4000000 in
set_option maxRecDepth 100000 in
theorem clDelete_any (A A2 A3:Option Addr) (c c2 c3 n m p:Nat) (im:Img) (l:List Snp) (cl:List Cln) (nm:ByteArray) (w:World) (hn:im.length=n) (hm:l.length=m) (hp:cl.length=p) (h1:SlAt (encSl encSec) w (Bl w.heap.size) A im) (h2:SlAt encSnp w (Bl w.heap.size) A2 l) (h3:SlAt encCln w (Bl w.heap.size) A3 cl) (hL:ClLim (im,l) cl) :
  Calls Tryz.prog 24 #[.agg #[.slice A n c,.slice A2 m c2,.slice A3 p c3],.string nm] w (RetCl (cDel ((im,l),cl) nm) (cfE ((im,l),cl) nm) w):=by
 subst hn hm hp
 obtain⟨n0,hn0⟩:∃ n0,w.heap.size=n0:=⟨_,rfl⟩
 obtain⟨W0,hW0⟩:∃ W0,(w.alloc (.cells #[.slice A im.length c,.slice A2 l.length c2,.slice A3 cl.length c3] 29)).alloc (.cells #[.slice none 0 0,.slice none 0 0,.slice none 0 0] 29)=W0:=⟨_,rfl⟩
 have hB0:Below n0 w W0:=by rw [← hW0, ← hn0];repeat (first | exact Below.refl _ _ | refine ext_alloc ?_)
 have hr0:W0.heap[n0]? = some (.cells #[.slice A im.length c,.slice A2 l.length c2,.slice A3 cl.length c3] 29 (0,0)):=by rw [← hW0, ← hn0];exact (Below.heap_alloc _ _ _ (by simp)).trans (heap_alloc_new _ _)
 have hr1:W0.heap[n0+1]? = some (.cells #[.slice none 0 0,.slice none 0 0,.slice none 0 0] 29 (0,0)):=by rw [← hW0, ← hn0];exact heap_new2 _ _ _
 obtain⟨n2,hn2⟩:∃ n2,W0.heap.size=n2:=⟨_,rfl⟩
 have hn02:n0+1<n2:=by rw [← hn2];exact (Array.getElem?_eq_some_iff.1 hr1).1
 have up:∀ {α:Type} {E:Enc α} {A:Option Addr} {l:List α},SlAt E w (Bl w.heap.size) A l→∀ W,Below n2 W0 W→SlAt E W (Bl W.heap.size) A l:=fun h W hb=>by
  rw [hn0] at h
  exact (h.blk (fun g hg=>(hb.block g (by have:g<n0:=hg;omega)).trans (hB0.block g hg))).more (fun g hg=>by have:g<n0:=hg;have:=hb.size;show g<W.heap.size;omega)
 have H1:=Lib.hid (up h1)
 have H2:=Lib.hid (up h2)
 have H3:=Lib.hid (up h3)
 have HC:Hid (∀ W,Below n2 W0 W→W.cell? ⟨n0,0,none⟩=some (.slice A im.length c)∧W.cell? ⟨n0,1,none⟩=some (.slice A2 l.length c2)∧W.cell? ⟨n0,2,none⟩=some (.slice A3 cl.length c3)):=fun W hb=>by
  obtain⟨a,b,d,_⟩:=blk3 ((hb.block _ (by omega)).trans hr0)
  exact⟨a,b,d⟩
 have HRR:Hid (∀ W,Below n2 W0 W→W.heap[n0+1]? = some (.cells #[.slice none 0 0,.slice none 0 0,.slice none 0 0] 29 (0,0))):=fun W hb=>(hb.block _ (by omega)).trans hr1
 have HROW0:Hid (∀ W,Below n2 W0 W→W.heap[n0]? = some (.cells #[.slice A im.length c,.slice A2 l.length c2,.slice A3 cl.length c3] 29 (0,0))):=fun W hb=>(hb.block _ (by omega)).trans hr0
 have HBW:Hid (∀ W,Below n2 W0 W→Below w.heap.size w W):=fun W hb=>by rw [hn0];exact hB0.trans (hb.mono (by omega))
 have HN0:=Lib.hid hn0
 have HN2:=Lib.hid hn2
 have hN0:n0≤w.heap.size∧w.heap.size≤n0:=by omega
 have hl1:=hL.sn.ims
 have hl2:=hL.sn.its
 have hl3:=hL.its
 have HLM:=Lib.hid hL
 simp only at hl1 hl2
 obtain⟨s0,hs0⟩:∃ s0,clE ((im,l),cl)=s0:=⟨_,rfl⟩
 have HCK:=Lib.hid (fun W (hb:Below n2 W0 W)=>clCheck_any A A2 A3 c c2 c3 im.length l.length cl.length im l cl s0 W rfl rfl rfl hs0 (H1.out W hb) (H2.out W hb) (H3.out W hb) hl1 (by omega) (by omega))
 have HOW:=Lib.hid (fun W (hb:Below n2 W0 W)=>own37_any A A2 A3 c c2 c3 im.length l.length cl.length im l cl W rfl rfl rfl (H1.out W hb) (H2.out W hb) (H3.out W hb) HLM.out)
 have HS0:=Lib.hid hs0
 have hB00:=Below.refl n2 W0
 obtain⟨p0,p1,p2⟩:=HC.out W0 hB00
 clear h1 h2 h3 up hB0 hL hr0 hr1 hs0
 have HFI:=Lib.hid (clFind_any A A2 A3 c c2 c3 im.length l.length cl.length im l cl nm W0 rfl rfl rfl (H1.out W0 hB00) (H2.out W0 hB00) (H3.out W0 hB00) HLM.out)
 go_enter Tryz.func24,Tryz.ntmps24
 go_wp2_with fail
 refine HFI.out.mono ?_
 intro e w1 hf
 rcases hf with ⟨q,hq0,hqe,rfl,hb1⟩ | ⟨k,B,vc,D,dc,g,gc,m1,m2,hE0,hN0',rfl,hcr,hb1⟩
 ·rw [HN2.out] at hb1
  clear p0 p1 p2 HFI hn2 hn0 hW0
  obtain⟨ob,hob⟩:∃ ob,w1.heap.size=ob:=⟨_,rfl⟩
  have hq0':(q != 0)=true:=by simp [hq0]
  have HT:Hid (cDel ((im,l),cl) nm=zCls):=by rw [Hid,cDel,if_neg (by rw [hqe];exact hq0)]
  have HE:=Lib.hid hqe
  clear hq0 hqe
  obtain⟨w2,hw2⟩:∃ w2,w1.alloc (.cells #[.slice none 0 0,.slice none 0 0,.slice none 0 0] 29)=w2:=⟨_,rfl⟩
  have hb2:Below n2 W0 w2:=by rw [← hw2];exact hb1.alloc (by have:=hb1.size;have:=HN2.out;omega) _
  have hr2:=HRR.out w2 hb2
  have HW2:=Lib.hid hw2
  clear hw2
  go_upto_region 2 with (fail)
  rw [HW2.out]
  clear HW2
  obtain⟨v0,v1,v2,vf⟩:=blk3 hr2
  go_wp2_with fail
  have hend:=cl_end (w:=w) (x:=zCls) (A:=none) (c:=0) (D:=none) (d:=0) (G:=none) (g:=0) hr2 (by omega) (HBW.out w2 hb2) ClAt.zero q
  obtain⟨hz,hret⟩:=hend
  change bodyPost _ _ _ _ _ (sw3 w2 (n0+1) (.slice none (zCls).1.1.length 0) (.slice none (zCls).1.2.length 0) (.slice none (zCls).2.length 0))
  generalize sw3 w2 (n0+1) (.slice none (zCls).1.1.length 0) (.slice none (zCls).1.2.length 0) (.slice none (zCls).2.length 0)=W3 at hz hret ⊢
  obtain⟨z0,z1,z2,_⟩:=blk3 hz
  refine bodyPost_ret (v := .tuple #[.agg #[.slice none (zCls).1.1.length 0,.slice none (zCls).1.2.length 0,.slice none (zCls).2.length 0],.int .i64 q]) ?_ rfl ?_
  ·simp [results,Tryz.results24,Tryz.f24,go_sem,z0,z1,z2,zCls,zSns]
  rw [HT.out,HE.out];exact hret
 ·rw [HN2.out] at hb1
  clear p0 p1 p2 HFI hn2 hn0 hW0
  obtain⟨ob,hob⟩:∃ ob,w1.heap.size=ob:=⟨_,rfl⟩
  have HE:=Lib.hid hE0
  obtain⟨hck,hkl,hknm,hfd⟩:=cfE_ok hE0
  simp only at hkl hfd
  rw [hN0'] at hkl
  have HT:Hid (cDel ((im,l),cl) nm=((im,l),cl.eraseIdx k)):=by rw [Hid,cDel,if_pos hE0,hN0']
  have hiv:idxAt (isN nm) cl=(k:Int):=by
   rw [idxAt_find]
   have:cl.findIdx? (isN nm)=some k:=by rw [← hN0'];exact hfd
   rw [this]
  obtain⟨w2,hw2⟩:∃ w2,w1.alloc (.cells #[.slice B im.length vc,.slice D l.length dc,.slice (some ⟨g,0,none⟩) cl.length gc] 29)=w2:=⟨_,rfl⟩
  have hb12:Below ob w1 w2:=by rw [← hw2, ← hob];exact ext_alloc (Below.refl _ _)
  have hr2:w2.heap[ob]? = some (.cells #[.slice B im.length vc,.slice D l.length dc,.slice (some ⟨g,0,none⟩) cl.length gc] 29 (0,0)):=by rw [← hw2, ← hob];exact heap_alloc_new _ _
  have hle:=hcr.le
  have hz1:=hb1.size
  have hN2:n2≤W0.heap.size∧W0.heap.size≤n2:=by have:=HN2.out;omega
  have hz2:ob<w2.heap.size:=(Array.getElem?_eq_some_iff.1 hr2).1
  have hb2:Below n2 W0 w2:=hb1.trans (hb12.mono (by omega))
  have hO2:OwnX (fun b=>b=ob) encCln w2 m2 87 (.slice (some ⟨g,0,none⟩) cl.length gc) cl:=(hcr.cl.var (X':=fun b=>b=ob) (fun g hg=>Or.inr (by rw [hob];omega))).below (by rw [hob];exact hb12)
  have HO2:=Lib.hid hO2
  have HCR:=Lib.hid hcr
  obtain⟨_,_,_,hS2⟩:=hO2.parts
  have hgl:=hO2.lt g rfl
  have hgo:g≠ob:=hO2.2 g rfl
  have HIX:=Lib.hid (index37_any (some ⟨g,0,none⟩) gc cl.length cl nm w2 rfl (hS2.more (fun g hg=>hg.1.2)) (by omega) k hiv)
  have HW2:=Lib.hid hw2
  have hk0:(0:Int)≤k:=by omega
  have hk9:(k:Int)≤9223372036854775806:=by omega
  clear hw2 hcr hO2 hS2 hE0 hck hknm hfd hN0' hiv
  go_upto_region 4 with (fail)
  rw [HW2.out]
  clear HW2
  obtain⟨q0,q1,q2,qf⟩:=blk3 hr2
  go_wp2_with fail
  refine HIX.out.mono ?_
  rintro e w3 ⟨rfl,hb3⟩
  have hr3:=(hb3.block ob hz2).trans hr2
  have hb3':Below n2 W0 w3:=hb2.trans (hb3.mono (by omega))
  have hz3:=hb3.size
  have HDL:=Lib.hid (deleteCX g k cl.length gc m2 (fun b=>b=ob) cl w3 (k:Int) ((k:Int)+1) rfl rfl rfl hkl (HO2.out.below hb3) (by omega))
  clear q0 q1 q2 qf HIX
  obtain⟨q0,q1,q2,qf⟩:=blk3 hr3
  go_wp2_with fail
  refine HDL.out.mono ?_
  rintro e w4 ⟨rfl,hox,hg4⟩
  have hz4:=hg4.size
  have hr4:w4.heap[ob]? = some (.cells #[.slice B im.length vc,.slice D l.length dc,.slice (some ⟨g,0,none⟩) cl.length gc] 29 (0,0)):=(hg4.block ob (by omega) (fun e=>by injection e with e;exact hgo e.symm)).trans hr3
  have hb4:Below n2 W0 w4:=hb3'.grown hg4 (by omega) (fun b e=>by injection e with e;omega)
  have hk4:∀ x,x<m2→w4.heap[x]? = w1.heap[x]? := fun x hx=>(hg4.block x (by omega) (fun e=>by injection e with e;omega)).trans ((hb3.block x (by omega)).trans (hb12.block x (by omega)))
  obtain⟨xl,hxl⟩:∃ xl,cl.eraseIdx k=xl:=⟨_,rfl⟩
  have hlen:cl.length - 1=xl.length:=by rw [← hxl,List.length_eraseIdx,if_pos hkl]
  rw [hxl,hlen] at hox
  rw [hxl] at HT
  have HO4:=Lib.hid hox
  clear q0 q1 q2 qf hox hxl HDL
  rw [hlen]
  clear hlen
  obtain⟨q0,q1,q2,qf⟩:=blk3 hr4
  go_upto_region 6 with (fail)
  clear q0 q1 q2 qf
  change Code.wp _ _ _ _ (w4.setCell ⟨ob,2,none⟩ (.slice (some ⟨g,0,none⟩) xl.length gc))
  have hr8:(w4.setCell ⟨ob,2,none⟩ (.slice (some ⟨g,0,none⟩) xl.length gc)).heap[ob]? = some (.cells #[.slice B im.length vc,.slice D l.length dc,.slice (some ⟨g,0,none⟩) xl.length gc] 29 (0,0)):=blk3_set hr4 _
  have hO8:=Lib.hid (HO4.out.set (p:=⟨ob,2,none⟩) rfl (.slice (some ⟨g,0,none⟩) xl.length gc))
  have hk8:∀ x,x<m2→(w4.setCell ⟨ob,2,none⟩ (.slice (some ⟨g,0,none⟩) xl.length gc)).heap[x]? = w1.heap[x]? := fun x hx=>(heap_setCell_other _ _ _ _ (by show x≠ob;omega)).trans (hk4 x hx)
  have hbb8:Below n2 W0 (w4.setCell ⟨ob,2,none⟩ (.slice (some ⟨g,0,none⟩) xl.length gc)):=hb4.setCell (p:=⟨ob,2,none⟩) (by show n2≤ob;omega) _
  have hz8:w4.heap.size≤(w4.setCell ⟨ob,2,none⟩ (.slice (some ⟨g,0,none⟩) xl.length gc)).heap.size:=by simp [World.setCell]
  generalize w4.setCell ⟨ob,2,none⟩ (.slice (some ⟨g,0,none⟩) xl.length gc)=w8 at hr8 hO8 hk8 hbb8 hz8 ⊢
  obtain⟨_,y1,y2,y3⟩:=hO8.out.parts
  have HCL:Hid (ClAt (((im,l),xl):Cls) B vc D dc (some ⟨g,0,none⟩) gc (fun q=>w.heap.size≤q∧q<w8.heap.size∧q≠n0+1) w8):=by
   have h:=HCR.out
   exact⟨⟨h.im.1,h.im.2.1,(h.im.2.2.blk (fun g hg=>hk8 g (by have:=hg.2;omega))).more (fun g hg=>⟨by have:=hg.1;omega,by have:=hg.2;omega,by have:=hg.1;omega⟩)⟩,
    ⟨h.sn.1,h.sn.2.1,(h.sn.2.2.blk (fun g hg=>hk8 g hg.2)).more (fun g hg=>⟨by have:=hg.1;omega,by have:=hg.2;omega,by have:=hg.1;omega⟩)⟩,
    ⟨y1,y2,y3.more (fun g hg=>⟨by have:=hg.1.1;omega,hg.1.2,by have:=hg.1.1;omega⟩)⟩⟩
  obtain⟨q0,q1,q2,qf⟩:=blk3 hr8
  have hr18:=HRR.out w8 hbb8
  obtain⟨v0,v1,v2,vf⟩:=blk3 hr18
  clear hz8 hk4 hk8 y3
  go_wp2_with fail
  have hend:=cl_end (w:=w) (x:=(((im,l),xl):Cls)) (A:=B) (c:=vc) (D:=D) (d:=dc) (G:=(some ⟨g,0,none⟩)) (g:=gc) hr18 (by omega) (HBW.out w8 hbb8) HCL.out 0
  obtain⟨hz,hret⟩:=hend
  change bodyPost _ _ _ _ _ (sw3 w8 (n0+1) (.slice B ((((im,l),xl):Cls)).1.1.length vc) (.slice D ((((im,l),xl):Cls)).1.2.length dc) (.slice (some ⟨g,0,none⟩) ((((im,l),xl):Cls)).2.length gc))
  generalize sw3 w8 (n0+1) (.slice B ((((im,l),xl):Cls)).1.1.length vc) (.slice D ((((im,l),xl):Cls)).1.2.length dc) (.slice (some ⟨g,0,none⟩) ((((im,l),xl):Cls)).2.length gc)=W3 at hz hret ⊢
  obtain⟨z0,z1,z2,_⟩:=blk3 hz
  refine bodyPost_ret (v := .tuple #[.agg #[.slice B ((((im,l),xl):Cls)).1.1.length vc,.slice D ((((im,l),xl):Cls)).1.2.length dc,.slice (some ⟨g,0,none⟩) ((((im,l),xl):Cls)).2.length gc],.int .i64 0]) ?_ rfl ?_
  ·simp [results,Tryz.results24,Tryz.f24,go_sem,z0,z1,z2,zCls,zSns]
  rw [HT.out,HE.out];exact hret
end Go.Proofs.YtgndgkjefgjamaaGreat

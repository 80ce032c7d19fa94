/-
  The examples of the chapter clone: plain facts; a variable of clones; one, begin.; Extents found to be the same; the law's same.; The examples of the chapter clone: the walk.; Reference 37: Write.; The laws on clones: a variable of clones, and what each call does to it.; The memory of a run over clones: its state of 54 cells.; State.right of a run over clones: the walk.
-/
import Derived.BigQuiet
import Derived.Deep.DeepCutAuto
import Derived.Test.YtgndgkjefgjamaaGreatV01
import Derived.Test.YtgndgkjefgjamaaGreatV02
import Derived.Test.YtgndgkjefgjamaaGreatV03
import Derived.Test.YtgndgkjefgjamaaGreatV04
import Derived.Test.YtgndgkjefgjamaaGreatV05
import Derived.Test.YtgndgkjefgjamaaGreatV06
import Derived.Test.YtgndgkjefgjamaaGreatV07
import Derived.Test.YtgndgkjefgjamaaGreatV08
import Derived.Test.YtgndgkjefgjamaaGreatV09
import Derived.Test.YtgndgkjefgjamaaGreatV10
import Derived.Test.YtgndgkjefgjamaaGreatV11
import Derived.Test.YtgndgkjefgjamaaGreatV12
import Derived.Test.YtgndgkjefgjamaaGreatV13
import Derived.Test.YtgndgkjefgjamaaGreatV14
set_option linter.unusedVariables false
set_option linter.unusedSimpArgs false
set_option linter.unusedSectionVars false
set_option linter.unnecessarySimpa false
namespace Go.Proofs.YtgndgkjefgjamaaGreat
open Go.RowKit Go.Shelf
attribute [local go_sem] Oper.semAt_some

def bx0:Cls:=((imgB [1,2,3],[(1,0,[])]),[])
def bx1:Cls:=((imgB [1,2,3],[(1,0,[])]),[(⟨#[120]⟩,1,[])])
def bx2:Cls:=((imgB [1,2,3],[(1,0,[])]),[(⟨#[120]⟩,1,[wrB 1 [4]])])
def bx3:Cls:=((imgB [5,2,3],[(1,0,[wrB 0 [1]])]),[(⟨#[120]⟩,1,[wrB 1 [4]])])
def bx4:Cls:=((imgB [5,2,3],[(1,0,[wrB 0 [1]])]),[])
theorem bx_1:creS bx0 ⟨#[120]⟩ 1=bx1∧creE bx0 ⟨#[120]⟩ 1=0:=by decide +kernel
theorem bx_2:wrS bx1 ⟨#[120]⟩ (wrB 1 [4])=bx2∧wrE bx1 ⟨#[120]⟩ (wrB 1 [4])=0:=by decide +kernel
theorem bx_3:repS bx2 [wrB 0 [5]]=bx3∧repE bx2 [wrB 0 [5]]=0:=by decide +kernel
theorem bx_i:cIm bx3 ⟨#[120]⟩=imgB [1,4,3]∧cfE bx3 ⟨#[120]⟩=0:=by decide +kernel
theorem bx_c:chgS bx3 ⟨#[120]⟩=[[(1,1)]]:=by decide +kernel
theorem bx_d:dropS bx3 1=zCls∧dropE bx3 1=26:=by decide +kernel
theorem bx_4:cDel bx3 ⟨#[120]⟩=bx4:=by decide +kernel
theorem bx_5:dropE bx4 1=0:=by decide +kernel
theorem bx_6:creS bx3 ⟨#[49,120]⟩ 1=zCls∧creE bx3 ⟨#[49,120]⟩ 1=23:=by decide +kernel
theorem bx_few:fewC bx0=true∧fewC bx1=true∧fewC bx2=true∧fewC bx3=true∧fewC bx4=true:=by decide +kernel
theorem bx_b:sizesN (lens (imgB [1,2,3]))=0:=by decide +kernel

structure ClI (t:Nat) (x:Cls) (A:Option Addr) (c:Nat) (D:Option Addr) (d:Nat) (G:Option Addr) (g:Nat) (W:World):Prop where
 row:W.heap[t]? = some (.cells #[.slice A x.1.1.length c,.slice D x.1.2.length d,.slice G x.2.length g] 29 (0,0))
 at_:ClAt x A c D d G g (fun q=>q≠t∧q<W.heap.size) W
section
variable {t:Nat} {x x':Cls} {A D G:Option Addr} {c d g:Nat} {W W':World} {n':Int}
theorem ClI.lt (h:ClI t x A c D d G g W):t<W.heap.size:=(Array.getElem?_eq_some_iff.1 h.row).1
theorem ClI.below (h:ClI t x A c D d G g W) (hb:Below W.heap.size W W'):ClI t x A c D d G g W' :=
 ⟨(hb.block t h.lt).trans h.row,h.at_.keep (fun q hq=>hb.block q hq.2) (fun q hq=>⟨hq.1,by have:=hq.2;have:=hb.size;omega⟩)⟩
theorem ClI.store {lo:Nat} {c0 c1 c2:Value} (h:ClAt x A c D d G g (Nw lo W.heap.size) W) (hr:W.heap[t]? = some (.cells #[c0,c1,c2] 29 (0,0))) (hlo:t<lo):ClI t x A c D d G g (sw3 W t (.slice A x.1.1.length c) (.slice D x.1.2.length d) (.slice G x.2.length g)) :=
 ⟨sw3_row hr _ _ _,h.keep (fun q hq=>sw3_other (by have:=hq.1;omega) _ _ _) (fun q hq=>⟨by have:=hq.1;omega,by rw [sw3_sz];exact hq.2⟩)⟩
theorem ClI.made {lo:Nat} (h:ClAt x A c D d G g (Nw lo W.heap.size) W):ClI W.heap.size x A c D d G g (W.alloc (.cells #[.slice A x.1.1.length c,.slice D x.1.2.length d,.slice G x.2.length g] 29)) :=
 ⟨heap_alloc_new _ _,h.keep (fun q hq=>Below.heap_alloc _ _ _ hq.2) (fun q hq=>⟨by have:=hq.2;omega,by have:=hq.2;simp;omega⟩)⟩
theorem ClI.im (h:ClI t x A c D d G g W):SlAt (encSl encSec) W (Bl W.heap.size) A x.1.1:=h.at_.im.2.2.more (fun q hq=>hq.2)
theorem ClI.sn (h:ClI t x A c D d G g W):SlAt encSnp W (Bl W.heap.size) D x.1.2:=h.at_.sn.2.2.more (fun q hq=>hq.2)
theorem ClI.cl (h:ClI t x A c D d G g W):SlAt encCln W (Bl W.heap.size) G x.2:=h.at_.cl.2.2.more (fun q hq=>hq.2)
theorem ciCreate (h:ClI t x A c D d G g W) (hf:fewC x=true) {nm:ByteArray} {num:Int} (ha:creS x nm num=x'∧creE x nm num=n') (hn:nm.size≤maxLen) (hi:I64 num) :
  Calls Tryz.prog 12 #[.agg #[.slice A x.1.1.length c,.slice D x.1.2.length d,.slice G x.2.length g],.string nm,.int .i64 num] W (RetCl x' n' W):=by
 obtain⟨⟨im,l⟩,cl⟩:=x
 obtain⟨rfl,rfl⟩:=ha
 exact clCreate_any A D G c d g _ _ _ im l cl nm num W rfl rfl rfl h.im h.sn h.cl (fewC_lim hf).1.1 hn hi
theorem ciWrite (h:ClI t x A c D d G g W) (hf:fewC x=true) {nm:ByteArray} {v s:Int} {data:List Sec} {Dw:Option Addr} {dw wl:Nat} (hwl:data.length=wl) (ha:wrS x nm (v,s,data)=x'∧wrE x nm (v,s,data)=n') (h4:SlAt encSec W (Bl W.heap.size) Dw data) (hvs:I64 v∧I64 s) (hdl:wl≤1000000) (hdc:wl≤dw∧dw≤maxLen) :
  Calls Tryz.prog 19 #[.agg #[.slice A x.1.1.length c,.slice D x.1.2.length d,.slice G x.2.length g],.string nm,.agg #[.int .i64 v,.int .i64 s,.slice Dw wl dw]] W (RetCl x' n' W):=by
 obtain⟨⟨im,l⟩,cl⟩:=x
 obtain⟨rfl,rfl⟩:=ha
 exact clWrite_any A D G Dw c d g _ _ _ dw wl im l cl nm v s data W rfl rfl rfl hwl h.im h.sn h.cl h4 (fewC_lim hf).1.1 hvs hdl hdc
theorem ciReplicate (h:ClI t x A c D d G g W) (hf:fewC x=true) {L:Option Addr} {lc q:Nat} {ws:List Wr} (hq:ws.length=q) (ha:repS x ws=x'∧repE x ws=n') (h4:SlAt encWr W (Bl W.heap.size) L ws) (hwl:q≤1000) :
  Calls Tryz.prog 32 #[.agg #[.slice A x.1.1.length c,.slice D x.1.2.length d,.slice G x.2.length g],.slice L q lc] W (RetCl x' n' W):=by
 obtain⟨⟨im,l⟩,cl⟩:=x
 obtain⟨rfl,rfl⟩:=ha
 have hl:=fewC_lim hf
 exact clReplicate_any A D G c d g _ _ _ im l cl W rfl rfl rfl h.im h.sn h.cl hl.1.1 L lc q ws hq h4 hwl (fun y hy=>by have:=hl.2.2.1 y hy;omega)
theorem ciDrop (h:ClI t x A c D d G g W) (hf:fewC x=true) {num:Int} (ha:dropS x num=x'∧dropE x num=n') :
  Calls Tryz.prog 26 #[.agg #[.slice A x.1.1.length c,.slice D x.1.2.length d,.slice G x.2.length g],.int .i64 num] W (RetCl x' n' W):=by
 obtain⟨⟨im,l⟩,cl⟩:=x
 obtain⟨rfl,rfl⟩:=ha
 have hl:=fewC_lim hf
 exact clDrop_any A D G c d g _ _ _ im l cl W rfl rfl rfl h.im h.sn h.cl hl.1.1 num (fun y hy=>by have:=hl.2.2.1 y hy;omega)
theorem ciDelete (h:ClI t x A c D d G g W) (hf:fewC x=true) {nm:ByteArray} (ha:cDel x nm=x'∧cfE x nm=n') :
  Calls Tryz.prog 24 #[.agg #[.slice A x.1.1.length c,.slice D x.1.2.length d,.slice G x.2.length g],.string nm] W (RetCl x' n' W):=by
 obtain⟨⟨im,l⟩,cl⟩:=x
 obtain⟨rfl,rfl⟩:=ha
 exact clDelete_any A D G c d g _ _ _ im l cl nm W rfl rfl rfl h.im h.sn h.cl (fewC_lim hf).1.1
theorem ciImage (h:ClI t x A c D d G g W) (hf:fewC x=true) {nm:ByteArray} {r:Img} {k:Nat} (ha:cIm x nm=r∧cfE x nm=n') (hk:r.length=k) :
  Calls Tryz.prog 21 #[.agg #[.slice A x.1.1.length c,.slice D x.1.2.length d,.slice G x.2.length g],.string nm] W fun e w'=>∃ B vc,e = .returned (.tuple #[.slice B k vc,.int .i64 n'])∧k≤vc∧vc≤maxLen∧SlAt (encSl encSec) w' (Nw W.heap.size w'.heap.size) B r∧Below W.heap.size W w':=by
 obtain⟨⟨im,l⟩,cl⟩:=x
 subst hk
 exact clImage_any A D G c d g _ _ _ im l cl nm W rfl rfl rfl h.im h.sn h.cl (fewC_lim hf).1.1 r ha.1 n' ha.2
theorem ciChanged (h:ClI t x A c D d G g W) (hf:fewC x=true) {nm:ByteArray} {r:List (List Ext)} (hr:chgS x nm=r) (he:cfE x nm=n') :
  Calls Tryz.prog 28 #[.agg #[.slice A x.1.1.length c,.slice D x.1.2.length d,.slice G x.2.length g],.string nm] W (RetSlN (encSl encExt) r n' W):=by
 obtain⟨⟨im,l⟩,cl⟩:=x
 exact clChanged_any A D G c d g _ _ _ im l cl nm W rfl rfl rfl h.im h.sn h.cl (fewC_lim hf).1.1 r hr n' he
end
theorem one_any (s b:Int) (hs:I64 s) (hb:0≤b∧b<256) (w:World) :
  Calls Tryz.prog 45 #[.int .i64 s,.int .u8 b] w fun e w'=>∃ D,e = .returned (.agg #[.int .i64 0,.int .i64 s,.slice D 1 1])∧SlAt encSec w' (Nw w.heap.size w'.heap.size) D [sB b]∧Below w.heap.size w w':=by
 obtain⟨n0,hn0⟩:∃ n0,w.heap.size=n0:=⟨_,rfl⟩
 go_enter Tryz.func45,Tryz.ntmps45
 go_wp2
 obtain⟨W1,hW1⟩:∃ W1,(w.alloc (.cells #[.int .i64 0,.int .i64 s,.slice (some ⟨n0+1,0,none⟩) 1 1] 45)).alloc (.cells #[.int .u8 b,.int .u8 0,.int .u8 0,.int .u8 0,.int .u8 0,.int .u8 0,.int .u8 0,.int .u8 0] 95)=W1:=⟨_,rfl⟩
 rw [hW1]
 have hr0:W1.heap[n0]? = some (.cells #[.int .i64 0,.int .i64 s,.slice (some ⟨n0+1,0,none⟩) 1 1] 45 (0,0)):=by rw [← hW1, ← hn0];exact (Below.heap_alloc _ _ _ (by simp)).trans (heap_alloc_new _ _)
 have hr1:W1.heap[n0+1]? = some (.cells #[.int .u8 b,.int .u8 0,.int .u8 0,.int .u8 0,.int .u8 0,.int .u8 0,.int .u8 0,.int .u8 0] 95 (0,0)):=by rw [← hW1, ← hn0];exact heap_new2 _ _ _
 have hb1:Below w.heap.size w W1:=by rw [← hW1];exact ext_alloc (ext_alloc (Below.refl _ _))
 obtain⟨z0,z1,z2,_⟩:=blk3 hr0
 clear hW1
 refine bodyPost_ret (v := .agg #[.int .i64 0,.int .i64 s,.slice (some ⟨n0+1,0,none⟩) 1 1]) ?_ rfl ?_
 ·simp [results,Tryz.results45,Tryz.f45,go_sem,z0,z1,z2]
 ·exact⟨_,rfl,litS (E:=encSec) (S0:=fun _=>False) (css:=[secV (sB b)]) hr1 rfl ⟨⟨rfl,sB_ok hb⟩,trivial⟩ (fun _ h=>h.elim) ⟨by omega,(Array.getElem?_eq_some_iff.1 hr1).1⟩ (fun h=>h),hb1⟩
theorem snE_new {im:Img} (h:sizesN (lens im)=0):snE (im,[])=0∧takeE (im,[]) 1 0=0∧snE (im,[(1,0,[])])=0:=by
 have e1:snE (im,[])=0:=by simp [snE,h,snpsE]
 refine⟨e1, ?_, ?_⟩
 ·unfold takeE
  rw [e1]
  simp [lastN,lastT,inT]
 ·simp [snE,h,snpsE,snpE,inT,chkS,chkN,withPrev,errOf]
set_option maxHeartbeats 4000000 in
set_option maxRecDepth 100000 in
theorem begin_any (A:Option Addr) (c n:Nat) (im:Img) (w:World) (hn:im.length=n) (h1:SlAt (encSl encSec) w (Bl w.heap.size) A im) (hL:SnLim im []) (hz:sizesN (lens im)=0) :
  Calls Tryz.prog 44 #[.slice A n c] w fun e w'=>∃ A c D d G g,e = .returned (.tuple #[.agg #[.slice A n c,.slice D 1 d,.slice G 0 g],.bool true])∧ClAt ((im,[(1,0,[])]),[]) A c D d G g (Nw w.heap.size w'.heap.size) w'∧Below w.heap.size w w':=by
 subst hn
 obtain⟨n0,hn0⟩:∃ n0,w.heap.size=n0:=⟨_,rfl⟩
 obtain⟨W0,hW0⟩:∃ W0,w.alloc (.cells #[.slice none 0 0,.slice none 0 0,.slice none 0 0] 29)=W0:=⟨_,rfl⟩
 have hb0:Below n0 w W0:=by rw [← hW0, ← hn0];exact ext_alloc (Below.refl _ _)
 have hr0:W0.heap[n0]? = some (.cells #[.slice none 0 0,.slice none 0 0,.slice none 0 0] 29 (0,0)):=by rw [← hW0, ← hn0];exact heap_alloc_new _ _
 obtain⟨e1,e2,e3⟩:=snE_new hz
 have hl0:n0<W0.heap.size:=(Array.getElem?_eq_some_iff.1 hr0).1
 have HN:=Lib.hid (snNew_any A c im.length im W0 rfl ((h1.below (by rw [hn0];exact hb0)).more (fun g hg=>by have:g<w.heap.size:=hg;show g<W0.heap.size;omega)) hL)
 have en:newS im=(im,[]):=by rw [newS,if_pos hz]
 rw [en,hz] at HN
 have HL2:Hid (SnLim im [(1,0,[])]):=⟨hL.ims,hL.row,by simp,fun x hx=>by
  rw [List.mem_singleton.1 hx];exact⟨by simp,fun y hy=>by cases hy⟩⟩
 have HL:=Lib.hid hL
 have E2:Hid (takeE (im,[]) 1 0=0∧takeS (im,[]) 1 0=(im,[(1,0,[])])):=⟨e2,by rw [takeS,if_pos e2];rfl⟩
 have E3:Hid (snE (im,[(1,0,[])])=0∧clNew (im,[(1,0,[])])=((im,[(1,0,[])]),[])):=⟨e3,by rw [clNew,if_pos e3]⟩
 have hN0:n0≤w.heap.size∧w.heap.size≤n0:=by omega
 clear h1 hL e1 e2 e3 en hz
 go_enter Tryz.func44,Tryz.ntmps44
 go_wp2_with fail
 refine HN.out.mono ?_
 intro e w1 he
 obtain⟨B,vc,D,dc,rfl,⟨g1,g2,g3⟩,⟨g4,g5,g6⟩,hb1⟩:=he.rd
 simp only at g1 g3 g4 g6
 have hb1w:Below n0 w w1:=hb0.trans (hb1.mono (by omega))
 have hr1:=(hb1.block n0 hl0).trans hr0
 obtain⟨w2,hw2⟩:∃ w2,w1.alloc (.cells #[.slice B im.length vc,.slice D 0 dc] 26)=w2:=⟨_,rfl⟩
 obtain⟨tb,htb⟩:∃ tb,w1.heap.size=tb:=⟨_,rfl⟩
 have hb12:Below tb w1 w2:=by rw [← hw2, ← htb];exact ext_alloc (Below.refl _ _)
 have hr2:w2.heap[tb]? = some (.cells #[.slice B im.length vc,.slice D 0 dc] 26 (0,0)):=by rw [← hw2, ← htb];exact heap_alloc_new _ _
 have hl2:tb<w2.heap.size:=(Array.getElem?_eq_some_iff.1 hr2).1
 have hz1:=hb1.size
 have hnt:n0<tb∧tb≤w1.heap.size∧w1.heap.size≤tb:=by omega
 have HTK:=Lib.hid (snTake_any B D vc dc im.length 0 im [] 1 0 w2 rfl rfl ((g3.blk (fun g hg=>hb12.block g (by have:=hg.2;omega))).more (fun g hg=>by have:=hg.2;show g<w2.heap.size;omega)) SlAt.nil_ HL.out ⟨by unfold I64;omega,by unfold I64;omega⟩)
 rw [E2.out.1,E2.out.2] at HTK
 have hr02:=(hb12.block n0 (by omega)).trans hr1
 have hb2w:Below n0 w w2:=hb1w.trans (hb12.mono (by omega))
 clear HN he g3 g6 hb0 hr0 hr1
 obtain⟨q0,q1,qf⟩:=blk2 hr2
 go_upto_region 2 with (fail)
 clear hw2 htb
 go_wp2_with fail
 refine HTK.out.mono ?_
 intro e w3 he
 obtain⟨B,vc,D,dc,rfl,⟨g1,g2,g3⟩,⟨g4,g5,g6⟩,hb3⟩:=he.rd
 simp only at g1 g3 g4 g6
 have hr3:=(hb3.block tb hl2).trans hr2
 have hr03:=(hb3.block n0 (by omega)).trans hr02
 have hb3w:Below n0 w w3:=hb2w.trans (hb3.mono (by omega))
 have hz3:=hb3.size
 clear q0 q1 qf HTK he hW0 hn0
 obtain⟨q0,q1,qf⟩:=blk2 hr3
 go_upto_region 3 with (fail)
 change Code.wp _ _ _ _ ((w3.setCell ⟨tb,0,none⟩ (.slice B im.length vc)).setCell ⟨tb,1,none⟩ (.slice D 1 dc))
 have hr4:=blk2_set hr3 (.slice B im.length vc) (.slice D 1 dc)
 have hk4:∀ g,g≠tb→((w3.setCell ⟨tb,0,none⟩ (.slice B im.length vc)).setCell ⟨tb,1,none⟩ (.slice D 1 dc)).heap[g]? = w3.heap[g]? := fun g hg=>(heap_setCell_other _ _ _ _ hg).trans (heap_setCell_other _ _ _ _ hg)
 have hz4:((w3.setCell ⟨tb,0,none⟩ (.slice B im.length vc)).setCell ⟨tb,1,none⟩ (.slice D 1 dc)).heap.size=w3.heap.size:=by simp [World.setCell]
 have hb4w:Below n0 w ((w3.setCell ⟨tb,0,none⟩ (.slice B im.length vc)).setCell ⟨tb,1,none⟩ (.slice D 1 dc)):=(hb3w.setCell (p:=⟨tb,0,none⟩) (by show n0≤tb;omega) _).setCell (p:=⟨tb,1,none⟩) (by show n0≤tb;omega) _
 have hr04:=(hk4 n0 (by omega)).trans hr03
 have hI:=(g3.blk (fun g hg=>hk4 g (by have:=hg.1;omega)))
 have hS:=(g6.blk (fun g hg=>hk4 g (by have:=hg.1;omega)))
 generalize (w3.setCell ⟨tb,0,none⟩ (.slice B im.length vc)).setCell ⟨tb,1,none⟩ (.slice D 1 dc)=w4 at hr4 hz4 hb4w hr04 hI hS ⊢
 clear q0 q1 qf hk4 g3 g6
 obtain⟨q0,q1,qf⟩:=blk2 hr4
 have HCN:=Lib.hid (clNew_any B D vc dc im.length 1 im [(1,0,[])] w4 rfl rfl (hI.more (fun g hg=>by have:=hg.2;show g<w4.heap.size;omega)) (hS.more (fun g hg=>by have:=hg.2;show g<w4.heap.size;omega)) HL2.out)
 rw [E3.out.1,E3.out.2] at HCN
 have hl4:n0<w4.heap.size:=(Array.getElem?_eq_some_iff.1 hr04).1
 clear hI hS
 go_wp2_with fail
 refine HCN.out.mono ?_
 rintro e w5 ⟨A5,c5,D5,d5,G5,g5',rfl,hat,hb5⟩
 have hr05:=(hb5.block n0 hl4).trans hr04
 have hb5w:Below n0 w w5:=hb4w.trans (hb5.mono (by omega))
 have hz5:=hb5.size
 clear q0 q1 qf HCN
 obtain⟨w6,hw6⟩:∃ w6,w5.alloc (.cells #[.slice A5 im.length c5,.slice D5 1 d5,.slice G5 0 g5'] 29)=w6:=⟨_,rfl⟩
 have hb6:Below w5.heap.size w5 w6:=by rw [← hw6];exact ext_alloc (Below.refl _ _)
 have hr6:w6.heap[w5.heap.size]? = some (.cells #[.slice A5 im.length c5,.slice D5 1 d5,.slice G5 0 g5'] 29 (0,0)):=by rw [← hw6];exact heap_alloc_new _ _
 have hr06:=(hb6.block n0 (by omega)).trans hr05
 have hb6w:Below n0 w w6:=hb5w.trans (hb6.mono (by omega))
 have HAT:Hid (ClAt ((im,[(1,0,[])]),[]) A5 c5 D5 d5 G5 g5' (fun q=>w.heap.size≤q∧q<w6.heap.size∧q≠n0) w6):=hat.keep (fun b hb=>hb6.block b hb.2) (fun b hb=>⟨by have:=hb.1;have:=hb4w.size;omega,by have:=hb.2;have:=hb6.size;omega,by have:=hb.1;omega⟩)
 obtain⟨u5,hu5⟩:∃ u5,w5.heap.size=u5:=⟨_,rfl⟩
 rw [hu5] at hr6
 have HW6:=Lib.hid hw6
 clear hat hw6
 go_upto_region 4 with (fail)
 try rw [HW6.out]
 try rw [hu5]
 clear HW6 hu5
 obtain⟨q0,q1,q2,qf⟩:=blk3 hr6
 obtain⟨v0,v1,v2,vf⟩:=blk3 hr06
 go_wp2_with fail
 have hb7:Below w.heap.size w (sw3 w6 n0 (.slice A5 im.length c5) (.slice D5 1 d5) (.slice G5 0 g5')):=(sw3_below hb6w (Nat.le_refl _) _ _ _).mono hN0.2
 have hz:=sw3_row hr06 (.slice A5 im.length c5) (.slice D5 1 d5) (.slice G5 0 g5')
 have hfin:ClAt ((im,[(1,0,[])]),[]) A5 c5 D5 d5 G5 g5' (Nw w.heap.size (sw3 w6 n0 (.slice A5 im.length c5) (.slice D5 1 d5) (.slice G5 0 g5')).heap.size) (sw3 w6 n0 (.slice A5 im.length c5) (.slice D5 1 d5) (.slice G5 0 g5')):=HAT.out.keep (fun b hb=>sw3_other hb.2.2 _ _ _) (fun b hb=>⟨hb.1,by rw [sw3_sz];exact hb.2.1⟩)
 change bodyPost _ _ _ _ _ (sw3 w6 n0 (.slice A5 im.length c5) (.slice D5 1 d5) (.slice G5 0 g5'))
 generalize sw3 w6 n0 (.slice A5 im.length c5) (.slice D5 1 d5) (.slice G5 0 g5')=W3 at hz hb7 hfin ⊢
 obtain⟨z0,z1,z2,_⟩:=blk3 hz
 refine bodyPost_ret (v := .tuple #[.agg #[.slice A5 im.length c5,.slice D5 1 d5,.slice G5 0 g5'],.bool true]) ?_ rfl ⟨A5,c5,D5,d5,G5,g5',rfl,hfin,hb7⟩
 simp [results,Tryz.results44,Tryz.f44,go_sem,z0,z1,z2]
end Go.Proofs.YtgndgkjefgjamaaGreat
namespace Go.Proofs.YtgndgkjefgjamaaGreat
open Go.RowKit Go.Shelf
attribute [local go_sem] Oper.semAt_some

set_option maxHeartbeats 1000000 in
theorem sameExt02_any (A A':Option Addr) (c c':Nat) (S S':Nat→Prop) (ss ts:List _) (w:World) (h1:SlAt encExt w S A ss) (h2:SlAt encExt w S' A' ts) (hs:ss.length≤9223372036854775807) (ht:ts.length≤9223372036854775807) :
  Calls Tryz.prog 46 #[.slice A ss.length c,.slice A' ts.length c'] w fun e w'=>e = .returned (.bool (ss==ts))∧Drew w w':=by
 by_cases hl:ss.length=ts.length
 ·have hl':(((ss.length:Nat):Int) != (ts.length:Int))=false:=by simp [hl]
  have HL:=Lib.hid hl;clear hl
  go_enter Tryz.func46,Tryz.ntmps46
  go_wp2
  go_loopw [5] (fun i wr=>∃ k:Nat,k≤ss.length∧i = .int .i64 k∧Drew w wr∧Hid (ss.take k=ts.take k)) (fun i _=>ss.length - (intOf i).toNat)
  case atStart=>exact⟨0,by omega,rfl,Drew.refl _,by simp [Hid]⟩
  case round =>
   obtain⟨k,hk,rfl,hd,hp⟩:=hrel
   replace h1:=h1.drew hd
   replace h2:=h2.drew hd
   by_cases hlt:k<ss.length
   ·have hlt2:k<ts.length:=by have:=HL.out;omega
    obtain⟨b,off,rfl,hb,g0,g1,_,_⟩:=h1.ext hlt
    obtain⟨b',off',rfl,hb',k0,k1,_,_⟩:=h2.ext hlt2
    have hnn:(0:Int)≤k:=by omega
    have hki:(k:Int)<ss.length:=by omega
    have hki2:(k:Int)<ts.length:=by omega
    obtain⟨q,hqq⟩:∃ q,Hid ((ss[k]'hlt==ts[k]'hlt2)=q):=⟨_,Lib.hid rfl⟩
    have hq:=fun W=>run_eq_ext W (ss[k]'hlt).1 (ss[k]'hlt).2 (ts[k]'hlt2).1 (ts[k]'hlt2).2
    rw [hqq.out] at hq
    go_wp2
    go_quiet (fail)
    cases q with
    | true =>
      go_wp2
      go_roundw
      case rel=>exact⟨k+1,hlt,by go_num,hd.step _,take_succ_eq _ _ _ hlt hlt2 hp (eq_of_beq hqq.out)⟩
      case measure=>simp [intOf];omega
    | false =>
      go_wp2
      go_ret
      refine⟨ret_bool ?_,hd.step _⟩
      rw [eq_comm,beq_eq_false_iff_ne]
      intro e
      subst e
      have:=hqq.out
      simp at this
   ·have:k=ss.length:=by omega
    subst this
    go_wp2
    go_ret
    refine⟨ret_bool ?_,hd⟩
    have:=hp.out
    rw [List.take_length,List.take_of_length_le (by rw [HL.out];omega)] at this
    simp [this]
 ·have hl':(((ss.length:Nat):Int) != (ts.length:Int))=true:=by simp;omega
  have HL:=Lib.hid hl;clear hl
  go_enter Tryz.func46,Tryz.ntmps46
  go_wp2
  go_ret
  refine⟨ret_bool ?_,Drew.refl _⟩
  rw [eq_comm,beq_eq_false_iff_ne]
  intro e
  exact HL.out (by rw [e])
theorem sameExt02_true (A A':Option Addr) (c c' n:Nat) (S S':Nat→Prop) (l:List Ext) (w:World) (hn:l.length=n) (h1:SlAt encExt w S A l) (h2:SlAt encExt w S' A' l) (hs:n≤9223372036854775807) :
  Calls Tryz.prog 46 #[.slice A n c,.slice A' n c'] w fun e w'=>e = .returned (.bool true)∧Drew w w':=by
 subst hn
 have h:=sameExt02_any A A' c c' S S' l l w h1 h2 hs hs
 rw [beq_self_eq_true] at h
 exact h
end Go.Proofs.YtgndgkjefgjamaaGreat
namespace Go.Proofs.YtgndgkjefgjamaaGreat
open Go.RowKit Go.Shelf
attribute [local go_sem] Oper.semAt_some

theorem bxBegin {W:World} {A:Option Addr} (h1:SlAt (encSl encSec) W (Bl W.heap.size) A (imgB [1,2,3])) :
  Calls Tryz.prog 44 #[.slice A 1 1] W fun e w'=>∃ A c D d G g,e = .returned (.tuple #[.agg #[.slice A bx0.1.1.length c,.slice D bx0.1.2.length d,.slice G bx0.2.length g],.bool true])∧ClAt bx0 A c D d G g (Nw W.heap.size w'.heap.size) w'∧Below W.heap.size W w' :=
 begin_any A 1 1 (imgB [1,2,3]) W rfl h1 ⟨by decide,by decide,by decide,fun x hx=>by cases hx⟩ bx_b
set_option maxHeartbeats 8000000 in
set_option maxRecDepth 100000 in
theorem awake37_any (w:World):Calls Tryz.prog 11 #[] w fun e w'=>e = .returned (.bool true)∧Below w.heap.size w w':=by
 obtain⟨n0,hn0⟩:∃ n0,w.heap.size=n0:=⟨_,rfl⟩
 rw [hn0]
 go_enter Tryz.func11,Tryz.ntmps11
 go_wp2_with fail
 try rw [hn0]
 obtain⟨W1,hW1⟩:∃ W1,(w.alloc (.cells #[.int .u8 1,.int .u8 0,.int .u8 0,.int .u8 0,.int .u8 0,.int .u8 0,.int .u8 0,.int .u8 0,.int .u8 2,.int .u8 0,.int .u8 0,.int .u8 0,.int .u8 0,.int .u8 0,.int .u8 0,.int .u8 0,.int .u8 3,.int .u8 0,.int .u8 0,.int .u8 0,.int .u8 0,.int .u8 0,.int .u8 0,.int .u8 0] 95)).alloc (.cells #[.slice (some ⟨n0,0,none⟩) 3 3] 43)=W1:=⟨_,rfl⟩
 try rw [hW1]
 have hs1:W1.heap.size=n0+2:=by rw [← hW1, ← hn0];simp
 have hB1:Below n0 w W1:=by rw [← hW1, ← hn0];exact ext_alloc (ext_alloc (Below.refl _ _))
 have hI1:SlAt (encSl encSec) W1 (Bl W1.heap.size) (some ⟨n0+1,0,none⟩) (imgB [1,2,3]):=by
  have r1:W1.heap[n0]? = some (.cells #[.int .u8 1,.int .u8 0,.int .u8 0,.int .u8 0,.int .u8 0,.int .u8 0,.int .u8 0,.int .u8 0,.int .u8 2,.int .u8 0,.int .u8 0,.int .u8 0,.int .u8 0,.int .u8 0,.int .u8 0,.int .u8 0,.int .u8 3,.int .u8 0,.int .u8 0,.int .u8 0,.int .u8 0,.int .u8 0,.int .u8 0,.int .u8 0] 95 (0,0)):=by rw [← hW1, ← hn0];exact (Below.heap_alloc _ _ _ (by simp)).trans (heap_alloc_new _ _)
  have r2:W1.heap[n0+1]? = some (.cells #[.slice (some ⟨n0,0,none⟩) 3 3] 43 (0,0)):=by rw [← hW1, ← hn0];exact heap_new2 _ _ _
  exact (litImg (l:=[1,2,3]) r1 rfl (by decide) r2 rfl (by decide) (by omega)).more (fun g hg=>by show g<W1.heap.size;omega)
 have HBG:=Lib.hid (bxBegin hI1)
 obtain⟨x0,hx0⟩:∃ x,bx0=x:=⟨_,rfl⟩
 obtain⟨x1,hx1⟩:∃ x,bx1=x:=⟨_,rfl⟩
 obtain⟨x2,hx2⟩:∃ x,bx2=x:=⟨_,rfl⟩
 obtain⟨x3,hx3⟩:∃ x,bx3=x:=⟨_,rfl⟩
 obtain⟨x4,hx4⟩:∃ x,bx4=x:=⟨_,rfl⟩
 obtain⟨xz,hxz⟩:∃ x,zCls=x:=⟨_,rfl⟩
 obtain⟨x5,hx5⟩:∃ x,dropS bx4 1=x:=⟨_,rfl⟩
 have b1:=bx_1;have b2:=bx_2;have b3:=bx_3;have bi:=bx_i;have bc:=bx_c;have bd:=bx_d;have b4:=bx_4;have b5:=bx_5;have b6:=bx_6;have bf:=bx_few
 rw [hx4] at b5 hx5
 rw [hx0] at b1 bf HBG
 rw [hx1] at b1 b2 bf
 rw [hx2] at b2 b3 bf
 rw [hx3] at b3 bi bc bd b4 b6 bf
 rw [hx4] at b4 bf
 rw [hxz] at bd b6
 obtain⟨f0,f1,f2,f3,f4⟩:=bf
 have B1:=Lib.hid b1;have B2:=Lib.hid b2;have B3:=Lib.hid b3;have BI:=Lib.hid bi;have BC:=Lib.hid bc;have BD:=Lib.hid bd;have B4:=Lib.hid b4;have B5:=Lib.hid b5;have B6:=Lib.hid b6;have X5:=Lib.hid hx5
 have F0:=Lib.hid f0;have F1:=Lib.hid f1;have F2:=Lib.hid f2;have F3:=Lib.hid f3;have F4:=Lib.hid f4
 clear hx0 hx1 hx2 hx3 hx4 hx5 hxz b1 b2 b3 bi bc bd b4 b5 b6 f0 f1 f2 f3 f4 hI1
 have hi1:I64 1:=by unfold I64;omega
 have hi0:I64 0:=by unfold I64;omega
 refine HBG.out.mono ?_
 rintro e w5 ⟨A5,c5,D5,d5,G5,g5,rfl,hat,hb5⟩
 have hz5:=hb5.size
 obtain⟨t,ht⟩:∃ t,w5.heap.size=t:=⟨_,rfl⟩
 have hN6:=ClI.made hat
 have hB6:Below n0 w (w5.alloc (.cells #[.slice A5 x0.1.1.length c5,.slice D5 x0.1.2.length d5,.slice G5 x0.2.length g5] 29)):=(hB1.trans (hb5.mono (by omega))).alloc (by omega) _
 clear hat HBG
 go_upto_region 2 with (fail)
 try rw [ht]
 rw [ht] at hN6
 generalize w5.alloc (.cells #[.slice A5 x0.1.1.length c5,.slice D5 x0.1.2.length d5,.slice G5 x0.2.length g5] 29)=W6 at hN6 hB6 ⊢
 have hnt:n0≤t:=by omega
 have hAB:=And.intro hN6 hB6
 clear hN6 hB6 hb5 hz5 ht hW1 hs1 hB1
 revert W6
 intro W3 hAB
 have hA:=Lib.hid hAB.1
 have hB3:=hAB.2
 clear hAB
 obtain⟨c0,c1,c2,cf⟩:=blk3 hA.out.row
 have htl:t<W3.heap.size:=hA.out.lt
 have hnW:n0≤W3.heap.size:=by omega
 go_wp2_with fail
 refine (ciCreate hA.out F0.out B1.out (by decide) hi1).mono ?_
 rintro e w5 ⟨A5,c5,D5,d5,G5,g5,rfl,hat,hb5⟩
 have hA5:=Lib.hid (hA.out.below hb5)
 have hB5:Below n0 w w5:=hB3.trans (hb5.mono (by omega))
 clear c0 c1 c2 cf
 -- the variable is stored behind a call
 obtain⟨v0,v1,v2,vf⟩:=blk3 hA5.out.row
 have hA6:=ClI.store hat hA5.out.row htl
 have hB6:Below n0 w (sw3 w5 t (.slice A5 (x1).1.1.length c5) (.slice D5 (x1).1.2.length d5) (.slice G5 (x1).2.length g5)):=sw3_below hB5 hnt _ _ _
 clear hat
 go_upto_region 3 with (fail)
 change Code.wp _ _ _ _ (sw3 w5 t (.slice A5 (x1).1.1.length c5) (.slice D5 (x1).1.2.length d5) (.slice G5 (x1).2.length g5))
 clear v0 v1 v2 vf
 generalize sw3 w5 t (.slice A5 (x1).1.1.length c5) (.slice D5 (x1).1.2.length d5) (.slice G5 (x1).2.length g5)=W6 at hA6 hB6 ⊢
 have hAB:=And.intro hA6 hB6
 clear hA6 hB6 hA5 hB5 hb5 hA hB3 htl hnW
 revert W6
 intro W3 hAB
 have hA:=Lib.hid hAB.1
 have hB3:=hAB.2
 clear hAB
 obtain⟨c0,c1,c2,cf⟩:=blk3 hA.out.row
 have htl:t<W3.heap.size:=hA.out.lt
 have hnW:n0≤W3.heap.size:=by omega
 go_cut [4] (fun e wx=>e = .int .i64 0∧(∃ A c D d G g,ClI t x2 A c D d G g wx)∧Below n0 w wx)
 case first =>
  have hbd:Below W3.heap.size W3 W3.drew:=(Below.refl _ _).drew
  go_region_law (first | (go_simp;go_at_call 19;refine HWR.out.mono ?_;rintro e w5 ⟨A5,c5,D5,d5,G5,g5,rfl,hat,hb5⟩;have hA5:=Lib.hid (hA4.out.below hb5);obtain⟨v0,v1,v2,vf⟩:=blk3 hA5.out.row) | (go_simp;go_at_call 45;refine (one_any 1 4 hi1 (by decide) W3.drew).mono ?_;rintro e w4 ⟨D4,rfl,hs4,hb4⟩;have hx4:Below W3.heap.size W3 w4:=ext_trans hbd hb4;have hA4:=Lib.hid (hA.out.below hx4);obtain⟨u0,u1,u2,_⟩:=blk3 hA4.out.row;have HWR:=Lib.hid (ciWrite (dw:=1) (wl:=1) hA4.out F1.out rfl B2.out (hs4.more (fun g hg=>hg.2)) ⟨hi0,hi1⟩ (by decide) (by decide))))
  all_goals
   have hz4:=hx4.size
   have hB5:Below n0 w w5:=(hB3.trans (hx4.mono (by omega))).trans (hb5.mono (by omega))
   have hA6:=ClI.store hat hA5.out.row (by have:=hA.out.lt;omega)
   have hB6:=sw3_below (b:=t) hB5 hnt (.slice A5 x2.1.1.length c5) (.slice D5 x2.1.2.length d5) (.slice G5 x2.2.length g5)
   go_wp2
   go_meet
   exact⟨rfl,⟨A5,c5,D5,d5,G5,g5,hA6⟩,hB6⟩
 case rest =>
 obtain⟨rfl,⟨A3,c3,D3,d3,G3,g3,hA'⟩,hB3'⟩:=hcut
 have hAB:=And.intro hA' hB3'
 clear hA hB3 hA' hB3' htl hnW
 revert wc
 intro W3 hAB
 have hA:=Lib.hid hAB.1
 have hB3:=hAB.2
 clear hAB c0 c1 c2 cf
 obtain⟨c0,c1,c2,cf⟩:=blk3 hA.out.row
 have htl:t<W3.heap.size:=hA.out.lt
 have hnW:n0≤W3.heap.size:=by omega
 go_upto_region 4 with (fail)
 go_cut [5] (fun e wx=>e = .int .i64 0∧(∃ A c D d G g,ClI t x3 A c D d G g wx)∧Below n0 w wx)
 case first =>
  have hbd:Below W3.heap.size W3 W3.drew:=(Below.refl _ _).drew
  go_region_law (first | (go_simp;go_at_call 32;refine HRP.out.mono ?_;rintro e w5 ⟨A5,c5,D5,d5,G5,g5,rfl,hat,hb5⟩;have hA5:=Lib.hid (hA4x.out.below hb5);obtain⟨v0,v1,v2,vf⟩:=blk3 hA5.out.row) | (go_simp;go_at_call 45;refine (one_any 0 5 hi0 (by decide) W3.drew).mono ?_;rintro e w4 ⟨D4,rfl,hs4,hb4⟩;have hx4:Below W3.heap.size W3 w4:=ext_trans hbd hb4;have hA4:=Lib.hid (hA.out.below hx4);obtain⟨u0,u1,u2,_⟩:=blk3 hA4.out.row;have htl4:=hA4.out.lt;have hrw:(w4.alloc (.cells #[.int .i64 0,.int .i64 0,.slice D4 1 1] 45)).heap[w4.heap.size]? = some (.cells #[.int .i64 0,.int .i64 0,.slice D4 1 1] 45 (0,0)):=heap_alloc_new _ _;have hbx:Below w4.heap.size w4 (w4.alloc (.cells #[.int .i64 0,.int .i64 0,.slice D4 1 1] 45)):=ext_alloc (Below.refl _ _);have hA4x:=Lib.hid (hA4.out.below hbx);obtain⟨y0,y1,y2,_⟩:=blk3 hA4x.out.row;have HRP:=Lib.hid (ciReplicate (lc:=1) (q:=1) hA4x.out F2.out rfl B3.out (litS (E:=encWr) (S0:=fun g=>g<w4.heap.size) (css:=[[.int .i64 0,.int .i64 0,.slice D4 1 1]]) hrw rfl ⟨wr_mk (x:=(0,0,[sB 5])) hi0 hi0 (by decide) (by decide) ((hs4.blk (fun g hg=>hbx.block g hg.2)).more (fun g hg=>hg.2)),trivial⟩ (fun g hg=>by have:g<w4.heap.size:=hg;have:=hbx.size;show g<_;omega) (Array.getElem?_eq_some_iff.1 hrw).1 (fun h=>Nat.lt_irrefl _ h)) (by decide))))
  all_goals
   have hz4:=hx4.size
   have hzx:=hbx.size
   have hB5:Below n0 w w5:=((hB3.trans (hx4.mono (by omega))).trans (hbx.mono (by omega))).trans (hb5.mono (by omega))
   have hA6:=ClI.store hat hA5.out.row (by have:=hA.out.lt;omega)
   have hB6:=sw3_below (b:=t) hB5 hnt (.slice A5 x3.1.1.length c5) (.slice D5 x3.1.2.length d5) (.slice G5 x3.2.length g5)
   go_wp2
   go_meet
   exact⟨rfl,⟨A5,c5,D5,d5,G5,g5,hA6⟩,hB6⟩
 case rest =>
 obtain⟨rfl,⟨A3,c3,D3,d3,G3,g3,hA'⟩,hB3'⟩:=hcut
 have hAB:=And.intro hA' hB3'
 clear hA hB3 hA' hB3' htl hnW
 revert wc
 intro W3 hAB
 have hA:=Lib.hid hAB.1
 have hB3:=hAB.2
 clear hAB c0 c1 c2 cf
 obtain⟨c0,c1,c2,cf⟩:=blk3 hA.out.row
 have htl:t<W3.heap.size:=hA.out.lt
 have hnW:n0≤W3.heap.size:=by omega
 go_wp2_with fail
 refine (ciImage (k:=1) hA.out F3.out BI.out rfl).mono ?_
 rintro e w5 ⟨A6,c6,rfl,i1,i2,i3,hb5⟩
 have hA5:=Lib.hid (hA.out.below hb5)
 have hB5:Below n0 w w5:=hB3.trans (hb5.mono (by omega))
 clear c0 c1 c2 cf
 have HI:=Lib.hid (show SlAt (encSl encSec) w5 (Bl w5.heap.size) A6 (imgB [1,4,3]) from i3.more (fun g hg=>hg.2))
 clear i3
 go_upto_region 6 with (fail)
 have hB3o:=hB3
 clear hB3 htl hnW hA hb5
 have hA:=hA5
 have hB3:=hB5
 clear hA5 hB5 hB3o
 obtain⟨W3,rfl⟩:∃ W:World,W=w5:=⟨_,rfl⟩
 obtain⟨c0,c1,c2,cf⟩:=blk3 hA.out.row
 have htl:t<W3.heap.size:=hA.out.lt
 have hnW:n0≤W3.heap.size:=by omega
 go_wp2_with fail
 refine (ciChanged hA.out F3.out BC.out BI.out.2).mono ?_
 rintro e w5 ⟨A7,c7,rfl,j1,j2,j3,hb5⟩
 have hA5:=Lib.hid (hA.out.below hb5)
 have hB5:Below n0 w w5:=hB3.trans (hb5.mono (by omega))
 clear c0 c1 c2 cf
 have HX:=Lib.hid (show SlAt (encSl encExt) w5 (Bl w5.heap.size) A7 [[(1,1)]] from j3.more (fun g hg=>hg.2))
 have HI2:=Lib.hid (HI.out.fwd hb5)
 clear j3 HI
 go_upto_region 7 with (fail)
 clear hB3 htl hnW hA hb5
 have hA:=hA5
 have hB3:=hB5
 clear hA5 hB5
 obtain⟨W3,rfl⟩:∃ W:World,W=w5:=⟨_,rfl⟩
 obtain⟨c0,c1,c2,cf⟩:=blk3 hA.out.row
 have htl:t<W3.heap.size:=hA.out.lt
 have hnW:n0≤W3.heap.size:=by omega
 go_wp2_with fail
 refine (ciDrop hA.out F3.out BD.out).mono ?_
 rintro e w5 ⟨A5,c5,D5,d5,G5,g5,rfl,hat,hb5⟩
 have hA5:=Lib.hid (hA.out.below hb5)
 have hB5:Below n0 w w5:=hB3.trans (hb5.mono (by omega))
 clear c0 c1 c2 cf
 -- a new variable behind a call
 obtain⟨u,hT⟩:∃ u,w5.heap.size=u:=⟨_,rfl⟩
 have hN6:=ClI.made hat
 rw [hT] at hN6
 obtain⟨W6,hW6⟩:∃ W6,w5.alloc (.cells #[.slice A5 (xz).1.1.length c5,.slice D5 (xz).1.2.length d5,.slice G5 (xz).2.length g5] 29)=W6:=⟨_,rfl⟩
 rw [hW6] at hN6
 have hbW:Below w5.heap.size w5 W6:=by rw [← hW6];exact ext_alloc (Below.refl _ _)
 have hA6:=hA5.out.below hbW
 have hB6:Below n0 w W6:=hB5.trans (hbW.mono (by have:=hB5.size;omega))
 clear hat
 go_upto_region 8 with (fail)
 try rw [hW6]
 try rw [hT]
 clear hT hW6
 have hbX:Below W3.heap.size W3 W6:=ext_trans hb5 hbW
 have hAB:=And.intro hA6 (And.intro hB6 (And.intro hN6 hbX))
 clear hA6 hB6 hA5 hB5 hb5 hA hB3 htl hnW hN6 hbW hbX
 have HX2:=Lib.hid (HX.out.fwd hAB.2.2.2)
 have HI3:=Lib.hid (HI2.out.fwd hAB.2.2.2)
 clear HX HI2
 obtain⟨hA',hB3',_,_⟩:=hAB
 obtain⟨W3,rfl⟩:∃ W:World,W=W6:=⟨_,rfl⟩
 have hA:=Lib.hid hA'
 have hB3:=hB3'
 clear hA' hB3'
 obtain⟨c0,c1,c2,cf⟩:=blk3 hA.out.row
 have htl:t<W3.heap.size:=hA.out.lt
 have hnW:n0≤W3.heap.size:=by omega
 go_wp2_with fail
 refine (ciDelete hA.out F3.out ⟨B4.out,BI.out.2⟩).mono ?_
 rintro e w5 ⟨A5,c5,D5,d5,G5,g5,rfl,hat,hb5⟩
 have hA5:=Lib.hid (hA.out.below hb5)
 have hB5:Below n0 w w5:=hB3.trans (hb5.mono (by omega))
 clear c0 c1 c2 cf
 -- a new variable behind a call
 obtain⟨u,hT⟩:∃ u,w5.heap.size=u:=⟨_,rfl⟩
 have hN6:=ClI.made hat
 rw [hT] at hN6
 obtain⟨W6,hW6⟩:∃ W6,w5.alloc (.cells #[.slice A5 (x4).1.1.length c5,.slice D5 (x4).1.2.length d5,.slice G5 (x4).2.length g5] 29)=W6:=⟨_,rfl⟩
 rw [hW6] at hN6
 have hbW:Below w5.heap.size w5 W6:=by rw [← hW6];exact ext_alloc (Below.refl _ _)
 have hA6:=hA5.out.below hbW
 have hB6:Below n0 w W6:=hB5.trans (hbW.mono (by have:=hB5.size;omega))
 clear hat
 go_upto_region 9 with (fail)
 try rw [hW6]
 try rw [hT]
 clear hT hW6
 have hbX:Below W3.heap.size W3 W6:=ext_trans hb5 hbW
 have hAB:=And.intro hA6 (And.intro hB6 (And.intro hN6 hbX))
 clear hA6 hB6 hA5 hB5 hb5 hA hB3 htl hnW hN6 hbW hbX
 have HX3:=Lib.hid (HX2.out.fwd hAB.2.2.2)
 have HI4:=Lib.hid (HI3.out.fwd hAB.2.2.2)
 clear HX2 HI3
 obtain⟨hT',hB3',hA',_⟩:=hAB
 obtain⟨W3,rfl⟩:∃ W:World,W=W6:=⟨_,rfl⟩
 have HT:=Lib.hid hT'
 have htu:=hA'.lt
 obtain⟨c0,c1,c2,cf⟩:=blk3 hA'.row
 have hDR:=ciDrop hA' F4.out ⟨X5.out,B5.out⟩
 have HDR:=Lib.hid hDR
 have HU:=Lib.hid hA'
 clear hA' hT' hDR
 go_wp2_with fail
 refine HDR.out.mono ?_
 rintro e w5 ⟨A5,c5,D5,d5,G5,g5,rfl,hat,hb5⟩
 obtain⟨W6,hW6⟩:∃ W6,w5.alloc (.cells #[.slice A5 x5.1.1.length c5,.slice D5 x5.1.2.length d5,.slice G5 x5.2.length g5] 29)=W6:=⟨_,rfl⟩
 have hbX:Below W3.heap.size W3 W6:=by rw [← hW6];exact ext_alloc hb5
 have HT2:=Lib.hid (HT.out.below hbX)
 have HX4:=Lib.hid (HX3.out.fwd hbX)
 have HI5:=Lib.hid (HI4.out.fwd hbX)
 have hB6:Below n0 w W6:=hB3'.trans (hbX.mono (by have:=hB3'.size;omega))
 obtain⟨u2,hu2⟩:∃ u2,w5.heap.size=u2:=⟨_,rfl⟩
 clear c0 c1 c2 cf HDR hat hb5 HU HT HX3 HI4 hB3'
 go_upto_region 10 with (fail)
 try rw [hW6]
 try rw [hu2]
 clear hW6 hu2 hbX
 obtain⟨W3,rfl⟩:∃ W:World,W=W6:=⟨_,rfl⟩
 obtain⟨c0,c1,c2,cf⟩:=blk3 HT2.out.row
 have HCR:=Lib.hid (ciCreate HT2.out F3.out B6.out (by decide) hi1)
 go_wp2_with fail
 refine HCR.out.mono ?_
 rintro e w5 ⟨A5,c5,D5,d5,G5,g5,rfl,hat,hb5⟩
 obtain⟨W6,hW6⟩:∃ W6,w5.alloc (.cells #[.slice A5 xz.1.1.length c5,.slice D5 xz.1.2.length d5,.slice G5 xz.2.length g5] 29)=W6:=⟨_,rfl⟩
 have hbX:Below W3.heap.size W3 W6:=by rw [← hW6];exact ext_alloc hb5
 have hX4:=HX4.out.fwd hbX
 have HI6:=Lib.hid (HI5.out.fwd hbX)
 have hB7:Below n0 w W6:=hB6.trans (hbX.mono (by have:=hB6.size;omega))
 obtain⟨u3,hu3⟩:∃ u3,w5.heap.size=u3:=⟨_,rfl⟩
 obtain⟨b7,off7,D7,d7,he7,hb7,g7,hD7,k7,_⟩:=hX4.sl (k:=0) (by decide)
 subst he7
 simp only [Nat.add_zero,List.getElem_cons_zero,List.length_singleton] at g7 hD7 k7
 have hb7':b7<W6.heap.size:=hb7
 have HD7:=Lib.hid hD7
 clear c0 c1 c2 cf HCR hat hb5 HT2 HX4 HI5 hX4 hD7 hb7
 go_upto_region 11 with (fail)
 try rw [hW6]
 try rw [hu3]
 clear hW6 hu3 hbX
 obtain⟨W3,rfl⟩:∃ W:World,W=W6:=⟨_,rfl⟩
 go_wp2_with fail
 obtain⟨WJ,hWJ⟩:∃ W,(W3.alloc (.cells #[.int .u8 1,.int .u8 0,.int .u8 0,.int .u8 0,.int .u8 0,.int .u8 0,.int .u8 0,.int .u8 0,.int .u8 4,.int .u8 0,.int .u8 0,.int .u8 0,.int .u8 0,.int .u8 0,.int .u8 0,.int .u8 0,.int .u8 3,.int .u8 0,.int .u8 0,.int .u8 0,.int .u8 0,.int .u8 0,.int .u8 0,.int .u8 0] 95)).alloc (.cells #[.slice (some ⟨W3.heap.size,0,none⟩) 3 3] 43)=W:=⟨_,rfl⟩
 try rw [hWJ]
 have hbJ:Below W3.heap.size W3 WJ:=by rw [← hWJ];exact ext_alloc (ext_alloc (Below.refl _ _))
 have hlJ:SlAt (encSl encSec) WJ (fun g=>g=W3.heap.size∨g=W3.heap.size+1) (some ⟨W3.heap.size+1,0,none⟩) (imgB [1,4,3]):=litImg (cs := #[.int .u8 1,.int .u8 0,.int .u8 0,.int .u8 0,.int .u8 0,.int .u8 0,.int .u8 0,.int .u8 0,.int .u8 4,.int .u8 0,.int .u8 0,.int .u8 0,.int .u8 0,.int .u8 0,.int .u8 0,.int .u8 0,.int .u8 3,.int .u8 0,.int .u8 0,.int .u8 0,.int .u8 0,.int .u8 0,.int .u8 0,.int .u8 0]) (n:=3) (c:=3) (by rw [← hWJ];exact (Below.heap_alloc _ _ _ (by simp)).trans (heap_alloc_new _ _)) rfl (by decide) (by rw [← hWJ];exact heap_new2 _ _ _) rfl (by decide) (by omega)
 refine (sameImg07_any A6 _ c6 1 _ _ (imgB [1,4,3]) (imgB [1,4,3]) WJ (HI6.out.fwd hbJ) hlJ (by decide) (by decide)).mono ?_
 rw [beq_self_eq_true]
 rintro e w9 ⟨rfl,hd9⟩
 have hbK:Below W3.heap.size W3 w9:=ext_trans hbJ (hd9.below _)
 have g9:w9.cell? ⟨b7,off7,none⟩=some (.slice D7 1 d7):=(hbK.cell (p:=⟨b7,off7,none⟩) hb7').trans g7
 have hD9:=Lib.hid (HD7.out.fwd hbK)
 have hb7w:b7<w9.heap.size:=by have:=hbK.size;omega
 clear g7 hlJ hWJ hd9
 go_wp2_with fail
 have hre:(w9.alloc (.cells #[.int .i64 1,.int .i64 1] 104)).heap[w9.heap.size]? = some (.cells #[.int .i64 1,.int .i64 1] 104 (0,0)):=heap_alloc_new _ _
 refine (sameExt02_true D7 (some ⟨w9.heap.size,0,none⟩) d7 1 1 _ (fun g=>g=w9.heap.size) [(1,1)] (w9.alloc (.cells #[.int .i64 1,.int .i64 1] 104)) rfl (hD9.out.fwd (ext_alloc (Below.refl _ _))) (litS (E:=encExt) (S0:=fun _=>False) (css:=[[.int .i64 1,.int .i64 1]]) hre rfl ⟨ext_mk (x:=(1,1)) hi1 hi1,trivial⟩ (fun _ h=>h.elim) rfl (fun h=>h)) (by decide)).mono ?_
 rintro e w10 ⟨rfl,hd10⟩
 have hbf:Below w9.heap.size w9 w10:=ext_trans (ext_alloc (Below.refl _ _)) (hd10.below _)
 clear hre hd10 g9
 go_wp2_with fail
 go_ret
 exact⟨rfl,hB7.trans ((ext_trans hbK hbf).mono (by have:=hB7.size;omega))⟩
end Go.Proofs.YtgndgkjefgjamaaGreat
namespace Go.Proofs.YtgndgkjefgjamaaGreat
open Go.RowKit Go.Shelf
attribute [local go_sem] Oper.semAt_some

theorem wp_appAll {P:Program} {w:World} {α:Type} {E:Enc α} {t e:TypeId} {bytes:Nat} {o:Oper} {a:Act} {Q:Exit→Act→World→Prop} {K:Act→World→Prop} (hT:SliceTy P t e E.size bytes) (hgd:o.guard=none) (s x:Operand) (ho:o.op = .call { callee := .builtin .append,args := #[s,x],argTypes := #[t,t] })
  {base:Nat} {S:Nat→Prop} {v:Value} {l:List α} (hs:a.eval s=v) (hown:Own E w base e S v l) {ad:Option Addr} {c m:Nat} {news:List α} (hx:a.eval x = .slice ad m c)
  (hm:m=news.length) (hr:SlAt E w S ad news) (hS:∀ b,S b→b<w.heap.size) (hbase:base≤w.heap.size)
  (h63:l.length+m≤maxLen) (hbytes:(l.length+m) * bytes≤140737488355328)
  (h:∀ A c' w',Own E w' base e S (.slice A (l.length+m) c') (l++news)→w.grownBy w' v.ownBlock→((Value.slice A (l.length+m) c').ownBlock=v.ownBlock∨(Value.slice A (l.length+m) c').ownBlock=some w.heap.size)→K (a.put o.dst (.slice A (l.length+m) c')) w') :
  Oper.wp P o a w K Q:=by
 have h:=step_appAll (ops := #[]) (Q:=Q) (X:=True) hT hgd s x ho hs hown hx hm hr hS hbase h63 hbytes h
 rwa [if_pos (by simp [Region.wanted,hgd])] at h
end Go.Proofs.YtgndgkjefgjamaaGreat
namespace Go.Proofs.YtgndgkjefgjamaaGreat
open Go.RowKit Go.Shelf
attribute [local go_sem] Oper.semAt_some

section
variable {t t':Nat} {x x':Cls} {A D G A' D' G':Option Addr} {c d g c' d' g':Nat} {W W':World} {n':Int} {S:Nat→Prop}
theorem ClI.other (h:ClI t x A c D d G g W) {u:Nat} (hu:t≠u) (hk:∀ b,b≠u→W'.heap[b]? = W.heap[b]?) (hz:W'.heap.size=W.heap.size) (hS:∀ {S:Nat→Prop},ClAt x A c D d G g S W→ClAt x A c D d G g (fun q=>S q∧q≠u) W):ClI t x A c D d G g W' :=
 ⟨(hk t hu).trans h.row,(hS h.at_).keep (fun q hq=>hk q hq.2) (fun q hq=>⟨hq.1.1,by rw [hz];exact hq.1.2⟩)⟩
structure ClJ (t u:Nat) (x:Cls) (A:Option Addr) (c:Nat) (D:Option Addr) (d:Nat) (G:Option Addr) (g:Nat) (W:World):Prop where
 row:W.heap[t]? = some (.cells #[.slice A x.1.1.length c,.slice D x.1.2.length d,.slice G x.2.length g] 29 (0,0))
 at_:ClAt x A c D d G g (fun q=>q≠t∧q≠u∧q<W.heap.size) W
theorem ClJ.cli {u:Nat} (h:ClJ t u x A c D d G g W):ClI t x A c D d G g W:=⟨h.row,h.at_.keep (fun _ _=>rfl) (fun q hq=>⟨hq.1,hq.2.2⟩)⟩
theorem ClJ.below {u:Nat} (h:ClJ t u x A c D d G g W) (hb:Below W.heap.size W W'):ClJ t u x A c D d G g W' :=
 ⟨(hb.block t h.cli.lt).trans h.row,h.at_.keep (fun q hq=>hb.block q hq.2.2) (fun q hq=>⟨hq.1,hq.2.1,by have:=hq.2.2;have:=hb.size;omega⟩)⟩
theorem ClJ.other {u:Nat} (h:ClJ t u x A c D d G g W) (hu:t≠u) (hk:∀ b,b≠u→W'.heap[b]? = W.heap[b]?) (hz:W'.heap.size=W.heap.size):ClJ t u x A c D d G g W' :=
 ⟨(hk t hu).trans h.row,h.at_.keep (fun q hq=>hk q hq.2.1) (fun q hq=>⟨hq.1,hq.2.1,by rw [hz];exact hq.2.2⟩)⟩
theorem ClI.le (h:ClI t x A c D d G g W):x.1.1.length≤9223372036854775807∧x.1.2.length≤9223372036854775807∧x.2.length≤9223372036854775807:=by
 have h1:=h.at_.im;have h2:=h.at_.sn;have h3:=h.at_.cl
 unfold maxLen at h1 h2 h3
 omega
end
end Go.Proofs.YtgndgkjefgjamaaGreat
namespace Go.Proofs.YtgndgkjefgjamaaGreat
open Go.RowKit Go.Shelf
attribute [local go_sem] Oper.semAt_some

theorem blk54 {w:World} {b:Nat} {T:TypeId} {x0 x1 x2 x3 x4 x5 x6 x7 x8 x9 x10 x11 x12 x13 x14 x15 x16 x17 x18 x19 x20 x21 x22 x23 x24 x25 x26 x27 x28 x29 x30 x31 x32 x33 x34 x35 x36 x37 x38 x39 x40 x41 x42 x43 x44 x45 x46 x47 x48 x49 x50 x51 x52 x53:Value} (h:w.heap[b]? = some (.cells #[x0,x1,x2,x3,x4,x5,x6,x7,x8,x9,x10,x11,x12,x13,x14,x15,x16,x17,x18,x19,x20,x21,x22,x23,x24,x25,x26,x27,x28,x29,x30,x31,x32,x33,x34,x35,x36,x37,x38,x39,x40,x41,x42,x43,x44,x45,x46,x47,x48,x49,x50,x51,x52,x53] T (0,0))) :
  w.cell? ⟨b,0,none⟩=some x0∧w.cell? ⟨b,1,none⟩=some x1∧w.cell? ⟨b,2,none⟩=some x2∧w.cell? ⟨b,3,none⟩=some x3∧w.cell? ⟨b,4,none⟩=some x4∧w.cell? ⟨b,5,none⟩=some x5∧w.cell? ⟨b,6,none⟩=some x6∧w.cell? ⟨b,7,none⟩=some x7∧w.cell? ⟨b,8,none⟩=some x8∧w.cell? ⟨b,9,none⟩=some x9∧w.cell? ⟨b,10,none⟩=some x10∧w.cell? ⟨b,11,none⟩=some x11∧w.cell? ⟨b,12,none⟩=some x12∧w.cell? ⟨b,13,none⟩=some x13∧w.cell? ⟨b,14,none⟩=some x14∧w.cell? ⟨b,15,none⟩=some x15∧w.cell? ⟨b,16,none⟩=some x16∧w.cell? ⟨b,17,none⟩=some x17∧w.cell? ⟨b,18,none⟩=some x18∧w.cell? ⟨b,19,none⟩=some x19∧w.cell? ⟨b,20,none⟩=some x20∧w.cell? ⟨b,21,none⟩=some x21∧w.cell? ⟨b,22,none⟩=some x22∧w.cell? ⟨b,23,none⟩=some x23∧w.cell? ⟨b,24,none⟩=some x24∧w.cell? ⟨b,25,none⟩=some x25∧w.cell? ⟨b,26,none⟩=some x26∧w.cell? ⟨b,27,none⟩=some x27∧w.cell? ⟨b,28,none⟩=some x28∧w.cell? ⟨b,29,none⟩=some x29∧w.cell? ⟨b,30,none⟩=some x30∧w.cell? ⟨b,31,none⟩=some x31∧w.cell? ⟨b,32,none⟩=some x32∧w.cell? ⟨b,33,none⟩=some x33∧w.cell? ⟨b,34,none⟩=some x34∧w.cell? ⟨b,35,none⟩=some x35∧w.cell? ⟨b,36,none⟩=some x36∧w.cell? ⟨b,37,none⟩=some x37∧w.cell? ⟨b,38,none⟩=some x38∧w.cell? ⟨b,39,none⟩=some x39∧w.cell? ⟨b,40,none⟩=some x40∧w.cell? ⟨b,41,none⟩=some x41∧w.cell? ⟨b,42,none⟩=some x42∧w.cell? ⟨b,43,none⟩=some x43∧w.cell? ⟨b,44,none⟩=some x44∧w.cell? ⟨b,45,none⟩=some x45∧w.cell? ⟨b,46,none⟩=some x46∧w.cell? ⟨b,47,none⟩=some x47∧w.cell? ⟨b,48,none⟩=some x48∧w.cell? ⟨b,49,none⟩=some x49∧w.cell? ⟨b,50,none⟩=some x50∧w.cell? ⟨b,51,none⟩=some x51∧w.cell? ⟨b,52,none⟩=some x52∧w.cell? ⟨b,53,none⟩=some x53∧∀ j,w.frozen? ⟨b,j,none⟩=false :=
 ⟨cell_of_row w b 0 _ T _ h,cell_of_row w b 1 _ T _ h,cell_of_row w b 2 _ T _ h,cell_of_row w b 3 _ T _ h,cell_of_row w b 4 _ T _ h,cell_of_row w b 5 _ T _ h,cell_of_row w b 6 _ T _ h,cell_of_row w b 7 _ T _ h,cell_of_row w b 8 _ T _ h,cell_of_row w b 9 _ T _ h,cell_of_row w b 10 _ T _ h,cell_of_row w b 11 _ T _ h,cell_of_row w b 12 _ T _ h,cell_of_row w b 13 _ T _ h,cell_of_row w b 14 _ T _ h,cell_of_row w b 15 _ T _ h,cell_of_row w b 16 _ T _ h,cell_of_row w b 17 _ T _ h,cell_of_row w b 18 _ T _ h,cell_of_row w b 19 _ T _ h,cell_of_row w b 20 _ T _ h,cell_of_row w b 21 _ T _ h,cell_of_row w b 22 _ T _ h,cell_of_row w b 23 _ T _ h,cell_of_row w b 24 _ T _ h,cell_of_row w b 25 _ T _ h,cell_of_row w b 26 _ T _ h,cell_of_row w b 27 _ T _ h,cell_of_row w b 28 _ T _ h,cell_of_row w b 29 _ T _ h,cell_of_row w b 30 _ T _ h,cell_of_row w b 31 _ T _ h,cell_of_row w b 32 _ T _ h,cell_of_row w b 33 _ T _ h,cell_of_row w b 34 _ T _ h,cell_of_row w b 35 _ T _ h,cell_of_row w b 36 _ T _ h,cell_of_row w b 37 _ T _ h,cell_of_row w b 38 _ T _ h,cell_of_row w b 39 _ T _ h,cell_of_row w b 40 _ T _ h,cell_of_row w b 41 _ T _ h,cell_of_row w b 42 _ T _ h,cell_of_row w b 43 _ T _ h,cell_of_row w b 44 _ T _ h,cell_of_row w b 45 _ T _ h,cell_of_row w b 46 _ T _ h,cell_of_row w b 47 _ T _ h,cell_of_row w b 48 _ T _ h,cell_of_row w b 49 _ T _ h,cell_of_row w b 50 _ T _ h,cell_of_row w b 51 _ T _ h,cell_of_row w b 52 _ T _ h,cell_of_row w b 53 _ T _ h,fun j=>by simp [World.frozen?,h]⟩
theorem row_set {w:World} {b:Nat} {L:Array Value} {T:TypeId} {fr:Nat × Nat} (h:w.heap[b]? = some (.cells L T fr)) (j:Nat) (v:Value):(w.setCell ⟨b,j,none⟩ v).heap[b]? = some (.cells (L.setIfInBounds j v) T fr):=by
 simp [World.setCell,Array.getElem?_modify,h]
theorem wpList_store_row {P:Program} {ops:Array Oper} {rest:List Oper} {o:Oper} {a:Act} {w:World} {Q:Exit→Act→World→Prop} (hgd:o.guard=none) (ty:TypeId) (x y:Operand) (ho:o.op = .store ty x y)
  (g:Nat) (cells:Array Value) (hx:a.eval x = .pointer (some ⟨g,0,none⟩)) (hy:a.eval y = .agg cells)
  (t:TypeId) (old:Array Value) (hg:w.heap[g]? = some (.cells old t (0,0))) (hi:(P.info? ty).map (·.size)=some cells.size)
  (hold:old.size=cells.size) (h1:cells.all (·.oneCell')=true)
  (h:wpList P ops Q rest (a.put o.dst undef) (w.setRow g cells)):wpList P ops Q (o :: rest) a w :=
 wpList_plain hgd fun _ hK=>wp_store_row ty x y ho g cells hx hy t old hg hi hold h1 (hK _ _ h)
theorem st_size {P:Program} {ty:TypeId} {row old:Array Value} (hi:(P.info? ty).map (·.size)=some row.size) (h1:(P.info? ty).map (·.size)=some 54) (h2:old.size=54):old.size=row.size:=by
 rw [h1] at hi;injection hi with hi;omega
set_option maxHeartbeats 4000000 in
set_option maxRecDepth 100000 in
theorem arr_sv {x0 x1 x2 x3 x44 x45 x46 x47 x48 x49 x50 x51 x52 x53:Value} {sa:Nat→Option Addr} {sn:Nat→Img} {sc:Nat→Nat} {A:Option Addr} {im:Img} {c:Nat} {i:Nat} (hi:i<40):(#[x0,x1,x2,x3,.slice (sa 0) (sn 0).length (sc 0),.slice (sa 1) (sn 1).length (sc 1),.slice (sa 2) (sn 2).length (sc 2),.slice (sa 3) (sn 3).length (sc 3),.slice (sa 4) (sn 4).length (sc 4),.slice (sa 5) (sn 5).length (sc 5),.slice (sa 6) (sn 6).length (sc 6),.slice (sa 7) (sn 7).length (sc 7),.slice (sa 8) (sn 8).length (sc 8),.slice (sa 9) (sn 9).length (sc 9),.slice (sa 10) (sn 10).length (sc 10),.slice (sa 11) (sn 11).length (sc 11),.slice (sa 12) (sn 12).length (sc 12),.slice (sa 13) (sn 13).length (sc 13),.slice (sa 14) (sn 14).length (sc 14),.slice (sa 15) (sn 15).length (sc 15),.slice (sa 16) (sn 16).length (sc 16),.slice (sa 17) (sn 17).length (sc 17),.slice (sa 18) (sn 18).length (sc 18),.slice (sa 19) (sn 19).length (sc 19),.slice (sa 20) (sn 20).length (sc 20),.slice (sa 21) (sn 21).length (sc 21),.slice (sa 22) (sn 22).length (sc 22),.slice (sa 23) (sn 23).length (sc 23),.slice (sa 24) (sn 24).length (sc 24),.slice (sa 25) (sn 25).length (sc 25),.slice (sa 26) (sn 26).length (sc 26),.slice (sa 27) (sn 27).length (sc 27),.slice (sa 28) (sn 28).length (sc 28),.slice (sa 29) (sn 29).length (sc 29),.slice (sa 30) (sn 30).length (sc 30),.slice (sa 31) (sn 31).length (sc 31),.slice (sa 32) (sn 32).length (sc 32),.slice (sa 33) (sn 33).length (sc 33),.slice (sa 34) (sn 34).length (sc 34),.slice (sa 35) (sn 35).length (sc 35),.slice (sa 36) (sn 36).length (sc 36),.slice (sa 37) (sn 37).length (sc 37),.slice (sa 38) (sn 38).length (sc 38),.slice (sa 39) (sn 39).length (sc 39),x44,x45,x46,x47,x48,x49,x50,x51,x52,x53]:Array Value).setIfInBounds (4+i) (.slice A im.length c) = #[x0,x1,x2,x3,.slice (upd sa i A 0) (upd sn i im 0).length (upd sc i c 0),.slice (upd sa i A 1) (upd sn i im 1).length (upd sc i c 1),.slice (upd sa i A 2) (upd sn i im 2).length (upd sc i c 2),.slice (upd sa i A 3) (upd sn i im 3).length (upd sc i c 3),.slice (upd sa i A 4) (upd sn i im 4).length (upd sc i c 4),.slice (upd sa i A 5) (upd sn i im 5).length (upd sc i c 5),.slice (upd sa i A 6) (upd sn i im 6).length (upd sc i c 6),.slice (upd sa i A 7) (upd sn i im 7).length (upd sc i c 7),.slice (upd sa i A 8) (upd sn i im 8).length (upd sc i c 8),.slice (upd sa i A 9) (upd sn i im 9).length (upd sc i c 9),.slice (upd sa i A 10) (upd sn i im 10).length (upd sc i c 10),.slice (upd sa i A 11) (upd sn i im 11).length (upd sc i c 11),.slice (upd sa i A 12) (upd sn i im 12).length (upd sc i c 12),.slice (upd sa i A 13) (upd sn i im 13).length (upd sc i c 13),.slice (upd sa i A 14) (upd sn i im 14).length (upd sc i c 14),.slice (upd sa i A 15) (upd sn i im 15).length (upd sc i c 15),.slice (upd sa i A 16) (upd sn i im 16).length (upd sc i c 16),.slice (upd sa i A 17) (upd sn i im 17).length (upd sc i c 17),.slice (upd sa i A 18) (upd sn i im 18).length (upd sc i c 18),.slice (upd sa i A 19) (upd sn i im 19).length (upd sc i c 19),.slice (upd sa i A 20) (upd sn i im 20).length (upd sc i c 20),.slice (upd sa i A 21) (upd sn i im 21).length (upd sc i c 21),.slice (upd sa i A 22) (upd sn i im 22).length (upd sc i c 22),.slice (upd sa i A 23) (upd sn i im 23).length (upd sc i c 23),.slice (upd sa i A 24) (upd sn i im 24).length (upd sc i c 24),.slice (upd sa i A 25) (upd sn i im 25).length (upd sc i c 25),.slice (upd sa i A 26) (upd sn i im 26).length (upd sc i c 26),.slice (upd sa i A 27) (upd sn i im 27).length (upd sc i c 27),.slice (upd sa i A 28) (upd sn i im 28).length (upd sc i c 28),.slice (upd sa i A 29) (upd sn i im 29).length (upd sc i c 29),.slice (upd sa i A 30) (upd sn i im 30).length (upd sc i c 30),.slice (upd sa i A 31) (upd sn i im 31).length (upd sc i c 31),.slice (upd sa i A 32) (upd sn i im 32).length (upd sc i c 32),.slice (upd sa i A 33) (upd sn i im 33).length (upd sc i c 33),.slice (upd sa i A 34) (upd sn i im 34).length (upd sc i c 34),.slice (upd sa i A 35) (upd sn i im 35).length (upd sc i c 35),.slice (upd sa i A 36) (upd sn i im 36).length (upd sc i c 36),.slice (upd sa i A 37) (upd sn i im 37).length (upd sc i c 37),.slice (upd sa i A 38) (upd sn i im 38).length (upd sc i c 38),.slice (upd sa i A 39) (upd sn i im 39).length (upd sc i c 39),x44,x45,x46,x47,x48,x49,x50,x51,x52,x53]:=by
 have h:i=0∨i=1∨i=2∨i=3∨i=4∨i=5∨i=6∨i=7∨i=8∨i=9∨i=10∨i=11∨i=12∨i=13∨i=14∨i=15∨i=16∨i=17∨i=18∨i=19∨i=20∨i=21∨i=22∨i=23∨i=24∨i=25∨i=26∨i=27∨i=28∨i=29∨i=30∨i=31∨i=32∨i=33∨i=34∨i=35∨i=36∨i=37∨i=38∨i=39:=by omega
 rcases h with rfl | rfl | rfl | rfl | rfl | rfl | rfl | rfl | rfl | rfl | rfl | rfl | rfl | rfl | rfl | rfl | rfl | rfl | rfl | rfl | rfl | rfl | rfl | rfl | rfl | rfl | rfl | rfl | rfl | rfl | rfl | rfl | rfl | rfl | rfl | rfl | rfl | rfl | rfl | rfl <;> simp [upd]
def stl (s:CSt) (A:Option Addr) (c:Nat) (D:Option Addr) (d:Nat) (G:Option Addr) (g:Nat) (B:Option Addr) (bc:Nat) (sa:Nat→Option Addr) (sc:Nat→Nat) (ca:Nat→Option Addr) (cc:Nat→Nat):Array Value := #[.slice A s.c.1.1.length c,.slice D s.c.1.2.length d,.slice G s.c.2.length g,.slice B s.cur.length bc,.slice (sa 0) (s.sn 0).length (sc 0),.slice (sa 1) (s.sn 1).length (sc 1),.slice (sa 2) (s.sn 2).length (sc 2),.slice (sa 3) (s.sn 3).length (sc 3),.slice (sa 4) (s.sn 4).length (sc 4),.slice (sa 5) (s.sn 5).length (sc 5),.slice (sa 6) (s.sn 6).length (sc 6),.slice (sa 7) (s.sn 7).length (sc 7),.slice (sa 8) (s.sn 8).length (sc 8),.slice (sa 9) (s.sn 9).length (sc 9),.slice (sa 10) (s.sn 10).length (sc 10),.slice (sa 11) (s.sn 11).length (sc 11),.slice (sa 12) (s.sn 12).length (sc 12),.slice (sa 13) (s.sn 13).length (sc 13),.slice (sa 14) (s.sn 14).length (sc 14),.slice (sa 15) (s.sn 15).length (sc 15),.slice (sa 16) (s.sn 16).length (sc 16),.slice (sa 17) (s.sn 17).length (sc 17),.slice (sa 18) (s.sn 18).length (sc 18),.slice (sa 19) (s.sn 19).length (sc 19),.slice (sa 20) (s.sn 20).length (sc 20),.slice (sa 21) (s.sn 21).length (sc 21),.slice (sa 22) (s.sn 22).length (sc 22),.slice (sa 23) (s.sn 23).length (sc 23),.slice (sa 24) (s.sn 24).length (sc 24),.slice (sa 25) (s.sn 25).length (sc 25),.slice (sa 26) (s.sn 26).length (sc 26),.slice (sa 27) (s.sn 27).length (sc 27),.slice (sa 28) (s.sn 28).length (sc 28),.slice (sa 29) (s.sn 29).length (sc 29),.slice (sa 30) (s.sn 30).length (sc 30),.slice (sa 31) (s.sn 31).length (sc 31),.slice (sa 32) (s.sn 32).length (sc 32),.slice (sa 33) (s.sn 33).length (sc 33),.slice (sa 34) (s.sn 34).length (sc 34),.slice (sa 35) (s.sn 35).length (sc 35),.slice (sa 36) (s.sn 36).length (sc 36),.slice (sa 37) (s.sn 37).length (sc 37),.slice (sa 38) (s.sn 38).length (sc 38),.slice (sa 39) (s.sn 39).length (sc 39),.int .i64 (s.nw:Nat),.slice (ca 0) (s.cl 0).length (cc 0),.slice (ca 1) (s.cl 1).length (cc 1),.slice (ca 2) (s.cl 2).length (cc 2),.slice (ca 3) (s.cl 3).length (cc 3),.bool (s.th 0),.bool (s.th 1),.bool (s.th 2),.bool (s.th 3),.bool true]
def ImA (A:Option Addr) (c:Nat) (im:Img) (S:Nat→Prop) (W:World):Prop:=im.length≤c∧c≤maxLen∧SlAt (encSl encSec) W S A im
theorem ImA.keep {A:Option Addr} {c:Nat} {im:Img} {S S':Nat→Prop} {W W':World} (h:ImA A c im S W) (hk:∀ b,S b→W'.heap[b]? = W.heap[b]?) (hS:∀ b,S b→S' b):ImA A c im S' W' :=
 ⟨h.1,h.2.1,(h.2.2.blk hk).more hS⟩
structure StM (s:CSt) (A:Option Addr) (c:Nat) (D:Option Addr) (d:Nat) (G:Option Addr) (g:Nat) (B:Option Addr) (bc:Nat) (sa:Nat→Option Addr) (sc:Nat→Nat) (ca:Nat→Option Addr) (cc:Nat→Nat) (S:Nat→Prop) (W:World):Prop where
 cls:ClAt s.c A c D d G g S W
 cur:s.cur.length≤bc∧bc≤maxLen∧SlAt (encSl encSec) W S B s.cur
 sns:∀ i,i<40→ImA (sa i) (sc i) (s.sn i) S W
 cli:∀ i,i<4→ImA (ca i) (cc i) (s.cl i) S W
section
variable {s:CSt} {A D G B:Option Addr} {c d g bc:Nat} {sa ca:Nat→Option Addr} {sc cc:Nat→Nat} {S S':Nat→Prop} {W W':World}
theorem StM.keep (h:StM s A c D d G g B bc sa sc ca cc S W) (hk:∀ b,S b→W'.heap[b]? = W.heap[b]?) (hS:∀ b,S b→S' b):StM s A c D d G g B bc sa sc ca cc S' W' :=
 ⟨h.cls.keep hk hS,⟨h.cur.1,h.cur.2.1,(h.cur.2.2.blk hk).more hS⟩,fun i hi=>(h.sns i hi).keep hk hS,fun i hi=>(h.cli i hi).keep hk hS⟩
end
theorem name_any (i:Nat) (hi:i<4) (w:World):Calls Tryz.prog 39 #[.int .i64 i] w fun e w'=>e = .returned (.string (nmC i))∧w'=w:=by
 have hk:∀ n:Nat,n<4→Calls Tryz.prog 39 #[.int .i64 n] w fun e w'=>e = .returned (.string (nmC n))∧w'=w:=by
  intro n hn
  match n,hn with
  | 0, _ => go_enter Tryz.func39,Tryz.ntmps39
            go_wp2
            go_ret
            exact⟨rfl,rfl⟩
  | 1, _ => go_enter Tryz.func39,Tryz.ntmps39
            go_wp2
            go_ret
            exact⟨rfl,rfl⟩
  | 2, _ => go_enter Tryz.func39,Tryz.ntmps39
            go_wp2
            go_ret
            exact⟨rfl,rfl⟩
  | 3, _ => go_enter Tryz.func39,Tryz.ntmps39
            go_wp2
            go_ret
            exact⟨rfl,rfl⟩
 exact hk i hi
end Go.Proofs.YtgndgkjefgjamaaGreat
namespace Go.Proofs.YtgndgkjefgjamaaGreat
open Go.RowKit Go.Shelf
attribute [local go_sem] Oper.semAt_some

theorem CInv.lim {a:Int} {k:Nat} {s:CSt} (h:CInv [a,4] k s) (ha:1≤a∧a≤12) (hk:k≤1000):ClLim s.c.1 s.c.2∧(∀ x∈s.c.1.2,x.2.2.length≤50000)∧s.cur.length=2:=by
 have h1:=congrArg List.length h.lns
 have h2:s.cur.length=2:=by simpa [Proofs.YtgndgkjefgjamaaGreat.lens] using h1
 have hrow:∀ r∈s.cur,r.length≤12:=fun r hr=>by
  have:lenI r∈Proofs.YtgndgkjefgjamaaGreat.lens s.cur:=List.mem_map.2 ⟨r,hr,rfl⟩
  rw [h.lns] at this
  unfold lenI at this
  simp at this
  omega
 have hfit:=clE_fits (im:=s.c.1.1) (l:=s.c.1.2) (cl:=s.c.2) h.ok
 refine⟨⟨⟨by rw [h.cur];omega,fun r hr=>by have:=hrow r (by rw [← h.cur];exact hr);omega,by have:=h.len;omega,fun x hx=>⟨by have:=h.cap.1 x hx;omega,fun y hy => ?_⟩⟩,by have:=h.few;omega,fun x hx=>⟨by have:=h.cap.2 x hx;omega,fun y hy => ?_⟩⟩,fun x hx=>by have:=h.cap.1 x hx;omega,h2⟩
 ·have h3:=fits_ok hfit.1 (hfit.2.1 x hx y hy)
  have:=h3.2.2.2
  omega
 ·have h3:=fits_ok hfit.1 ((hfit.2.2 x hx).2 y hy)
  have:=h3.2.2.2
  omega
section
variable {a:Int} {k:Nat} {s:CSt} {A D G B:Option Addr} {c d g bc:Nat} {sa ca:Nat→Option Addr} {sc cc:Nat→Nat} {W:World}
theorem csImage (h:CInv [a,4] k s) (ha:1≤a∧a≤12) (hk:k≤1000) (hc:ClAt s.c A c D d G g (Bl W.heap.size) W) {nm:ByteArray} {r:Img} {n:Int} (hr:cIm s.c nm=r) (he:cfE s.c nm=n) :
  Calls Tryz.prog 21 #[.agg #[.slice A s.c.1.1.length c,.slice D s.c.1.2.length d,.slice G s.c.2.length g],.string nm] W fun e w'=>∃ B vc,e = .returned (.tuple #[.slice B r.length vc,.int .i64 n])∧r.length≤vc∧vc≤maxLen∧SlAt (encSl encSec) w' (Nw W.heap.size w'.heap.size) B r∧Below W.heap.size W w' :=
 clImage_any A D G c d g _ _ _ s.c.1.1 s.c.1.2 s.c.2 nm W rfl rfl rfl hc.im.2.2 hc.sn.2.2 hc.cl.2.2 (h.lim ha hk).1 r hr n he
end
set_option maxHeartbeats 8000000 in
set_option maxRecDepth 100000 in
theorem right_any (a:Int) (k:Nat) (s:CSt) (A D G B:Option Addr) (c d g bc:Nat) (sa:Nat→Option Addr) (sc:Nat→Nat) (ca:Nat→Option Addr) (cc:Nat→Nat) (w:World) (ha:1≤a∧a≤12) (hk:k≤1000) (h:CInv [a,4] k s) (hM:StM s A c D d G g B bc sa sc ca cc (Bl w.heap.size) w) :
  Calls Tryz.prog 90 #[.agg (stl s A c D d G g B bc sa sc ca cc)] w fun e w'=>e = .returned (.bool true)∧Below w.heap.size w w':=by
 obtain⟨sb,hsb⟩:∃ sb,w.heap.size=sb:=⟨_,rfl⟩
 obtain⟨W0,hW0⟩:∃ W0,w.alloc (.cells (stl s A c D d G g B bc sa sc ca cc) 79)=W0:=⟨_,rfl⟩
 have hB0:Below w.heap.size w W0:=by rw [← hW0];exact ext_alloc (Below.refl _ _)
 have hrow:W0.heap[sb]? = some (.cells (stl s A c D d G g B bc sa sc ca cc) 79 (0,0)):=by rw [← hW0, ← hsb];exact heap_alloc_new _ _
 have hsl:sb<W0.heap.size:=(Array.getElem?_eq_some_iff.1 hrow).1
 have HROW:Hid (∀ W,Below W0.heap.size W0 W→W.heap[sb]? = some (.cells (stl s A c D d G g B bc sa sc ca cc) 79 (0,0))):=fun W hb=>(hb.block sb hsl).trans hrow
 have HM:Hid (∀ W,Below W0.heap.size W0 W→StM s A c D d G g B bc sa sc ca cc (Bl W.heap.size) W):=fun W hb=>hM.keep (fun b hb'=>(hB0.trans (hb.mono hB0.size)).block b hb') (fun b hb'=>by have:b<w.heap.size:=hb';have:=hB0.size;have:=hb.size;show b<W.heap.size;omega)
 have HC5:Hid (∀ W,Below W0.heap.size W0 W→W.cell? ⟨sb,0,none⟩=some (.slice A s.c.1.1.length c)∧W.cell? ⟨sb,1,none⟩=some (.slice D s.c.1.2.length d)∧W.cell? ⟨sb,2,none⟩=some (.slice G s.c.2.length g)∧W.cell? ⟨sb,3,none⟩=some (.slice B s.cur.length bc)∧W.cell? ⟨sb,53,none⟩=some (.bool true)):=fun W hb=>by
  obtain⟨h0,h1,h2,h3,h4,h5,h6,h7,h8,h9,h10,h11,h12,h13,h14,h15,h16,h17,h18,h19,h20,h21,h22,h23,h24,h25,h26,h27,h28,h29,h30,h31,h32,h33,h34,h35,h36,h37,h38,h39,h40,h41,h42,h43,h44,h45,h46,h47,h48,h49,h50,h51,h52,h53,hf⟩:=blk54 (HROW.out W hb)
  exact⟨h0,h1,h2,h3,h53⟩
 have HCI:Hid (∀ W,Below W0.heap.size W0 W→∀ i,i<4→W.cell? ⟨sb,45+i,none⟩=some (.slice (ca i) (s.cl i).length (cc i))∧W.cell? ⟨sb,49+i,none⟩=some (.bool (s.th i))):=fun W hb i hi=>by
  obtain⟨h0,h1,h2,h3,h4,h5,h6,h7,h8,h9,h10,h11,h12,h13,h14,h15,h16,h17,h18,h19,h20,h21,h22,h23,h24,h25,h26,h27,h28,h29,h30,h31,h32,h33,h34,h35,h36,h37,h38,h39,h40,h41,h42,h43,h44,h45,h46,h47,h48,h49,h50,h51,h52,h53,hf⟩:=blk54 (HROW.out W hb)
  match i,hi with
  | 0,_=>exact⟨h45,h49⟩
  | 1,_=>exact⟨h46,h50⟩
  | 2,_=>exact⟨h47,h51⟩
  | 3,_=>exact⟨h48,h52⟩
 have HW0:=Lib.hid hW0
 have HSB:=Lib.hid hsb
 clear hrow hM
 go_enter Tryz.func90,Tryz.ntmps90
 go_wp2
 clear hW0
 try rw [HW0.out]
 try rw [HSB.out]
 go_loopw [3] (fun i wr=>∃ j:Nat,j≤4∧i = .int .i64 j∧Below W0.heap.size W0 wr) (fun i _=>4 - (intOf i).toNat)
 case atStart=>exact⟨0,by omega,rfl,Below.refl _ _⟩
 case round =>
  obtain⟨wo,rfl⟩:∃ wo:World,wo=wr:=⟨_,rfl⟩
  obtain⟨j,hj,rfl,hB⟩:=hrel
  by_cases hlt:j<4
  ·have hj0:(0:Int)≤j:=by omega
   have hj4:(j:Int)<4:=by omega
   obtain⟨r,hr⟩:∃ r,cIm s.c (nmC j)=r:=⟨_,rfl⟩
   obtain⟨n,hn⟩:∃ n,cfE s.c (nmC j)=n:=⟨_,rfl⟩
   obtain⟨g1,g2⟩:=h.cimg hlt
   rw [hr,hn] at g1 g2
   have HIM:=Lib.hid (fun W (hb:Below W0.heap.size W0 W)=>csImage h ha hk (HM.out W hb).cls hr hn)
   have HG1:=Lib.hid g1
   have HG2:=Lib.hid g2
   have hSw:Below W0.heap.size W0 wo.drew:=hB.drew
   clear hr hn g1 g2
   go_upto_region 4 with (fail)
   go_cut [4,5] (fun e f wx=>f = .int .i64 n∧(∃ B5 b5,e = .slice B5 r.length b5∧SlAt (encSl encSec) wx (Bl wx.heap.size) B5 r)∧Below W0.heap.size W0 wx)
   case first =>
    refine wp_region_U (fun W'=>Below W0.heap.size W0 W') 10 (by kernel_rfl) ?_
    refine wpAnyU_takeD (i:=0) (v := ?_) rfl rfl (by kernel_rfl) (by kernel_rfl) (by kernel_rfl) (by kernel_rfl) (fun _ _ _ h=>h) (by rfl) ?_ hSw ?_
    rotate_left 1
    ·intro W9 hW9
     try dsimp only at hW9
     obtain _:=trivial
     go_simp
     try with_reducible rfl
    try simp only [List.setIfInBounds_toArray,List.set_cons_zero,List.set_cons_succ]
    refine wpAnyU_takeD (i:=1) (v := ?_) rfl rfl (by kernel_rfl) (by kernel_rfl) (by kernel_rfl) (by kernel_rfl) (fun _ _ _ h=>h) (by rfl) ?_ hSw ?_
    rotate_left 1
    ·intro W9 hW9
     try dsimp only at hW9
     obtain⟨q0,q1,q2,q3,q4⟩:=HC5.out W9 hW9
     go_simp
     try with_reducible rfl
    try simp only [List.setIfInBounds_toArray,List.set_cons_zero,List.set_cons_succ]
    refine wpAnyU_op (i:=2) (by kernel_rfl) rfl rfl (fun K hK => ?_)
    go_simp
    refine hK.out _ _ (fun _=>hSw) ?_
    clear hK K
    try simp only [Act.put,List.setIfInBounds_toArray,List.set_cons_zero,List.set_cons_succ]
    refine wpAnyU_op (i:=3) (by kernel_rfl) rfl rfl (fun K hK => ?_)
    go_wp2_with fail
    refine ((name_any j hlt _)).mono ?_
    rintro e w6 ⟨rfl,rfl⟩
    refine hK.out _ _ (fun _=>hSw) ?_
    clear hK K
    try simp only [Act.put,List.setIfInBounds_toArray,List.set_cons_zero,List.set_cons_succ]
    refine wpAnyU_op (i:=4) (by kernel_rfl) rfl rfl (fun K hK => ?_)
    go_wp2_with fail
    refine ((HIM.out _ hSw)).mono ?_
    rintro e w6 ⟨B5,b5,rfl,i1,i2,i3,hb6⟩
    refine hK.out _ _ (fun _=>(hSw.trans (hb6.mono hSw.size))) ?_
    clear hK K
    try simp only [Act.put,List.setIfInBounds_toArray,List.set_cons_zero,List.set_cons_succ]
    have hS6:Below W0.heap.size W0 w6:=hSw.trans (hb6.mono hSw.size)
    refine wpAnyU_op (i:=5) (by kernel_rfl) rfl rfl (fun K hK => ?_)
    go_simp
    refine hK.out _ _ (fun _=>hS6) ?_
    clear hK K
    try simp only [Act.put,List.setIfInBounds_toArray,List.set_cons_zero,List.set_cons_succ]
    clear hSw
    have hSw:=hS6
    refine wpAnyU_takeD (i:=6) (v := ?_) rfl rfl (by kernel_rfl) (by kernel_rfl) (by kernel_rfl) (by kernel_rfl) (fun _ _ _ h=>h) (by rfl) ?_ hSw ?_
    rotate_left 1
    ·intro W9 hW9
     try dsimp only at hW9
     obtain _:=trivial
     go_simp
     try with_reducible rfl
    try simp only [List.setIfInBounds_toArray,List.set_cons_zero,List.set_cons_succ]
    refine wpAnyU_takeD (i:=7) (v := ?_) rfl rfl (by kernel_rfl) (by kernel_rfl) (by kernel_rfl) (by kernel_rfl) (fun _ _ _ h=>h) (by rfl) ?_ hSw ?_
    rotate_left 1
    ·intro W9 hW9
     try dsimp only at hW9
     obtain _:=trivial
     go_simp
     try with_reducible rfl
    try simp only [List.setIfInBounds_toArray,List.set_cons_zero,List.set_cons_succ]
    refine wpAnyU_op (i:=8) (by kernel_rfl) rfl rfl (fun K hK => ?_)
    go_simp
    refine hK.out _ _ (fun _=>hS6) ?_
    clear hK K
    try simp only [Act.put,List.setIfInBounds_toArray,List.set_cons_zero,List.set_cons_succ]
    refine wpAnyU_op (i:=9) (by kernel_rfl) rfl rfl (fun K hK => ?_)
    go_simp
    refine hK.out _ _ (fun _=>hS6) ?_
    clear hK K
    try simp only [Act.put,List.setIfInBounds_toArray,List.set_cons_zero,List.set_cons_succ]
    refine wpAnyU_done (by kernel_rfl) ?_ _
    go_wp2
    go_meet
    exact⟨rfl,⟨B5,b5,rfl,i3.more (fun q hq=>hq.2)⟩,hS6⟩
   case rest =>
    obtain⟨rfl,⟨B5,b5,rfl,hsl⟩,hbx⟩:=hcut
    have HSL:=Lib.hid hsl
    obtain⟨y1,y2⟩:=HCI.out _ hbx j hlt
    obtain⟨v1,v2,v3⟩:=(HM.out _ hbx).cli j hlt
    have HV3:=Lib.hid v3
    clear hsl v3 HIM
    cases hq:s.th j with
    | true =>
      obtain⟨rfl,e2,e3,_⟩:=HG1.out hq
      rw [hq] at y2
      have hrl:(s.cl j).length=2:=by
       have:=congrArg List.length e3
       simpa [Proofs.YtgndgkjefgjamaaGreat.lens] using this
      have hrl9:(s.cl j).length≤9223372036854775807:=by omega
      obtain rfl:r=s.cl j:=e2
      clear e3 hq HG1 HG2 hrl
      go_wp2_with fail
      refine (sameImg07_any B5 (ca j) b5 (cc j) _ _ (s.cl j) (s.cl j) _ HSL.out HV3.out hrl9 hrl9).mono ?_
      rw [beq_self_eq_true]
      rintro e w8 ⟨rfl,hd8⟩
      go_wp2_with fail
      go_roundw
      case rel=>exact⟨j+1,hlt,by go_num,hbx.trans (hd8.below _)⟩
      case measure=>simp [intOf];omega
    | false =>
      obtain⟨rfl,e2⟩:=HG2.out hq
      rw [hq] at y2
      clear hq HG1 HG2 e2
      go_wp2_with fail
      go_roundw
      case rel=>exact⟨j+1,hlt,by go_num,hbx⟩
      case measure=>simp [intOf];omega
  ·have hjj:j=4:=by omega
   subst hjj
   obtain⟨y0,y1,y2,y3,y4⟩:=HC5.out _ hB
   have hl2:=(h.lim ha hk).2.2
   have hcl:=(HM.out _ hB).cls.im.2.2
   have hcu:=(HM.out _ hB).cur.2.2
   have he:(s.c.1.1==s.cur)=true:=by rw [h.cur];exact beq_self_eq_true _
   have hl3:s.c.1.1.length=2:=by rw [h.cur];exact hl2
   have HSM:=Lib.hid (sameImg07_any A B c bc _ _ s.c.1.1 s.cur wo hcl hcu (by omega) (by omega))
   rw [he] at HSM
   clear hl2 hl3 hcl hcu he
   go_wp2_with fail
   refine HSM.out.mono ?_
   rintro e w8 ⟨rfl,hd8⟩
   go_wp2_with fail
   go_ret
   exact⟨rfl,ext_trans hB0 (hB.trans (hd8.below _))⟩
end Go.Proofs.YtgndgkjefgjamaaGreat

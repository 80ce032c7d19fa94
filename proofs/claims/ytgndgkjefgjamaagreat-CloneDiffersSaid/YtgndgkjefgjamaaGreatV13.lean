/-
  clone.Write: the walk.; Plain words: the steps of a run over clones keep what is right. No program in sight.; The reference's New and Cost; Few and Same of snapshots.; Reference 37: Same, Few; the law's same: the walks.
-/
import Derived.BigQuiet
import Derived.Deep.DeepCutAuto
import Derived.Test.YtgndgkjefgjamaaGreatV01
import Derived.Test.YtgndgkjefgjamaaGreatV02
import Derived.Test.YtgndgkjefgjamaaGreatV03
import Derived.Test.YtgndgkjefgjamaaGreatV04
import Derived.Test.YtgndgkjefgjamaaGreatV05
import Derived.Test.YtgndgkjefgjamaaGreatV06
import Derived.Test.YtgndgkjefgjamaaGreatV07
import Derived.Test.YtgndgkjefgjamaaGreatV08
import Derived.Test.YtgndgkjefgjamaaGreatV09
import Derived.Test.YtgndgkjefgjamaaGreatV10
import Derived.Test.YtgndgkjefgjamaaGreatV11
import Derived.Test.YtgndgkjefgjamaaGreatV12
set_option linter.unusedVariables false
set_option linter.unusedSimpArgs false
set_option linter.unusedSectionVars false
set_option linter.unnecessarySimpa false
namespace Go.Proofs.YtgndgkjefgjamaaGreat
open Go.RowKit Go.Shelf
attribute [local go_sem] Oper.semAt_some

theorem Own.lowC {α:Type} {E:Enc α} {w:World} {base lo:Nat} {e:TypeId} {S:Nat→Prop} {v:Value} {l:List α} (h:Own E w base e S v l) (hl:lo≤base):Own E w lo e S v l:=by
 obtain⟨css,⟨h0,h1⟩,h2,h3⟩:=h
 refine⟨css,⟨h0, ?_⟩,h2,h3⟩
 rcases h1 with h1 | ⟨g,cap,cur,e1,hg,r⟩
 ·exact Or.inl h1
 ·exact Or.inr ⟨g,cap,cur,e1,Nat.le_trans hl hg,r⟩
theorem cls_sl {w:World} {lo g:Nat} {G:Option Addr} {ys:List CB} {S:Nat→Prop} (h:Own encCB w lo 87 (fun _=>False) (.slice G ys.length g) ys) (hov:∀ (i:Nat) (y:CB),ys[i]? = some y→y.1.2.2.length≤y.2.2.1∧y.2.2.1≤maxLen∧SlAt encWr w S y.2.1 y.1.2.2) (hg:∀ b,(Value.slice G ys.length g).ownBlock=some b→S b) :
  ys.length≤g∧g≤maxLen∧SlAt encCln w S G (ys.map (·.1)):=by
 obtain⟨A',c',he,h1,h2,h3⟩:=h.reads (S':=S) (fun b hb=>hb.elim) hg
 simp only [List.cons.injEq,Value.slice.injEq,and_true] at he
 obtain⟨rfl,_,rfl⟩:=he
 refine⟨h1,h2,fun hne => ?_⟩
 have hn:ys≠[]:=by intro e;rw [e] at hne;exact hne rfl
 obtain⟨b,off,e,hb,hc⟩:=h3 hn
 refine⟨b,off,e,hb,fun i x hx => ?_⟩
 rw [List.getElem?_map,Option.map_eq_some_iff] at hx
 obtain⟨y,hy,rfl⟩:=hx
 obtain⟨cs,hcs,hr⟩:=hc i y hy
 refine⟨cs,hcs, ?_⟩
 obtain⟨rfl,r1,r2⟩:=hr
 obtain⟨c1,c2,c3⟩:=hov i y hy
 exact cln_mk r1 r2 c1 c2 c3
theorem setOv_at {l:List Cln} {k:Nat} {xn:ByteArray} {xnum:Int} {xs:List Wr} (hk:k<l.length) (h:l[k]=(xn,xnum,xs)) (f:List Wr→List Wr):setOv l k f=l.set k (xn,xnum,f xs):=by
 unfold setOv
 rw [List.getElem?_eq_getElem hk,h]
set_option maxHeartbeats 4000000 in
set_option maxRecDepth 100000 in
theorem clWrite_any (A A2 A3 Dw:Option Addr) (c c2 c3 n m p dw wl:Nat) (im:Img) (l:List Snp) (cl:List Cln) (nm:ByteArray) (v s:Int) (data:List Sec) (w:World) (hn:im.length=n) (hm:l.length=m) (hp:cl.length=p) (hwl:data.length=wl) (h1:SlAt (encSl encSec) w (Bl w.heap.size) A im) (h2:SlAt encSnp w (Bl w.heap.size) A2 l) (h3:SlAt encCln w (Bl w.heap.size) A3 cl) (h4:SlAt encSec w (Bl w.heap.size) Dw data) (hL:ClLim (im,l) cl) (hvs:I64 v∧I64 s) (hdl:wl≤1000000) (hdc:wl≤dw∧dw≤maxLen) :
  Calls Tryz.prog 19 #[.agg #[.slice A n c,.slice A2 m c2,.slice A3 p c3],.string nm,.agg #[.int .i64 v,.int .i64 s,.slice Dw wl dw]] w (RetCl (wrS ((im,l),cl) nm (v,s,data)) (wrE ((im,l),cl) nm (v,s,data)) w):=by
 subst hn hm hp hwl
 have h4':=h4
 obtain⟨n0,hn0⟩:∃ n0,w.heap.size=n0:=⟨_,rfl⟩
 obtain⟨W0,hW0⟩:∃ W0,((w.alloc (.cells #[.slice A im.length c,.slice A2 l.length c2,.slice A3 cl.length c3] 29)).alloc (.cells #[.int .i64 v,.int .i64 s,.slice Dw data.length dw] 45)).alloc (.cells #[.slice none 0 0,.slice none 0 0,.slice none 0 0] 29)=W0:=⟨_,rfl⟩
 have hB0:Below n0 w W0:=by rw [← hW0, ← hn0];repeat (first | exact Below.refl _ _ | refine ext_alloc ?_)
 have hr0:W0.heap[n0]? = some (.cells #[.slice A im.length c,.slice A2 l.length c2,.slice A3 cl.length c3] 29 (0,0)):=by rw [← hW0, ← hn0];exact (Below.heap_alloc _ _ _ (by simp;omega)).trans ((Below.heap_alloc _ _ _ (by simp)).trans (heap_alloc_new _ _))
 have hr1:W0.heap[n0+1+1]? = some (.cells #[.slice none 0 0,.slice none 0 0,.slice none 0 0] 29 (0,0)):=by rw [← hW0, ← hn0];exact heap_new3 _ _ _ _
 obtain⟨n2,hn2⟩:∃ n2,W0.heap.size=n2:=⟨_,rfl⟩
 have hn02:n0+1+1<n2:=by rw [← hn2];exact (Array.getElem?_eq_some_iff.1 hr1).1
 have up:∀ {α:Type} {E:Enc α} {A:Option Addr} {l:List α},SlAt E w (Bl w.heap.size) A l→∀ W,Below n2 W0 W→SlAt E W (Bl W.heap.size) A l:=fun h W hb=>by
  rw [hn0] at h
  exact (h.blk (fun g hg=>(hb.block g (by have:g<n0:=hg;omega)).trans (hB0.block g hg))).more (fun g hg=>by have:g<n0:=hg;have:=hb.size;show g<W.heap.size;omega)
 have H1:=Lib.hid (up h1)
 have H2:=Lib.hid (up h2)
 have H3:=Lib.hid (up h3)
 have HC:Hid (∀ W,Below n2 W0 W→W.cell? ⟨n0,0,none⟩=some (.slice A im.length c)∧W.cell? ⟨n0,1,none⟩=some (.slice A2 l.length c2)∧W.cell? ⟨n0,2,none⟩=some (.slice A3 cl.length c3)):=fun W hb=>by
  obtain⟨a,b,d,_⟩:=blk3 ((hb.block _ (by omega)).trans hr0)
  exact⟨a,b,d⟩
 have HRR:Hid (∀ W,Below n2 W0 W→W.heap[n0+1+1]? = some (.cells #[.slice none 0 0,.slice none 0 0,.slice none 0 0] 29 (0,0))):=fun W hb=>(hb.block _ (by omega)).trans hr1
 have HROW0:Hid (∀ W,Below n2 W0 W→W.heap[n0]? = some (.cells #[.slice A im.length c,.slice A2 l.length c2,.slice A3 cl.length c3] 29 (0,0))):=fun W hb=>(hb.block _ (by omega)).trans hr0
 have HBW:Hid (∀ W,Below n2 W0 W→Below w.heap.size w W):=fun W hb=>by rw [hn0];exact hB0.trans (hb.mono (by omega))
 have HN0:=Lib.hid hn0
 have HN2:=Lib.hid hn2
 have hN0:n0≤w.heap.size∧w.heap.size≤n0:=by omega
 have hl1:=hL.sn.ims
 have hl2:=hL.sn.its
 have hl3:=hL.its
 have HLM:=Lib.hid hL
 simp only at hl1 hl2
 obtain⟨s0,hs0⟩:∃ s0,clE ((im,l),cl)=s0:=⟨_,rfl⟩
 have HCK:=Lib.hid (fun W (hb:Below n2 W0 W)=>clCheck_any A A2 A3 c c2 c3 im.length l.length cl.length im l cl s0 W rfl rfl rfl hs0 (H1.out W hb) (H2.out W hb) (H3.out W hb) hl1 (by omega) (by omega))
 have HOW:=Lib.hid (fun W (hb:Below n2 W0 W)=>own37_any A A2 A3 c c2 c3 im.length l.length cl.length im l cl W rfl rfl rfl (H1.out W hb) (H2.out W hb) (H3.out W hb) HLM.out)
 have HS0:=Lib.hid hs0
 have hB00:=Below.refl n2 W0
 obtain⟨p0,p1,p2⟩:=HC.out W0 hB00
 clear h1 h2 h3 up hB0 hL hr0 hr1 hs0
 have HFI:=Lib.hid (clFind_any A A2 A3 c c2 c3 im.length l.length cl.length im l cl nm W0 rfl rfl rfl (H1.out W0 hB00) (H2.out W0 hB00) (H3.out W0 hB00) HLM.out)
 have hrw:W0.heap[n0+1]? = some (.cells #[.int .i64 v,.int .i64 s,.slice Dw data.length dw] 45 (0,0)):=by
  rw [← hW0, ← hn0]
  have h:=heap_alloc_new (w.alloc (.cells #[.slice A im.length c,.slice A2 l.length c2,.slice A3 cl.length c3] 29)) (.cells #[.int .i64 v,.int .i64 s,.slice Dw data.length dw] 45)
  simp only [World.size_alloc] at h
  exact (Below.heap_alloc _ _ _ (by simp)).trans h
 have HWC:Hid (∀ W,Below n2 W0 W→W.cell? ⟨n0+1,0,none⟩=some (.int .i64 v)∧W.cell? ⟨n0+1,1,none⟩=some (.int .i64 s)∧W.cell? ⟨n0+1,2,none⟩=some (.slice Dw data.length dw)):=fun W hb=>by
  obtain⟨a,b,d,_⟩:=blk3 ((hb.block _ (by omega)).trans hrw)
  exact⟨a,b,d⟩
 have H4:Hid (∀ W,Below n2 W0 W→SlAt encSec W (Bl W.heap.size) Dw data):=fun W hb=>(h4'.below (HBW.out W hb)).more (Bl.mono (HBW.out W hb).size)
 obtain⟨fe,hfe⟩:∃ fe,fitsN (lens im) (v,s,data)=fe:=⟨_,rfl⟩
 have HFE:=Lib.hid hfe
 clear h4 h4' hrw hfe
 go_enter Tryz.func19,Tryz.ntmps19
 go_wp2_with fail
 refine HFI.out.mono ?_
 intro e w1 hf
 rcases hf with ⟨q,hq0,hqe,rfl,hb1⟩ | ⟨k,B,vc,D,dc,g,gc,m1,m2,hE0,hN0',rfl,hcr,hb1⟩
 ·rw [HN2.out] at hb1
  clear p0 p1 p2 HFI hn2 hn0 hW0
  obtain⟨ob,hob⟩:∃ ob,w1.heap.size=ob:=⟨_,rfl⟩
  have hq0':(q != 0)=true:=by simp [hq0]
  have HE:=Lib.hid hqe
  have HQ0:=Lib.hid hq0
  clear hq0 hqe
  obtain⟨w2,hw2⟩:∃ w2,w1.alloc (.cells #[.slice none 0 0,.slice none 0 0,.slice none 0 0] 29)=w2:=⟨_,rfl⟩
  have hb2:Below n2 W0 w2:=by rw [← hw2];exact hb1.alloc (by have:=hb1.size;have:=HN2.out;omega) _
  have HW2:=Lib.hid hw2
  clear hw2
  go_upto_region 2 with (fail)
  rw [HW2.out]
  clear HW2
  have HE2:Hid (wrE ((im,l),cl) nm (v,s,data)=q):=by rw [Hid,wrE,HE.out,if_pos HQ0.out]
  have HT:Hid (wrS ((im,l),cl) nm (v,s,data)=zCls):=by rw [Hid,wrS,if_neg (by rw [HE2.out];exact HQ0.out)]
  have hr2:=HRR.out w2 hb2
  obtain⟨v0,v1,v2,vf⟩:=blk3 hr2
  go_wp2_with fail
  have hend:=cl_end (w:=w) (x:=zCls) (A:=none) (c:=0) (D:=none) (d:=0) (G:=none) (g:=0) hr2 (by omega) (HBW.out w2 hb2) ClAt.zero q
  obtain⟨hz,hret⟩:=hend
  change bodyPost _ _ _ _ _ (sw3 w2 (n0+1+1) (.slice none (zCls).1.1.length 0) (.slice none (zCls).1.2.length 0) (.slice none (zCls).2.length 0))
  generalize sw3 w2 (n0+1+1) (.slice none (zCls).1.1.length 0) (.slice none (zCls).1.2.length 0) (.slice none (zCls).2.length 0)=W3 at hz hret ⊢
  obtain⟨z0,z1,z2,_⟩:=blk3 hz
  refine bodyPost_ret (v := .tuple #[.agg #[.slice none (zCls).1.1.length 0,.slice none (zCls).1.2.length 0,.slice none (zCls).2.length 0],.int .i64 q]) ?_ rfl ?_
  ·simp [results,Tryz.results19,Tryz.f19,go_sem,z0,z1,z2,zCls,zSns]
  rw [HT.out,HE2.out];exact hret
 ·rw [HN2.out] at hb1
  clear p0 p1 p2 HFI hn2 hn0 hW0
  obtain⟨ob,hob⟩:∃ ob,w1.heap.size=ob:=⟨_,rfl⟩
  have HE:=Lib.hid hE0
  obtain⟨hck,hkl,hknm,hfd⟩:=cfE_ok hE0
  simp only at hkl hfd
  rw [hN0'] at hkl
  have HNK:=Lib.hid hN0'
  have HCKE:=Lib.hid hck
  obtain⟨w2,hw2⟩:∃ w2,w1.alloc (.cells #[.slice B im.length vc,.slice D l.length dc,.slice (some ⟨g,0,none⟩) cl.length gc] 29)=w2:=⟨_,rfl⟩
  have hb12:Below ob w1 w2:=by rw [← hw2, ← hob];exact ext_alloc (Below.refl _ _)
  have hr2:w2.heap[ob]? = some (.cells #[.slice B im.length vc,.slice D l.length dc,.slice (some ⟨g,0,none⟩) cl.length gc] 29 (0,0)):=by rw [← hw2, ← hob];exact heap_alloc_new _ _
  have hle:=hcr.le
  have hz1:=hb1.size
  have hN2:n2≤W0.heap.size∧W0.heap.size≤n2:=by have:=HN2.out;omega
  have hz2:ob<w2.heap.size:=(Array.getElem?_eq_some_iff.1 hr2).1
  have hb2:Below n2 W0 w2:=hb1.trans (hb12.mono (by omega))
  have hO2:OwnX (fun b=>b=ob) encCln w2 m2 87 (.slice (some ⟨g,0,none⟩) cl.length gc) cl:=(hcr.cl.var (X':=fun b=>b=ob) (fun g hg=>Or.inr (by rw [hob];omega))).below (by rw [hob];exact hb12)
  have HO2:=Lib.hid hO2
  have HCR:=Lib.hid hcr
  obtain⟨_,_,_,hS2⟩:=hO2.parts
  have hgl:=hO2.lt g rfl
  have hgo:g≠ob:=hO2.2 g rfl
  obtain⟨b',off',Dx,dx,hA',hbS,g0,g1,g2,hDx,hd1,hd2,hi1,hi2⟩:=hS2.cln hkl
  injection hA' with hA'
  injection hA' with hA1 hA2
  subst hA1 hA2
  obtain⟨xv,hxv⟩:∃ x,cl[k]=x:=⟨_,rfl⟩
  rw [hxv] at g0 g1 g2 hDx hd1 hi1 hi2
  have HXV:Hid (cAt ((im,l),cl) nm=xv):=by rw [Hid,cAt,hN0',List.getD_eq_getElem?_getD,List.getElem?_eq_getElem hkl];exact hxv
  have HXM:Hid (xv∈cl):=by rw [Hid, ← hxv];exact List.getElem_mem hkl
  obtain⟨xn,xnum,xs⟩:=xv
  simp only [Nat.zero_add] at g0 g1 g2 hDx hd1 hi1 hi2
  obtain⟨nq,hnq⟩:∃ nq,w2.heap.size=nq:=⟨_,rfl⟩
  have hnqs:nq≤w2.heap.size∧w2.heap.size≤nq:=by omega
  have HOC:Hid (∀ W,Below nq w2 W→W.cell? ⟨ob,0,none⟩=some (.slice B im.length vc)∧W.cell? ⟨ob,1,none⟩=some (.slice D l.length dc)∧W.cell? ⟨ob,2,none⟩=some (.slice (some ⟨g,0,none⟩) cl.length gc)):=fun W hb=>by
   obtain⟨a,b,d,_⟩:=blk3 ((hb.block ob (by omega)).trans hr2)
   exact⟨a,b,d⟩
  have HXC:Hid (∀ W,Below nq w2 W→W.cell? ⟨g,k * 3,none⟩=some (.string xn)∧W.cell? ⟨g,k * 3+1,none⟩=some (.int .i64 xnum)∧W.cell? ⟨g,k * 3+2,none⟩=some (.slice Dx xs.length dx)):=fun W hb=>by
   have hgg:∀ i,W.cell? ⟨g,i,none⟩=w2.cell? ⟨g,i,none⟩:=fun i=>World.cell?_of_block (hb.block g (by omega))
   exact⟨(hgg _).trans g0,(hgg _).trans g1,(hgg _).trans g2⟩
  have HXS:Hid (∀ W,Below nq w2 W→SlAt encWr W (Bl W.heap.size) Dx xs):=fun W hb=>(hDx.blk (fun x hx=>hb.block x (by have:=hx.1.2;omega))).more (fun x hx=>by have:=hx.1.2;have:=hb.size;show x<W.heap.size;omega)
  have HIM:Hid (∀ W,Below nq w2 W→SlAt (encSl encSec) W (Bl W.heap.size) B im∧SlAt encSnp W (Bl W.heap.size) D l):=fun W hb=>by
   have hz:=hb.size
   exact⟨(HCR.out.im.2.2.blk (fun x hx=>(hb.block x (by have:=hx.2;omega)).trans (hb12.block x (by have:=hx.2;omega)))).more (fun x hx=>by have:=hx.2;show x<W.heap.size;omega),(HCR.out.sn.2.2.blk (fun x hx=>(hb.block x (by have:=hx.2;omega)).trans (hb12.block x (by have:=hx.2;omega)))).more (fun x hx=>by have:=hx.2;show x<W.heap.size;omega)⟩
  have HBQ:Hid (∀ W,Below nq w2 W→Below n2 W0 W):=fun W hb=>hb2.trans (hb.mono (by omega))
  have HCAP:=Lib.hid (And.intro HCR.out.im.1 (And.intro HCR.out.im.2.1 (And.intro HCR.out.sn.1 HCR.out.sn.2.1)))
  have HW2:=Lib.hid hw2
  have hk0:(0:Int)≤k:=by omega
  have hk9:(k:Int)≤9223372036854775806:=by omega
  have hckl:cl.length≤16:=(clE_ok hck).2.1
  clear hw2 hcr hO2 hS2 hE0 hck hknm hfd hN0' g0 g1 g2 hDx hnq hxv hbS
  go_upto_region 2 with (fail)
  rw [HW2.out]
  clear HW2
  obtain⟨hf1,hf2,hf3⟩:=clE_fits HCKE.out
  obtain⟨hf4,hf5⟩:=hf3 _ HXM.out
  simp only at hf4 hf5
  have HF1:=Lib.hid hf1
  have HF5:=Lib.hid hf5
  have HFT:=Lib.hid (imgFits_any B vc im.length im v s Dw dw data.length data w2 rfl rfl (HIM.out w2 (Below.refl _ _)).1 (by omega) hf1 (by omega) hvs.1 hvs.2 fe HFE.out)
  obtain⟨q0,q1,q2⟩:=HOC.out w2 (Below.refl _ _)
  obtain⟨y0,y1,y2⟩:=HWC.out w2 hb2
  clear hf1 hf2 hf3 hf4 hf5
  go_wp2_with fail
  refine HFT.out.mono ?_
  rintro e w3 ⟨rfl,hb3⟩
  have hbq3:Below nq w2 w3:=hb3.mono (by omega)
  have hb3':=HBQ.out w3 hbq3
  clear q0 q1 q2 y0 y1 y2 HFT
  by_cases hfe0:fe=0
  case neg =>
   have hfe':(fe != 0)=true:=by simp [hfe0]
   have HE2:Hid (wrE ((im,l),cl) nm (v,s,data)=fe):=by rw [Hid,wrE,HE.out,if_neg (by simp)];exact HFE.out
   have HT:Hid (wrS ((im,l),cl) nm (v,s,data)=zCls):=by rw [Hid,wrS,if_neg (by rw [HE2.out];exact hfe0)]
   clear hfe0
   have hr3:=HRR.out w3 hb3'
   obtain⟨v0,v1,v2,vf⟩:=blk3 hr3
   go_wp2_with fail
   have hend:=cl_end (w:=w) (x:=zCls) (A:=none) (c:=0) (D:=none) (d:=0) (G:=none) (g:=0) hr3 (by omega) (HBW.out w3 hb3') ClAt.zero fe
   obtain⟨hz,hret⟩:=hend
   change bodyPost _ _ _ _ _ (sw3 w3 (n0+1+1) (.slice none (zCls).1.1.length 0) (.slice none (zCls).1.2.length 0) (.slice none (zCls).2.length 0))
   generalize sw3 w3 (n0+1+1) (.slice none (zCls).1.1.length 0) (.slice none (zCls).1.2.length 0) (.slice none (zCls).2.length 0)=W3 at hz hret ⊢
   obtain⟨z0,z1,z2,_⟩:=blk3 hz
   refine bodyPost_ret (v := .tuple #[.agg #[.slice none (zCls).1.1.length 0,.slice none (zCls).1.2.length 0,.slice none (zCls).2.length 0],.int .i64 fe]) ?_ rfl ?_
   ·simp [results,Tryz.results19,Tryz.f19,go_sem,z0,z1,z2,zCls,zSns]
   rw [HT.out,HE2.out];exact hret
  have hfe':(fe != 0)=false:=by simp [hfe0]
  have HE2:Hid (wrE ((im,l),cl) nm (v,s,data)=0):=by rw [Hid,wrE,HE.out,if_neg (by simp)];exact HFE.out.trans hfe0
  have hfit:fitsN (lens im) (v,s,data)=0:=HFE.out.trans hfe0
  subst hfe0
  obtain⟨rr,hrr⟩:∃ rr,foldL (xs++[(v,s,data)])=rr:=⟨_,rfl⟩
  have hpl:errOf placedN (xs++[(v,s,data)])=0:=errOf_zero (fun x hx=>by
   rcases List.mem_append.1 hx with hx | hx
   ·exact fits_placed1 HF1.out (HF5.out x hx)
   ·rw [List.mem_singleton.1 hx];exact fits_placed1 HF1.out hfit)
  have hxl:xs.length≤100000:=(HLM.out.ovl _ HXM.out).1
  -- the overlay's own memory
  obtain⟨ys,hym,hyo⟩:=HCR.out.ow
  have hyo2:ClsOwn w2 m2 (some ⟨g,0,none⟩) gc ys:=hyo.keep (by omega) (fun x h1 h2=>hb12.block x (by omega))
  have hyl:ys.length=cl.length:=by rw [← hym,List.length_map]
  have hky:k<ys.length:=by omega
  have hclk:cl[k]=(xn,xnum,xs):=by
   have h:=HXV.out
   rw [cAt,HNK.out,List.getD_eq_getElem?_getD,List.getElem?_eq_getElem hkl] at h
   exact h
  have hy1:(ys[k]).1=(xn,xnum,xs):=by rw [← hclk];simp [← hym]
  obtain⟨ha1,hb1',hoi,hgn⟩:=hyo2.ov ys[k] (List.getElem_mem hky)
  have hb1w:=(hyo.ov ys[k] (List.getElem_mem hky)).2.1
  obtain⟨yk,hyk⟩:∃ y,ys[k]=y:=⟨_,rfl⟩
  rw [hyk] at hy1 ha1 hb1' hoi hgn hb1w
  obtain⟨yc,D',d',ia,ib⟩:=yk
  obtain rfl:yc=(xn,xnum,xs):=hy1
  simp only at ha1 hb1' hoi hgn hb1w
  have hcellk:Dx=D'∧dx=d':=by
   obtain⟨A',c',he,_,_,h3⟩:=hyo2.own.reads (S':=fun _=>True) (fun _ h=>h.elim) (fun _ _=>trivial)
   simp only [List.cons.injEq,Value.slice.injEq,and_true] at he
   obtain⟨rfl,_,rfl⟩:=he
   obtain⟨bb,oo,cs,e,_,hcs,hr⟩:=h3.at_ hky
   injection e with e
   injection e with e1 e2
   subst e1 e2
   rw [hyk] at hr
   obtain⟨rfl,_,_⟩:=hr
   have h9:=hcs 2 _ rfl
   rw [show 0+k * encCB.size+2=k * 3+2 by show 0+k * 3+2=_;omega,(HXC.out w2 (Below.refl _ _)).2.2] at h9
   simp only [Option.some.injEq,Value.slice.injEq] at h9
   exact⟨h9.1,h9.2.2⟩
  obtain⟨rfl,rfl⟩:=hcellk
  have hgab:¬ Nw ia ib g:=hgn g rfl
  have HOI:=Lib.hid hoi
  have hownlt:∀ b,(Value.slice Dx xs.length dx).ownBlock=some b→Nw ia ib b:=fun b hb=>⟨(hoi.1.lt b hb).1,hoi.2 b hb⟩
  have HOL:=Lib.hid hownlt
  have HYO:=Lib.hid hyo2
  have HYK:=Lib.hid hyk
  have HYM:=Lib.hid hym
  have HPL:=Lib.hid hpl
  have HFO:=Lib.hid hrr
  have HCLK:=Lib.hid hclk
  have hibq:ib≤nq:=by omega
  have HSX:Hid (∀ W,(Below m2 w2 W∧∀ x,x<nq→¬ Nw ia ib x→W.heap[x]? = w2.heap[x]?)→W.cell? ⟨g,k * 3+2,none⟩=some (.slice Dx xs.length dx)):=fun W hW=>(World.cell?_of_block (hW.2 g (by omega) hgab)).trans (HXC.out w2 (Below.refl _ _)).2.2
  have hSw:Below m2 w2 w3.drew∧∀ x,x<nq→¬ Nw ia ib x→w3.drew.heap[x]? = w2.heap[x]? := ⟨(hb3.mono (by omega)).drew,fun x hx _=>hb3.block x (by omega)⟩
  have hz3:=hb3.size
  clear hoi hownlt hyo hyo2 hyk hym hpl hrr hclk hgn hfit
  go_upto_region 7 with (fail)
  go_cut [12,10] (fun e f wx=>f = .int .i64 0∧∃ A8 c8,e = .slice A8 rr.length c8∧rr.length≤c8∧c8≤maxLen∧SlAt encWr wx (Nw nq wx.heap.size) A8 rr∧Below m2 w2 wx∧∀ x,x<nq→¬ Nw ia ib x→wx.heap[x]? = w2.heap[x]?)
  case first =>
   refine wp_region_U (fun W'=>Below m2 w2 W'∧∀ x,x<nq→¬ Nw ia ib x→W'.heap[x]? = w2.heap[x]?) 14 (by kernel_rfl) ?_
   refine wpAnyU_takeD (i:=0) (v := ?_) rfl rfl (by kernel_rfl) (by kernel_rfl) (by kernel_rfl) (by kernel_rfl) (fun _ _ _ h=>h) (by rfl) ?_ hSw ?_
   rotate_left 1
   ·intro W9 hW9
    try dsimp only at hW9
    obtain _:=trivial
    go_simp
    try with_reducible rfl
   try simp only [List.setIfInBounds_toArray,List.set_cons_zero,List.set_cons_succ]
   refine wpAnyU_takeD (i:=1) (v := ?_) rfl rfl (by kernel_rfl) (by kernel_rfl) (by kernel_rfl) (by kernel_rfl) (fun _ _ _ h=>h) (by rfl) ?_ hSw ?_
   rotate_left 1
   ·intro W9 hW9
    try dsimp only at hW9
    obtain _:=trivial
    go_simp
    try with_reducible rfl
   try simp only [List.setIfInBounds_toArray,List.set_cons_zero,List.set_cons_succ]
   refine wpAnyU_takeD (i:=2) (v := ?_) rfl rfl (by kernel_rfl) (by kernel_rfl) (by kernel_rfl) (by kernel_rfl) (fun _ _ _ h=>h) (by rfl) ?_ hSw ?_
   rotate_left 1
   ·intro W9 hW9
    try dsimp only at hW9
    obtain _:=trivial
    go_simp
    try with_reducible rfl
   try simp only [List.setIfInBounds_toArray,List.set_cons_zero,List.set_cons_succ]
   refine wpAnyU_takeD (i:=3) (v := ?_) rfl rfl (by kernel_rfl) (by kernel_rfl) (by kernel_rfl) (by kernel_rfl) (fun _ _ _ h=>h) (by rfl) ?_ hSw ?_
   rotate_left 1
   ·intro W9 hW9
    try dsimp only at hW9
    obtain q2:=HSX.out W9 hW9
    go_simp
    try with_reducible rfl
   try simp only [List.setIfInBounds_toArray,List.set_cons_zero,List.set_cons_succ]
   obtain⟨y0,y1,y2⟩:=HWC.out w3 hb3'
   refine wpAnyU_op (i:=4) (by kernel_rfl) rfl rfl (fun K hK => ?_)
   go_simp
   refine hK.out _ _ (fun _=>hSw) ?_
   clear hK K
   try simp only [Act.put,List.setIfInBounds_toArray,List.set_cons_zero,List.set_cons_succ]
   clear y0 y1 y2
   have hS5:Below m2 w2 (w3.drew.alloc (.cells #[.int .i64 v,.int .i64 s,.slice Dw data.length dw] 45))∧∀ x,x<nq→¬ Nw ia ib x→(w3.drew.alloc (.cells #[.int .i64 v,.int .i64 s,.slice Dw data.length dw] 45)).heap[x]? = w2.heap[x]? := ⟨hSw.1.alloc (by have:=hSw.1.size;omega) _,fun x hx hn=>(Below.heap_alloc _ _ _ (by show x<w3.heap.size;omega)).trans (hSw.2 x hx hn)⟩
   refine wpAnyU_op (i:=5) (by kernel_rfl) rfl rfl (fun K hK => ?_)
   go_simp
   refine hK.out _ _ (fun _=>hS5) ?_
   clear hK K
   try simp only [Act.put,List.setIfInBounds_toArray,List.set_cons_zero,List.set_cons_succ]
   have hr5:(w3.drew.alloc (.cells #[.int .i64 v,.int .i64 s,.slice Dw data.length dw] 45)).heap[w3.heap.size]? = some (.cells #[.int .i64 v,.int .i64 s,.slice Dw data.length dw] 45 (0,0)):=heap_alloc_new w3.drew _
   have hk5:∀ x,x<w3.heap.size→(w3.drew.alloc (.cells #[.int .i64 v,.int .i64 s,.slice Dw data.length dw] 45)).heap[x]? = w3.heap[x]? := fun x hx=>Below.heap_alloc w3.drew _ x hx
   change wpAnyU _ _ _ _ _ _ _ _ _ (w3.drew.alloc (.cells #[.int .i64 v,.int .i64 s,.slice Dw data.length dw] 45))
   generalize w3.drew.alloc (.cells #[.int .i64 v,.int .i64 s,.slice Dw data.length dw] 45)=W5 at hS5 hr5 hk5 ⊢
   have hl5:w3.heap.size<W5.heap.size:=(Array.getElem?_eq_some_iff.1 hr5).1
   have hSl5:SlAt encWr W5 (Bl W5.heap.size) (some ⟨w3.heap.size,0,none⟩) [(v,s,data)] :=
    litSl36 (E:=encWr) (S0:=Bl w3.heap.size) (css:=[[.int .i64 v,.int .i64 s,.slice Dw data.length dw]]) hr5 rfl ⟨wr_mk (x:=(v,s,data)) hvs.1 hvs.2 hdc.1 hdc.2 ((H4.out w3 hb3').blk (fun x hx=>hk5 x hx)),trivial⟩ (fun b hb=>by have:b<w3.heap.size:=hb;show b<W5.heap.size;omega) hl5
   have HCW:=Lib.hid (clWrites_any (some ⟨w3.heap.size,0,none⟩) 1 1 [(v,s,data)] W5 rfl hSl5 (by decide) (fun x hx=>by rw [List.mem_singleton.1 hx];exact hdl))
   clear hSl5
   refine wpAnyU_op (i:=6) (by kernel_rfl) rfl rfl (fun K hK => ?_)
   go_wp2_with fail
   refine (HCW.out).mono ?_
   rintro e w6 ⟨A6,c6,rfl,hox6,hb6⟩
   refine hK.out _ _ (fun _=>(show Below m2 w2 w6∧∀ x,x<nq→¬ Nw ia ib x→w6.heap[x]? = w2.heap[x]? from ⟨hS5.1.trans (hb6.mono (by have:=hS5.1.size;omega)),fun x hx hn=>(hb6.block x (by have:=hS5.1.size;omega)).trans (hS5.2 x hx hn)⟩)) ?_
   clear hK K
   try simp only [Act.put,List.setIfInBounds_toArray,List.set_cons_zero,List.set_cons_succ]
   have hS6:Below m2 w2 w6∧∀ x,x<nq→¬ Nw ia ib x→w6.heap[x]? = w2.heap[x]? := ⟨hS5.1.trans (hb6.mono (by have:=hS5.1.size;omega)),fun x hx hn=>(hb6.block x (by have:=hS5.1.size;omega)).trans (hS5.2 x hx hn)⟩
   have hz6:=hb6.size
   have hz5:=hS5.1.size
   have hSl6:=hox6.parts.2.2.2
   have hoi6:OwnIn w6 ia ib (.slice Dx xs.length dx) xs:=HOI.out.keep (fun x hx=>(hb6.block x (by have:=hx.2;omega)).trans ((hk5 x (by have:=hx.2;omega)).trans (hb3.block x (by have:=hx.2;omega))))
   have hOwn6:Own encWr w6 m2 45 (fun b=>(Nw ia ib b∨Nw W5.heap.size w6.heap.size b)∧(Value.slice Dx xs.length dx).ownBlock≠some b) (.slice Dx xs.length dx) xs:=(hoi6.1.more (fun b hb=>⟨Or.inl hb.1,hb.2⟩) (fun b hb hS=>hS.2 hb)).lowC ha1
   have hSl6':SlAt encWr w6 (fun b=>(Nw ia ib b∨Nw W5.heap.size w6.heap.size b)∧(Value.slice Dx xs.length dx).ownBlock≠some b) A6 [(v,s,data)]:=hSl6.more (fun b hb=>⟨Or.inr hb.1,fun e=>by have:=(HOL.out b e).2;have:=hb.1.1;omega⟩)
   have hSb:∀ b,((Nw ia ib b∨Nw W5.heap.size w6.heap.size b)∧(Value.slice Dx xs.length dx).ownBlock≠some b)→b<w6.heap.size:=fun b hb=>by
    rcases hb.1 with h | h
    ·have:=h.2;omega
    ·exact h.2
   refine wpAnyU_one (i:=7) (by kernel_rfl) rfl (fun K hK => ?_)
   refine step_appAll (E:=encWr) tyWrs rfl _ _ rfl rfl hOwn6 (news:=[(v,s,data)]) rfl rfl hSl6' hSb (by omega) (by unfold maxLen;omega) (by omega) ?_
   intro A7 c7 w7 hown7 hg7 hat7
   have hz7:=hg7.size
   have hS7:Below m2 w2 w7∧∀ x,x<nq→¬ Nw ia ib x→w7.heap[x]? = w2.heap[x]? := ⟨hS6.1.grown hg7 (by omega) (fun x e=>by have:=(HOL.out x e).1;omega),fun x hx hn=>(hg7.block x (by omega) (fun e=>hn (HOL.out x e.symm))).trans (hS6.2 x hx hn)⟩
   have hSl7:SlAt encWr w7 (Bl w7.heap.size) A7 (xs++[(v,s,data)]):=by
    obtain⟨A',c',he,_,_,h3⟩:=hown7.reads (S':=Bl w7.heap.size) (fun b hb=>by
     rcases hb.1 with h | h
     ·have:=h.2;show b<w7.heap.size;omega
     ·have:=h.2;show b<w7.heap.size;omega) (fun b hb=>(hown7.lt b hb).2)
    simp only [List.cons.injEq,Value.slice.injEq,and_true] at he
    obtain⟨rfl,_,_⟩:=he
    exact h3
   refine hK.out _ _ (fun _=>hS7) ?_
   clear hK K
   have HFD:=Lib.hid (foldX A7 c7 (xs.length+1) (xs++[(v,s,data)]) rr (by simp) HFO.out HPL.out w7 hSl7 (by omega))
   clear hown7 hat7 hOwn6 hSl6 hSl6' hoi6 hSl7 hSb hox6 hk5 hr5
   change wpAnyU _ _ _ _ _ _ 6 _ (Act.put _ (some 41) _) _
   obtain⟨xn1,hxn1⟩:∃ n,xs.length+1=n:=⟨_,rfl⟩
   rw [hxn1] at HFD ⊢
   clear hxn1
   simp only [Act.put,List.setIfInBounds_toArray,List.set_cons_zero,List.set_cons_succ]
   refine wpAnyU_op (i:=8) (by kernel_rfl) rfl rfl (fun K hK => ?_)
   go_wp2_with fail
   refine (HFD.out).mono ?_
   rintro e w8 ⟨A8,c8,rfl,f1,f2,f3,hb8⟩
   refine hK.out _ _ (fun _=>(show Below m2 w2 w8∧∀ x,x<nq→¬ Nw ia ib x→w8.heap[x]? = w2.heap[x]? from ⟨hS7.1.trans (hb8.mono (by omega)),fun x hx hn=>(hb8.block x (by omega)).trans (hS7.2 x hx hn)⟩)) ?_
   clear hK K
   try simp only [Act.put,List.setIfInBounds_toArray,List.set_cons_zero,List.set_cons_succ]
   have hS8:Below m2 w2 w8∧∀ x,x<nq→¬ Nw ia ib x→w8.heap[x]? = w2.heap[x]? := ⟨hS7.1.trans (hb8.mono (by omega)),fun x hx hn=>(hb8.block x (by omega)).trans (hS7.2 x hx hn)⟩
   refine wpAnyU_op (i:=9) (by kernel_rfl) rfl rfl (fun K hK => ?_)
   go_simp
   refine hK.out _ _ (fun _=>hS8) ?_
   clear hK K
   try simp only [Act.put,List.setIfInBounds_toArray,List.set_cons_zero,List.set_cons_succ]
   clear hSw
   have hSw:=hS8
   refine wpAnyU_takeD (i:=10) (v := ?_) rfl rfl (by kernel_rfl) (by kernel_rfl) (by kernel_rfl) (by kernel_rfl) (fun _ _ _ h=>h) (by rfl) ?_ hSw ?_
   rotate_left 1
   ·intro W9 hW9
    try dsimp only at hW9
    obtain _:=trivial
    go_simp
    try with_reducible rfl
   try simp only [List.setIfInBounds_toArray,List.set_cons_zero,List.set_cons_succ]
   refine wpAnyU_takeD (i:=11) (v := ?_) rfl rfl (by kernel_rfl) (by kernel_rfl) (by kernel_rfl) (by kernel_rfl) (fun _ _ _ h=>h) (by rfl) ?_ hSw ?_
   rotate_left 1
   ·intro W9 hW9
    try dsimp only at hW9
    obtain _:=trivial
    go_simp
    try with_reducible rfl
   try simp only [List.setIfInBounds_toArray,List.set_cons_zero,List.set_cons_succ]
   refine wpAnyU_op (i:=12) (by kernel_rfl) rfl rfl (fun K hK => ?_)
   go_simp
   refine hK.out _ _ (fun _=>hS8) ?_
   clear hK K
   try simp only [Act.put,List.setIfInBounds_toArray,List.set_cons_zero,List.set_cons_succ]
   refine wpAnyU_op (i:=13) (by kernel_rfl) rfl rfl (fun K hK => ?_)
   go_simp
   refine hK.out _ _ (fun _=>hS8) ?_
   clear hK K
   try simp only [Act.put,List.setIfInBounds_toArray,List.set_cons_zero,List.set_cons_succ]
   refine wpAnyU_done (by kernel_rfl) ?_ _
   go_wp2
   go_meet
   exact⟨rfl,A8,c8,rfl,f1,f2,f3.more (fun b hb=>⟨by have:=hb.1;omega,hb.2⟩),hS8.1,hS8.2⟩
  case rest =>
   obtain⟨rfl,A8,c8,rfl,f1,f2,f3,hbm,hkx⟩:=hcut
   obtain⟨wy,rfl⟩:∃ wy:World,wy=wc:=⟨_,rfl⟩
   have hOwnY:Own encCB wy m2 87 (fun _=>False) (.slice (some ⟨g,0,none⟩) ys.length gc) ys:=HYO.out.own.blk (fun b hb=>by
    rcases hb with hb | hb
    ·exact hb.elim
    ·have e:g=b:=by simpa [Value.ownBlock] using hb
     subst e
     exact hkx g (by omega) hgab)
   have hgrow:∃ cur,wy.heap[g]? = some (.cells cur 87 (0,0)):=by
    obtain⟨_,_,h⟩:=hOwnY.row
    rcases h with ⟨h,_⟩ | ⟨g',cap,cur,e1,_,h2,_⟩
    ·cases h
    ·simp only [Value.slice.injEq,Option.some.injEq,Addr.mk.injEq] at e1
     obtain⟨⟨rfl,_⟩,_⟩:=e1
     exact⟨cur,h2⟩
   obtain⟨cur,hgr⟩:=hgrow
   have hfz:wy.frozen? ⟨g,k * 3+2,none⟩=false:=by simp [World.frozen?,hgr]
   have hcx:=HSX.out wy ⟨hbm,hkx⟩
   have hzy:=hbm.size
   have hb2y:Below n2 W0 wy:=hb2.trans (hbm.mono (by omega))
   have hOwn9:Own encCB (wy.setCell ⟨g,k * 3+2,none⟩ (.slice A8 rr.length c8)) m2 87 (fun _=>False) (.slice (some ⟨g,0,none⟩) ys.length gc) (ys.set k ((xn,xnum,rr),A8,c8,0,0)) :=
    Own.stored hOwnY hky (j:=2) (by decide) (.slice A8 rr.length c8) ((xn,xnum,rr),A8,c8,0,0) (fun cs hr=>by
     rw [HYK.out] at hr
     obtain⟨rfl,r1,r2⟩:=hr
     exact⟨rfl,r1,r2⟩)
   have HOwn9:=Lib.hid hOwn9
   have HF3:=Lib.hid f3
   clear hOwn9 hOwnY hgr
   go_upto_region 11 with (fail)
   clear hfz hcx
   change Code.wp _ _ _ _ (wy.setCell ⟨g,k * 3+2,none⟩ (.slice A8 rr.length c8))
   have hk9:∀ x,x≠g→(wy.setCell ⟨g,k * 3+2,none⟩ (.slice A8 rr.length c8)).heap[x]? = wy.heap[x]? := fun x hx=>heap_setCell_other _ _ _ _ hx
   have hz9:wy.heap.size≤(wy.setCell ⟨g,k * 3+2,none⟩ (.slice A8 rr.length c8)).heap.size:=by simp [World.setCell]
   have hb9:Below n2 W0 (wy.setCell ⟨g,k * 3+2,none⟩ (.slice A8 rr.length c8)):=hb2y.setCell (p:=⟨g,k * 3+2,none⟩) (by show n2≤g;omega) _
   generalize wy.setCell ⟨g,k * 3+2,none⟩ (.slice A8 rr.length c8)=w9 at HOwn9 hk9 hz9 hb9 ⊢
   have hr9:=(hk9 ob (fun e=>hgo e.symm)).trans ((hkx ob (by omega) (fun h=>by have:=h.2;omega)).trans hr2)
   have hr19:=HRR.out w9 hb9
   obtain⟨xl,hxl2⟩:∃ xl,cl.set k (xn,xnum,rr)=xl:=⟨_,rfl⟩
   have hlen:xl.length=cl.length:=by rw [← hxl2,List.length_set]
   have HT:Hid (wrS ((im,l),cl) nm (v,s,data)=((im,l),xl)):=by
    rw [Hid,wrS,if_pos HE2.out,HNK.out]
    show ((im,l),setOv cl k fun d=>foldL (d++[(v,s,data)]))=_
    rw [setOv_at hkl HCLK.out,HFO.out,hxl2]
   have hcs:=cls_sl (S:=fun q=>w.heap.size≤q∧q<w9.heap.size∧q≠n0+1+1) (by rw [List.length_set];exact HOwn9.out) (fun i y hy=>by
    rw [List.getElem?_set] at hy
    by_cases hik:k=i
    ·rw [if_pos hik,if_pos hky] at hy
     injection hy with hy
     subst hy
     exact⟨f1,f2,(HF3.out.blk (fun x hx=>hk9 x (by have:=hx.1;omega))).more (fun x hx=>⟨by have:=hx.1;omega,by have:=hx.2;omega,by have:=hx.1;omega⟩)⟩
    ·rw [if_neg hik] at hy
     obtain⟨hi,rfl⟩:=List.getElem?_eq_some_iff.1 hy
     obtain⟨o1,o2,o3,o4⟩:=HYO.out.ov ys[i] (List.getElem_mem hi)
     obtain⟨_,u1,u2,u3⟩:=o3.sl
     have hdj:=List.pairwise_iff_getElem.1 HYO.out.dj
     refine⟨u1,u2,(u3.blk (fun x hx=>(hk9 x (fun e=>o4 g rfl (by rw [← e];exact hx))).trans (hkx x (by have:=hx.2;omega) (fun hn => ?_)))).more (fun x hx=>⟨by have:=hx.1;omega,by have:=hx.2;omega,by have:=hx.1;omega⟩)⟩
     rcases Nat.lt_or_gt_of_ne hik with h | h
     ·have:=hdj k i hky hi h
      rw [HYK.out] at this
      simp only at this
      have:=hn.2;have:=hx.1;omega
     ·have:=hdj i k hi hky h
      rw [HYK.out] at this
      simp only at this
      have:=hn.1;have:=hx.2;omega) (fun b hb=>by
    have e:g=b:=by simpa [Value.ownBlock] using hb
    subst e
    exact⟨by omega,by omega,by omega⟩)
   obtain⟨y1,y2,y3⟩:=hcs
   rw [List.length_set] at y1
   rw [List.map_set,HYM.out] at y3
   have y3':SlAt encCln w9 (fun q=>w.heap.size≤q∧q<w9.heap.size∧q≠n0+1+1) (some ⟨g,0,none⟩) xl:=by rw [← hxl2];exact y3
   have HCL:Hid (ClAt (((im,l),xl):Cls) B vc D dc (some ⟨g,0,none⟩) gc (fun q=>w.heap.size≤q∧q<w9.heap.size∧q≠n0+1+1) w9):=by
    have h:=HCR.out
    have hk:∀ x,x<m2→w9.heap[x]? = w1.heap[x]? := fun x hx=>(hk9 x (by omega)).trans ((hkx x (by omega) (fun hn=>by have:=hn.1;omega)).trans (hb12.block x (by omega)))
    exact⟨⟨h.im.1,h.im.2.1,(h.im.2.2.blk (fun x hx=>hk x (by have:=hx.2;omega))).more (fun x hx=>⟨by have:=hx.1;omega,by have:=hx.2;omega,by have:=hx.1;omega⟩)⟩,
     ⟨h.sn.1,h.sn.2.1,(h.sn.2.2.blk (fun x hx=>hk x hx.2)).more (fun x hx=>⟨by have:=hx.1;omega,by have:=hx.2;omega,by have:=hx.1;omega⟩)⟩,
     ⟨by rw [hlen];omega,y2,y3'⟩⟩
   rw [← hlen] at hr9
   clear y3 y3' hk9 hkx f3 HOwn9 hz9 hzy hxl2
   rw [← hlen]
   clear hlen
   obtain⟨q0,q1,q2,qf⟩:=blk3 hr9
   obtain⟨v0,v1,v2,vf⟩:=blk3 hr19
   go_wp2_with fail
   have hend:=cl_end (w:=w) (x:=(((im,l),xl):Cls)) (A:=B) (c:=vc) (D:=D) (d:=dc) (G:=(some ⟨g,0,none⟩)) (g:=gc) hr19 (by omega) (HBW.out w9 hb9) HCL.out 0
   obtain⟨hz,hret⟩:=hend
   change bodyPost _ _ _ _ _ (sw3 w9 (n0+1+1) (.slice B ((((im,l),xl):Cls)).1.1.length vc) (.slice D ((((im,l),xl):Cls)).1.2.length dc) (.slice (some ⟨g,0,none⟩) ((((im,l),xl):Cls)).2.length gc))
   generalize sw3 w9 (n0+1+1) (.slice B ((((im,l),xl):Cls)).1.1.length vc) (.slice D ((((im,l),xl):Cls)).1.2.length dc) (.slice (some ⟨g,0,none⟩) ((((im,l),xl):Cls)).2.length gc)=W3 at hz hret ⊢
   obtain⟨z0,z1,z2,_⟩:=blk3 hz
   refine bodyPost_ret (v := .tuple #[.agg #[.slice B ((((im,l),xl):Cls)).1.1.length vc,.slice D ((((im,l),xl):Cls)).1.2.length dc,.slice (some ⟨g,0,none⟩) ((((im,l),xl):Cls)).2.length gc],.int .i64 0]) ?_ rfl ?_
   ·simp [results,Tryz.results19,Tryz.f19,go_sem,z0,z1,z2,zCls,zSns]
   rw [HT.out,HE2.out];exact hret
end Go.Proofs.YtgndgkjefgjamaaGreat
namespace Go.Proofs.YtgndgkjefgjamaaGreat

theorem last_le {l:List Snp} {B:Int} (hB:0≤B) (h:∀ p∈l.map keyS,p.1≤B∧p.2≤B):lastN l≤B∧lastT l≤B:=by
 unfold lastN lastT
 rcases List.eq_nil_or_concat l with rfl | ⟨r,x,rfl⟩
 ·simp;omega
 ·rw [List.concat_eq_append] at h ⊢
  have:=h (keyS x) (by simp)
  rw [List.getLast?_concat]
  simpa [keyS] using this
theorem find_num {im:Img} {l:List Snp} {n:Int} (h:findE (im,l) n=0):∃ hj:findN (im,l) n<l.length,(l[findN (im,l) n]).1=n:=by
 have h0:=h
 unfold findE at h
 by_cases h1:snE (im,l)=0
 ·rw [if_neg (by simp [h1])] at h
  simp only at h
  cases hi:findI l n with
  | none=>rw [hi] at h;simp at h
  | some j =>
    have e:findN (im,l) n=j:=by unfold findN;rw [if_pos h0];simp [hi]
    obtain⟨hj,h2,_⟩:=List.findIdx?_eq_some_iff_getElem.1 (show l.findIdx? (fun x=>x.1==n)=some j from hi)
    subst e
    exact⟨hj,by simpa using h2⟩
 ·rw [if_pos h1] at h;exact absurd h h1
section
variable {sz:List Int} {k:Nat} {s:CSt}
theorem CInv.mono (h:CInv sz k s):CInv sz (k+1) s:=⟨h.ok,h.lns,h.cur,⟨h.nw.1,by have:=h.nw.2;omega⟩,h.key,h.ims,h.snl,by have:=h.len;omega,h.cln,h.th,h.cli,h.cap⟩
theorem CInv.c1 (h:CInv sz k s):s.c.1=(s.cur,s.c.1.2):=by rw [← h.cur]
theorem CInv.rep (h:CInv sz k s) {w:Wr} (hf:fitsN (lens s.cur) w=0) :
  repE s.c [w]=0∧(repS s.c [w]).1.1=putAll s.cur [w]∧CInv sz (k+1) { s with c:=repS s.c [w],cur:=putAll s.cur [w] }:=by
 have hsn:=h.sn_ok
 have hws:∀ x∈[w],fitsN (lens s.cur) x=0:=by simpa using hf
 obtain⟨a1,a2,a3,a4,a5⟩:=app_facts hsn hws
 have hl:=putAll_lens hws
 have hc1:=h.c1
 have hre:repE s.c [w]=0:=by rw [repE,if_neg (by rw [h.ok];simp),hc1];exact a1
 have hrs:repS s.c [w]=((putAll s.cur [w],setLast s.c.1.2 fun d=>foldL (contL s.cur [w]++d)),s.c.2):=by rw [repS,if_pos hre,hc1,a2]
 refine⟨hre,by rw [hrs], ?_⟩
 rw [hrs]
 obtain⟨c1,c2,c3,c4⟩:=clE_iff.1 (show clE (s.c.1,s.c.2)=0 from h.ok)
 refine⟨?_, ?_,rfl,⟨h.nw.1,by have:=h.nw.2;show s.nw≤k+1+1;omega⟩, ?_, ?_,h.snl, ?_,h.cln,h.th,h.cli,mem_setLast' (fun d=>foldL_len _) h.cap.1,h.cap.2⟩
 ·refine clE_iff.2 ⟨a5,c2,fun x hx=>⟨(c3 x hx).1, ?_, ?_⟩,c4⟩
  ·show tkn (setLast s.c.1.2 fun d=>foldL (contL s.cur [w]++d)) x.2.1=true
   rw [tkn_key,a4, ← tkn_key];exact (c3 x hx).2.1
  ·show chkS x.2.2 (lens (putAll s.cur [w]))=0
   rw [hl, ← h.cur];exact (c3 x hx).2.2
 ·show lens (putAll s.cur [w])=sz
  rw [hl];exact h.lns
 ·show ∀ p∈(setLast s.c.1.2 fun d=>foldL (contL s.cur [w]++d)).map keyS,_
  rw [a4];exact h.key
 ·show imgs (putAll s.cur [w]) (setLast s.c.1.2 fun d=>foldL (contL s.cur [w]++d))=((setLast s.c.1.2 fun d=>foldL (contL s.cur [w]++d)).map keyS).map _
  rw [a3,a4];exact h.ims
 ·have:=congrArg List.length a4
  simp only [List.length_map] at this
  show (setLast s.c.1.2 fun d=>foldL (contL s.cur [w]++d)).length≤k+1+1
  have:=h.len
  omega
set_option maxRecDepth 100000 in
theorem CInv.tak (h:CInv sz k s) (hk:k≤1000):cTakE s.c (s.nw+1:Nat) (s.nw+1:Nat)=0∧CInv sz (k+1) { s with c:=cTak s.c (s.nw+1:Nat) (s.nw+1:Nat),nw:=s.nw+1,sn:=upd s.sn (s.nw+1) s.cur }:=by
 have hnw:=h.nw
 obtain⟨l1,l2⟩:=last_le (l:=s.c.1.2) (B:=s.nw) (by omega) (fun p hp=>⟨(h.key p hp).2.1,(h.key p hp).2.2.2⟩)
 have hit:inT ((s.nw+1:Nat):Int)=true:=by simp only [inT,decide_eq_true_eq];omega
 obtain⟨a1,a2,a3,a5⟩:=tak_facts (n:=((s.nw+1:Nat):Int)) (t:=((s.nw+1:Nat):Int)) h.sn_ok hit hit (by omega) (by omega) (by have:=h.len;omega)
 have hc1:=h.c1
 have hre:cTakE s.c (s.nw+1:Nat) (s.nw+1:Nat)=0:=by rw [cTakE,if_neg (by rw [h.ok];simp),hc1];exact a1
 have hrs:cTak s.c (s.nw+1:Nat) (s.nw+1:Nat)=((s.cur,s.c.1.2++[(((s.nw+1:Nat):Int),((s.nw+1:Nat):Int),[])]),s.c.2):=by rw [cTak,if_pos hre,hc1,a2]
 refine⟨hre, ?_⟩
 rw [hrs]
 obtain⟨c1,c2,c3,c4⟩:=clE_iff.1 (show clE (s.c.1,s.c.2)=0 from h.ok)
 have hks:(s.c.1.2++[(((s.nw+1:Nat):Int),((s.nw+1:Nat):Int),([]:List Wr))]).map keyS=s.c.1.2.map keyS++[(((s.nw+1:Nat):Int),((s.nw+1:Nat):Int))]:=by simp [keyS]
 refine⟨?_,h.lns,rfl,⟨by show 1≤s.nw+1;omega,by show s.nw+1≤k+1+1;omega⟩, ?_, ?_, ?_, ?_,h.cln,h.th, ?_, ?_,h.cap.2⟩
 ·refine clE_iff.2 ⟨a5,c2,fun x hx=>⟨(c3 x hx).1, ?_,by rw [← h.cur];exact (c3 x hx).2.2⟩,c4⟩
  show tkn (s.c.1.2++[(((s.nw+1:Nat):Int),((s.nw+1:Nat):Int),([]:List Wr))]) x.2.1=true
  have:=(c3 x hx).2.1
  unfold tkn at this ⊢
  rw [List.any_append,this];rfl
 ·show ∀ p∈(s.c.1.2++[(((s.nw+1:Nat):Int),((s.nw+1:Nat):Int),([]:List Wr))]).map keyS,1≤p.1∧p.1≤((s.nw+1:Nat):Int)∧0≤p.2∧p.2≤((s.nw+1:Nat):Int)
  rw [hks]
  intro p hp
  rcases List.mem_append.1 hp with hp | hp
  ·have:=h.key p hp;omega
  ·rw [List.mem_singleton.1 hp];simp only;omega
 ·show imgs s.cur (s.c.1.2++[(((s.nw+1:Nat):Int),((s.nw+1:Nat):Int),([]:List Wr))])=((s.c.1.2++[(((s.nw+1:Nat):Int),((s.nw+1:Nat):Int),([]:List Wr))]).map keyS).map fun p=>upd s.sn (s.nw+1) s.cur p.1.toNat
  have e1:(s.c.1.2.map keyS).map (fun p=>s.sn p.1.toNat)=(s.c.1.2.map keyS).map (fun p=>upd s.sn (s.nw+1) s.cur p.1.toNat):=List.map_congr_left fun p hp=>by
   have hk:=h.key p hp
   exact (upd_ne s.sn s.cur (by omega)).symm
  have e2:upd s.sn (s.nw+1) s.cur ((s.nw+1:Nat):Int).toNat=s.cur:=by rw [Int.toNat_natCast,upd_same]
  rw [hks,a3,List.map_append,h.ims,e1,List.map_cons,List.map_nil]
  simp only
  rw [e2]
 ·intro j h1 h2
  show lens (upd s.sn (s.nw+1) s.cur j)=sz
  by_cases hj:j=s.nw+1
  ·subst hj;rw [upd_same];exact h.lns
  ·rw [upd_ne _ _ hj];exact h.snl j h1 (by have:j≤s.nw+1:=h2;omega)
 ·show (s.c.1.2++[(((s.nw+1:Nat):Int),((s.nw+1:Nat):Int),([]:List Wr))]).length≤k+1+1
  have:=h.len
  simp;omega
 ·intro i hi x hx hn
  obtain⟨k1,k2,_⟩:=h.tk hx
  show s.cl i=putAll (upd s.sn (s.nw+1) s.cur x.2.1.toNat) x.2.2
  rw [upd_ne _ _ (by omega)];exact h.cli i hi x hx hn
 ·intro x hx
  rcases List.mem_append.1 hx with hx | hx
  ·exact h.cap.1 x hx
  ·rw [List.mem_singleton.1 hx];exact Nat.zero_le _
theorem CInv.drp (h:CInv sz k s) {n:Int} (hd:dropE s.c n=0):CInv sz (k+1) { s with c:=dropS s.c n }:=by
 have hd0:=hd
 unfold dropE at hd
 rw [if_neg (by rw [h.ok];simp)] at hd
 have hany:s.c.2.any (isC n)=false:=by
  cases hq:s.c.2.any (isC n) with
  | false=>rfl
  | true=>rw [if_pos hq] at hd;exact absurd hd (by decide)
 rw [if_neg (by rw [hany];decide),h.c1] at hd
 obtain⟨hj,hjn⟩:=find_num hd
 obtain⟨j,hjj⟩:∃ j,findN (s.cur,s.c.1.2) n=j:=⟨_,rfl⟩
 have hsd:sDelete s.c.1 n=(s.cur,delL s.c.1.2 j):=by rw [h.c1,sDelete,if_pos hd, ← hjj]
 have hrs:dropS s.c n=((s.cur,delL s.c.1.2 j),s.c.2):=by rw [dropS,if_pos hd0,hsd]
 have hjl:j<s.c.1.2.length:=by rw [← hjj];exact hj
 have hjn':(s.c.1.2[j]).1=n:=by
  have:∀ (a:Nat) (ha:a<s.c.1.2.length),findN (s.cur,s.c.1.2) n=a→(s.c.1.2[a]).1=n:=fun a ha e=>by subst e;exact hjn
  exact this j hjl hjj
 obtain⟨a1,a2,a3,_⟩:=del_facts h.sn_ok hjl
 rw [hrs]
 obtain⟨c1,c2,c3,c4⟩:=clE_iff.1 (show clE (s.c.1,s.c.2)=0 from h.ok)
 have hsub:∀ p,p∈(s.c.1.2.map keyS).eraseIdx j→p∈s.c.1.2.map keyS:=fun p hp=>(List.eraseIdx_sublist _ _).subset hp
 refine⟨?_,h.lns,rfl,⟨h.nw.1,by have:=h.nw.2;show s.nw≤k+1+1;omega⟩, ?_, ?_,h.snl, ?_,h.cln,h.th,h.cli, ?_,h.cap.2⟩
 ·refine clE_iff.2 ⟨a3,c2,fun x hx=>⟨(c3 x hx).1, ?_,by rw [← h.cur];exact (c3 x hx).2.2⟩,c4⟩
  show tkn (delL s.c.1.2 j) x.2.1=true
  obtain⟨_,_,jj,hjj2,e⟩:=h.tk hx
  have hne:x.2.1≠n:=fun e2=>by
   have:=List.any_eq_false.1 hany x hx
   simp [isC,e2] at this
  rw [tkn_key,a2,List.any_eq_true]
  refine⟨(s.c.1.2.map keyS)[jj]'(by simpa using hjj2), ?_,by simpa [keyS] using e⟩
  rw [List.mem_eraseIdx_iff_getElem]
  refine⟨jj,by simpa using hjj2,fun e3 => ?_,rfl⟩
  subst e3
  exact hne (by rw [← e];exact hjn')
 ·show ∀ p∈(delL s.c.1.2 j).map keyS,_
  rw [a2]
  exact fun p hp=>h.key p (hsub p hp)
 ·show imgs s.cur (delL s.c.1.2 j)=((delL s.c.1.2 j).map keyS).map _
  rw [a1,a2,h.ims,erase_map]
 ·have h1:=congrArg List.length a2
  have h2:=List.length_eraseIdx_le (s.c.1.2.map keyS) j
  simp only [List.length_map] at h1 h2
  have:=h.len
  show (delL s.c.1.2 j).length≤k+1+1
  omega
 ·show ∀ x∈delL s.c.1.2 j,_
  intro x hx
  cases j with
  | zero=>exact h.cap.1 x (List.mem_of_mem_drop hx)
  | succ i =>
    rcases List.mem_append.1 (show x∈setLast (s.c.1.2.take (i+1)) (fun d=>foldL ((s.c.1.2.getD (i+1) (0,0,[])).2.2++d))++s.c.1.2.drop (i+2) from hx) with hx | hx
    ·exact mem_setLast' (fun d=>foldL_len _) (fun y hy=>h.cap.1 y (List.mem_of_mem_take hy)) x hx
    ·exact h.cap.1 x (List.mem_of_mem_drop hx)
theorem names_any {cl:List Cln} {i:Nat} (h:cl.any (isN (nmC i))=false):∀ x∈cl,x.1≠nmC i:=fun x hx e=>by
 have:=List.any_eq_false.1 h x hx
 simp [isN,e] at this
theorem CInv.cre (h:CInv sz k s) {i:Nat} (hi:i<4) :
  (s.th i=true→creE s.c (nmC i) s.nw=8)∧(s.th i=false→(creE s.c (nmC i) s.nw=0∨creE s.c (nmC i) s.nw=7) ∧
   (creE s.c (nmC i) s.nw=0→CInv sz (k+1) { s with c:=creS s.c (nmC i) s.nw,th:=upd s.th i true,cl:=upd s.cl i (s.sn s.nw) })):=by
 have ht:=h.th i hi
 have hnw:=h.nw
 have e0:creE s.c (nmC i) s.nw=if s.th i=true then 8 else if tkn s.c.1.2 s.nw=false then 7 else if 16≤s.c.2.length then 6 else 0:=by
  rw [creE,if_neg (by rw [h.ok];simp),if_neg (by rw [nmC_ok hi];simp), ← ht]
 refine⟨fun h1=>by rw [e0,if_pos h1],fun h1 => ?_⟩
 rw [h1,if_neg (by decide)] at e0
 have h3:=h.none_ hi h1
 rw [if_neg (show ¬ 16≤s.c.2.length by omega)] at e0
 refine⟨by rw [e0];split <;> simp,fun hz => ?_⟩
 have htk:tkn s.c.1.2 s.nw=true:=by
  cases hq:tkn s.c.1.2 s.nw with
  | true=>rfl
  | false=>rw [e0,if_pos hq] at hz;exact absurd hz (by decide)
 have hrs:creS s.c (nmC i) s.nw=(s.c.1,s.c.2++[(nmC i,(s.nw:Int),[])]):=by rw [creS,if_pos hz]
 rw [hrs]
 obtain⟨c1,c2,c3,c4⟩:=clE_iff.1 (show clE (s.c.1,s.c.2)=0 from h.ok)
 rw [h1] at ht
 have hnn:=names_any ht.symm
 have hzs:=(snE_ok h.sn_ok).1
 refine⟨?_,h.lns,h.cur,⟨h.nw.1,by have:=h.nw.2;show s.nw≤k+1+1;omega⟩,h.key,h.ims,h.snl,by have:=h.len;show s.c.1.2.length≤k+1+1;omega, ?_, ?_, ?_,h.cap.1, ?_⟩
 ·refine clE_iff.2 ⟨c1,by simp;omega,fun x hx => ?_, ?_⟩
  ·rcases List.mem_append.1 hx with hx | hx
   ·exact c3 x hx
   ·rw [List.mem_singleton.1 hx]
    exact⟨nmC_ok hi,htk,chk_nil (by rw [show s.c.1.1=s.cur from h.cur];exact hzs)⟩
  ·rw [List.map_append,List.pairwise_append]
   refine⟨c4,by simp,fun a ha b hb => ?_⟩
   obtain⟨x,hx,rfl⟩:=List.mem_map.1 ha
   simp only [List.map_cons,List.map_nil,List.mem_singleton] at hb
   rw [hb];exact hnn x hx
 ·have h5:=upd_sum s.th hi true
  have h6:=h.cln
  show (s.c.2++[(nmC i,(s.nw:Int),([]:List Wr))]).length=bN (upd s.th i true 0)+bN (upd s.th i true 1)+bN (upd s.th i true 2)+bN (upd s.th i true 3)
  have hb:bN (s.th i)=0:=by rw [h1];rfl
  have hb1:bN true=1:=rfl
  simp only [List.length_append,List.length_singleton]
  omega
 ·intro j hj
  show upd s.th i true j=(s.c.2++[(nmC i,(s.nw:Int),([]:List Wr))]).any (isN (nmC j))
  rw [List.any_append]
  by_cases hji:j=i
  ·subst hji;rw [upd_same];simp [isN]
  ·rw [upd_ne _ _ hji,h.th j hj]
   have:nmC i≠nmC j:=fun e=>hji (nmC_inj hi hj e).symm
   simp [isN,this]
 ·intro j hj x hx hn
  show upd s.cl i (s.sn s.nw) j=putAll (s.sn x.2.1.toNat) x.2.2
  have hx':x∈s.c.2++[(nmC i,(s.nw:Int),([]:List Wr))]:=hx
  clear hx
  rcases List.mem_append.1 hx' with hx | hx
  ·have hji:j≠i:=fun e=>by subst e;exact hnn x hx hn
   rw [upd_ne _ _ hji];exact h.cli j hj x hx hn
  ·rw [List.mem_singleton.1 hx] at hn ⊢
   have hji:i=j:=nmC_inj hi hj hn
   subst hji
   rw [upd_same]
   show s.sn s.nw=putAll (s.sn ((s.nw:Int)).toNat) []
   rw [Int.toNat_natCast];rfl
 ·intro x hx
  rcases List.mem_append.1 hx with hx | hx
  ·exact h.cap.2 x hx
  ·rw [List.mem_singleton.1 hx];exact Nat.zero_le _
theorem set_same37 {α:Type} {l:List α} {j:Nat} {a:α} (h:l[j]? = some a):l.set j a=l:=by
 refine List.ext_getElem? fun i => ?_
 rw [List.getElem?_set]
 split
 ·rename_i e;subst e
  split
  ·exact h.symm
  ·rename_i hl;rw [List.getElem?_eq_none (by omega)]
 ·rfl
theorem setOv_get {cl:List Cln} {j:Nat} (hj:j<cl.length) (f:List Wr→List Wr):setOv cl j f=cl.set j (cl[j].1,cl[j].2.1,f cl[j].2.2):=setOv_at hj rfl f
theorem CInv.wr (h:CInv sz k s) {i:Nat} (hi:i<4) {w:Wr} :
  (s.th i=false→wrE s.c (nmC i) w=7)∧(s.th i=true→wrE s.c (nmC i) w=fitsN (lens s.cur) w ∧
   (fitsN (lens s.cur) w=0→CInv sz (k+1) { s with c:=wrS s.c (nmC i) w,cl:=upd s.cl i (putAll (s.cl i) [w]) })):=by
 obtain⟨g1,g2⟩:=h.cimg hi
 refine⟨fun h1=>by rw [wrE,(g2 h1).1];rfl,fun h1 => ?_⟩
 obtain⟨e1,e2,e3,j,hj,e4,e5,e6⟩:=g1 h1
 have hwe:wrE s.c (nmC i) w=fitsN (lens s.cur) w:=by
  rw [wrE,e1,if_neg (by decide),h.cur]
 refine⟨hwe,fun hf => ?_⟩
 have hrs:wrS s.c (nmC i) w=(s.c.1,s.c.2.set j (s.c.2[j].1,s.c.2[j].2.1,foldL (s.c.2[j].2.2++[w]))):=by
  rw [wrS,if_pos (by rw [hwe];exact hf),e4,setOv_get hj]
 rw [hrs]
 obtain⟨c1,c2,c3,c4⟩:=clE_iff.1 (show clE (s.c.1,s.c.2)=0 from h.ok)
 have hcj:=h.cli i hi _ (List.getElem_mem hj) e6
 obtain⟨k1,k2,jj,hjj,k3⟩:=h.tk (List.getElem_mem hj)
 obtain⟨m1,m2,m3⟩:=h.img hjj
 rw [k3] at m1 m2 m3
 have hzs:=(snE_ok h.sn_ok).1
 have hfx:∀ y∈(s.c.2[j]).2.2++[w],fitsN (lens s.cur) y=0:=by
  intro y hy
  rcases List.mem_append.1 hy with hy | hy
  ·have:=((clE_fits (im:=s.c.1.1) (l:=s.c.1.2) (cl:=s.c.2) h.ok).2.2 _ (List.getElem_mem hj)).2 y hy
   rw [h.cur] at this
   exact this
  ·rw [List.mem_singleton.1 hy];exact hf
 obtain⟨x,hx⟩:∃ x,s.c.2[j]=x:=⟨_,rfl⟩
 rw [hx] at e6 hcj k1 k2 m1 m2 m3 hfx ⊢
 have hmem:∀ y∈s.c.2.set j (x.1,x.2.1,foldL (x.2.2++[w])),y∈s.c.2∧y.1≠nmC i∨y=(x.1,x.2.1,foldL (x.2.2++[w])):=by
  intro y hy
  obtain⟨a,ha,rfl⟩:=List.mem_iff_getElem.1 hy
  rw [List.getElem_set]
  split
  ·right;rfl
  ·rename_i hne
   left
   rw [List.length_set] at ha
   refine⟨List.getElem_mem ha,fun e=>hne ?_⟩
   have hp:=List.pairwise_iff_getElem.1 c4
   rcases Nat.lt_trichotomy j a with hl | hl | hl
   ·have:=hp j a (by simpa using hj) (by simpa using ha) hl
    simp only [List.getElem_map] at this
    rw [hx,e6] at this
    exact absurd e.symm this
   ·exact hl
   ·have:=hp a j (by simpa using ha) (by simpa using hj) hl
    simp only [List.getElem_map] at this
    rw [hx,e6] at this
    exact absurd e this
 have hmap:(s.c.2.set j (x.1,x.2.1,foldL (x.2.2++[w]))).map (·.1)=s.c.2.map (·.1):=by
  rw [List.map_set]
  have:(s.c.2.map (·.1))[j]? = some x.1:=by simp [hj,hx]
  rw [set_same37 this]
 have hxm:x∈s.c.2:=by rw [← hx];exact List.getElem_mem hj
 refine⟨?_,h.lns,h.cur,⟨h.nw.1,by have:=h.nw.2;show s.nw≤k+1+1;omega⟩,h.key,h.ims,h.snl,by have:=h.len;show s.c.1.2.length≤k+1+1;omega,by show (s.c.2.set j (x.1,x.2.1,foldL (x.2.2++[w]))).length=_;rw [List.length_set];exact h.cln, ?_, ?_,h.cap.1, ?_⟩
 ·refine clE_iff.2 ⟨c1,by rw [List.length_set];exact c2,fun y hy => ?_,by rw [hmap];exact c4⟩
  rcases hmem y hy with ⟨hy,_⟩ | rfl
  ·exact c3 y hy
  ·refine⟨(c3 x hxm).1,(c3 x hxm).2.1, ?_⟩
   show chkS (foldL (x.2.2++[w])) (lens s.c.1.1)=0
   rw [h.cur];exact foldL_chk hzs hfx
 ·intro a ha
  show s.th a=(s.c.2.set j (x.1,x.2.1,foldL (x.2.2++[w]))).any (isN (nmC a))
  rw [any_nm,hmap, ← any_nm];exact h.th a ha
 ·intro a ha y hy hn
  show upd s.cl i (putAll (s.cl i) [w]) a=putAll (s.sn y.2.1.toNat) y.2.2
  rcases hmem y hy with ⟨hy,hne⟩ | rfl
  ·have hai:a≠i:=fun e=>by subst e;exact hne hn
   rw [upd_ne _ _ hai];exact h.cli a ha y hy hn
  ·have hai:a=i:=nmC_inj ha hi (by rw [← hn];exact e6)
   subst hai
   rw [upd_same,hcj]
   show putAll (putAll (s.sn x.2.1.toNat) x.2.2) [w]=putAll (s.sn x.2.1.toNat) (foldL (x.2.2++[w]))
   have hls:lens (s.sn x.2.1.toNat)=lens s.cur:=by rw [m3,h.lns]
   rw [foldL_put (by rw [hls];exact hzs) (by rw [hls];exact hfx),putAll_app]
 ·intro y hy
  rcases hmem y hy with ⟨hy,_⟩ | rfl
  ·exact h.cap.2 y hy
  ·exact foldL_len _
theorem CInv.del (h:CInv sz k s) {i:Nat} (hi:i<4) :
  (s.th i=false→cfE s.c (nmC i)=7)∧(s.th i=true→cfE s.c (nmC i)=0∧CInv sz (k+1) { s with c:=cDel s.c (nmC i),th:=upd s.th i false }):=by
 obtain⟨g1,g2⟩:=h.cimg hi
 refine⟨fun h1=>(g2 h1).1,fun h1 => ?_⟩
 obtain⟨e1,e2,e3,j,hj,e4,e5,e6⟩:=g1 h1
 refine⟨e1, ?_⟩
 have hrs:cDel s.c (nmC i)=(s.c.1,s.c.2.eraseIdx j):=by rw [cDel,if_pos e1,e4]
 rw [hrs]
 obtain⟨c1,c2,c3,c4⟩:=clE_iff.1 (show clE (s.c.1,s.c.2)=0 from h.ok)
 have hsub:=List.eraseIdx_sublist s.c.2 j
 have hne:∀ y∈s.c.2.eraseIdx j,y.1≠nmC i:=by
  intro y hy e
  rw [List.mem_eraseIdx_iff_getElem] at hy
  obtain⟨a,ha,hne,rfl⟩:=hy
  have hp:=List.pairwise_iff_getElem.1 c4
  rcases Nat.lt_or_gt_of_ne hne with hl | hl
  ·have:=hp a j (by simpa using ha) (by simpa using hj) hl
   simp only [List.getElem_map] at this
   exact this (e.trans e6.symm)
  ·have:=hp j a (by simpa using hj) (by simpa using ha) hl
   simp only [List.getElem_map] at this
   exact this (e6.trans e.symm)
 refine⟨?_,h.lns,h.cur,⟨h.nw.1,by have:=h.nw.2;show s.nw≤k+1+1;omega⟩,h.key,h.ims,h.snl,by have:=h.len;show s.c.1.2.length≤k+1+1;omega, ?_, ?_,fun a ha y hy hn=>h.cli a ha y (hsub.subset hy) hn,h.cap.1,fun y hy=>h.cap.2 y (hsub.subset hy)⟩
 ·exact clE_iff.2 ⟨c1,by have:=hsub.length_le;omega,fun y hy=>c3 y (hsub.subset hy),c4.sublist (hsub.map _)⟩
 ·have h5:=upd_sum s.th hi false
  have h6:=h.cln
  show (s.c.2.eraseIdx j).length=bN (upd s.th i false 0)+bN (upd s.th i false 1)+bN (upd s.th i false 2)+bN (upd s.th i false 3)
  have hb:bN (s.th i)=1:=by rw [h1];rfl
  have hb1:bN false=0:=rfl
  rw [List.length_eraseIdx,if_pos hj]
  omega
 ·intro a ha
  show upd s.th i false a=(s.c.2.eraseIdx j).any (isN (nmC a))
  by_cases hai:a=i
  ·subst hai
   rw [upd_same,eq_comm,List.any_eq_false]
   intro y hy
   simp [isN,hne y hy]
  ·rw [upd_ne _ _ hai,h.th a ha]
   rw [Bool.eq_iff_iff,List.any_eq_true,List.any_eq_true]
   constructor
   ·rintro ⟨y,hy,hq⟩
    refine⟨y, ?_,hq⟩
    rw [List.mem_eraseIdx_iff_getElem]
    obtain⟨b,hb,rfl⟩:=List.mem_iff_getElem.1 hy
    refine⟨b,hb,fun e => ?_,rfl⟩
    subst e
    have e7:(s.c.2[b]).1=nmC a:=of_decide_eq_true hq
    exact hai (nmC_inj ha hi (e7.symm.trans e6))
   ·rintro ⟨y,hy,hq⟩
    exact⟨y,hsub.subset hy,hq⟩
end
end Go.Proofs.YtgndgkjefgjamaaGreat
namespace Go.Proofs.YtgndgkjefgjamaaGreat
open Go.RowKit Go.Shelf
attribute [local go_sem] Oper.semAt_some

def fewS (s:Sns):Bool:=(s.2.all fun x=>fewL x.2.2) && (decide (s.2.length≤30) && fewI s.1)
theorem fewS_lim {im:Img} {l:List Snp} (h:fewS (im,l)=true):SnLim im l∧l.length≤30∧im.length≤9:=by
 unfold fewS at h
 rw [Bool.and_eq_true,Bool.and_eq_true,decide_eq_true_eq,List.all_eq_true] at h
 obtain⟨h1,h2,h3⟩:=h
 unfold fewI at h3
 rw [Bool.and_eq_true,decide_eq_true_eq,List.all_eq_true] at h3
 obtain⟨h3,h4⟩:=h3
 simp only at h1 h2 h3 h4
 refine⟨⟨by omega,fun r hr => ?_,by omega,fun x hx => ?_⟩,h2,h3⟩
 ·have:=h4 r hr
  simp only [decide_eq_true_eq] at this
  omega
 ·have:=h1 x hx
  unfold fewL at this
  rw [Bool.and_eq_true,decide_eq_true_eq,List.all_eq_true] at this
  refine⟨by omega,fun y hy => ?_⟩
  have:=this.2 y hy
  simp only [decide_eq_true_eq] at this
  omega
end Go.Proofs.YtgndgkjefgjamaaGreat

namespace Go.Proofs.YtgndgkjefgjamaaGreat
open Go.RowKit Go.Shelf
attribute [local go_sem] Oper.semAt_some

instance decWr:DecidableEq Wr:=inferInstanceAs (DecidableEq (Int × Int × List Sec))
instance decWrs:DecidableEq (List Wr):=inferInstance
instance decIW:DecidableEq (Int × List Wr):=inferInstance
instance:DecidableEq Snp:=inferInstanceAs (DecidableEq (Int × (Int × List Wr)))
instance:DecidableEq Sns:=inferInstanceAs (DecidableEq (Img × List Snp))
def imgB (l:List Int):Img:=[l.map sB]
def wrB (s:Int) (l:List Int):Wr:=(0,s,l.map sB)
theorem litS {α:Type} {E:Enc α} {W:World} {S S0:Nat→Prop} {g:Nat} {T:TypeId} {cs:Array Value} {css:List (List Value)} {l:List α} (hg:W.heap[g]? = some (.cells cs T (0,0))) (hcs:cs=css.flatten.toArray) (hr:All2 (E.rd W S0) css l) (h0:∀ b,S0 b→S b) (h1:S g) (hn:¬ S0 g):SlAt E W S (some ⟨g,0,none⟩) l:=by
 have hsz:=All2.sizes hr
 have hlen:css.flatten.length=l.length * E.size:=by rw [flatten_len E.size css hsz,hr.length]
 intro hne
 refine⟨g,0,rfl,h1,fun i x hx => ?_⟩
 obtain⟨cs',hc,hr'⟩:=hr.get hx
 refine⟨cs',fun j u hu => ?_,Enc.more hr' h0⟩
 have hj:j<cs'.length:=(List.getElem?_eq_some_iff.1 hu).1
 have hf:=flatten_at _ _ _ _ _ _ hsz hc hu
 rw [cell_of_row _ _ _ _ _ _ hg,hcs]
 simp only [List.getElem?_toArray]
 have e:0+i * E.size+j=i * E.size+j:=by omega
 rw [e]
 exact hf
theorem sB_all {w:World}:∀ {l:List Int},(∀ x∈l,0≤x∧x<256)→All2 (encSec.rd w (fun _=>False)) ((l.map sB).map secV) (l.map sB)
 | [],_=>trivial
 | x :: l,h=>⟨⟨rfl,sB_ok (h x (by simp))⟩,sB_all (l:=l) (fun y hy=>h y (by simp [hy]))⟩
theorem litImg {W:World} {g1 g2:Nat} {T1 T2:TypeId} {l:List Int} {n c:Nat} {cs:Array Value} (h1:W.heap[g1]? = some (.cells cs T1 (0,0))) (hcs:cs=((l.map sB).map secV).flatten.toArray) (hr:∀ x∈l,0≤x∧x<256) (h2:W.heap[g2]? = some (.cells #[.slice (some ⟨g1,0,none⟩) n c] T2 (0,0))) (hn:l.length=n) (hc:n≤c∧c≤maxLen) (hg:g1≠g2):SlAt (encSl encSec) W (fun g=>g=g1∨g=g2) (some ⟨g2,0,none⟩) (imgB l):=by
 subst hn
 have k1:SlAt encSec W (fun g=>g=g1) (some ⟨g1,0,none⟩) (l.map sB):=litS (S0:=fun _=>False) h1 hcs (sB_all hr) (fun _ h=>h.elim) rfl (fun h=>h)
 exact litS (S0:=fun g=>g=g1) (css:=[[.slice (some ⟨g1,0,none⟩) l.length c]]) h2 rfl ⟨⟨_,c,by simp,by simpa using hc.1,hc.2,k1⟩,trivial⟩ (fun g hg=>Or.inl hg) (Or.inr rfl) (fun e=>hg e.symm)
def AwI (t:Nat) (B:Option Addr) (vc:Nat) (D:Option Addr) (dc n m:Nat) (s:Sns) (W:World):Prop :=
 W.heap[t]? = some (.cells #[.slice B n vc,.slice D m dc] 26 (0,0))∧(s.1.length=n∧s.2.length=m)∧m≤dc∧SlAt (encSl encSec) W (fun g=>g≠t∧g<W.heap.size) B s.1∧SlAt encSnp W (fun g=>g≠t∧g<W.heap.size) D s.2
section
variable {t:Nat} {B D:Option Addr} {vc dc n m:Nat} {s:Sns} {W W':World}
theorem AwI.lt (h:AwI t B vc D dc n m s W):t<W.heap.size:=(Array.getElem?_eq_some_iff.1 h.1).1
theorem AwI.below (h:AwI t B vc D dc n m s W) (hb:Below W.heap.size W W'):AwI t B vc D dc n m s W':=by
 have hl:=h.lt
 obtain⟨h1,h2,h3,h4,h5⟩:=h
 have hs:=hb.size
 exact⟨(hb.block t hl).trans h1,h2,h3,(h4.blk (fun g hg=>hb.block g hg.2)).more (fun g hg=>⟨hg.1,by omega⟩),(h5.blk (fun g hg=>hb.block g hg.2)).more (fun g hg=>⟨hg.1,by omega⟩)⟩
theorem AwI.img (h:AwI t B vc D dc n m s W):SlAt (encSl encSec) W (Bl W.heap.size) B s.1:=h.2.2.2.1.more (fun g hg=>hg.2)
theorem AwI.its (h:AwI t B vc D dc n m s W):SlAt encSnp W (Bl W.heap.size) D s.2:=h.2.2.2.2.more (fun g hg=>hg.2)
theorem AwI.store {lo mid:Nat} {u0 u1:Value} (h:SnRet s.1 s.2 B vc D dc mid lo W) (hr:W.heap[t]? = some (.cells #[u0,u1] 26 (0,0))) (hlo:t<lo) (hn:s.1.length=n∧s.2.length=m):AwI t B vc D dc n m s ((W.setCell ⟨t,0,none⟩ (.slice B n vc)).setCell ⟨t,1,none⟩ (.slice D m dc)):=by
 have hr2:=blk2_set hr (.slice B n vc) (.slice D m dc)
 have h2:=(h.set (p:=⟨t,0,none⟩) hlo (.slice B n vc)).set (p:=⟨t,1,none⟩) hlo (.slice D m dc)
 obtain⟨⟨a1,a2,a3⟩,b1,b2,b3⟩:=h2.read
 exact⟨hr2,hn,by rw [← hn.2];exact b1,a3.more (fun g hg=>⟨by have:=hg.1;omega,hg.2⟩),b3.more (fun g hg=>⟨by have:=hg.1;omega,hg.2⟩)⟩
theorem AwI.made {lo mid:Nat} (h:SnRet s.1 s.2 B vc D dc mid lo W) (hn:s.1.length=n∧s.2.length=m) (hlo:lo≤W.heap.size):AwI W.heap.size B vc D dc n m s (W.alloc (.cells #[.slice B n vc,.slice D m dc] 26)):=by
 have hb:Below W.heap.size W (W.alloc (.cells #[.slice B n vc,.slice D m dc] 26)):=ext_alloc (Below.refl _ _)
 obtain⟨⟨a1,a2,a3⟩,b1,b2,b3⟩:=h.read
 exact⟨heap_alloc_new _ _,hn,by rw [← hn.2];exact b1,(a3.blk (fun g hg=>hb.block g hg.2)).more (fun g hg=>⟨by have:=hg.2;omega,by have:=hg.2;have:=hb.size;omega⟩),(b3.blk (fun g hg=>hb.block g hg.2)).more (fun g hg=>⟨by have:=hg.2;omega,by have:=hg.2;have:=hb.size;omega⟩)⟩
end
def AwR (s:Sns) (n m:Nat) (w:World) (e:Ending) (w':World):Prop :=
 ∃ B vc D dc mid,e = .returned (.tuple #[.agg #[.slice B n vc,.slice D m dc],.int .i64 0])∧(s.1.length=n∧s.2.length=m)∧SnRet s.1 s.2 B vc D dc mid w.heap.size w'∧Below w.heap.size w w'
theorem AwR.of {s s':Sns} {x:Int} {n m:Nat} {w w':World} {e:Ending} (h:SnRetE s x w e w') (hs:s=s') (hx:x=0) (hn:s'.1.length=n∧s'.2.length=m):AwR s' n m w e w':=by
 obtain⟨B,vc,D,dc,mid,he,h1,h2⟩:=h
 subst hs hx
 refine⟨B,vc,D,dc,mid, ?_,hn,h1,h2⟩
 rw [he,hn.1,hn.2]
section
variable {t:Nat} {B D:Option Addr} {vc dc n m n' m':Nat} {s s':Sns} {W:World}
end
end Go.Proofs.YtgndgkjefgjamaaGreat
namespace Go.Proofs.YtgndgkjefgjamaaGreat
open Go.RowKit Go.Shelf
attribute [local go_sem] Oper.semAt_some

def fewC (c:Cls):Bool:=(c.2.all fun x=>decide (x.1.size≤100) && fewL x.2.2) && (decide (c.2.length≤20) && fewS c.1)
theorem fewS_sav37 {im:Img} {l:List Snp} (h:fewS (im,l)=true):∀ x∈l,x.2.2.length≤40:=by
 intro x hx
 unfold fewS at h
 rw [Bool.and_eq_true,List.all_eq_true] at h
 have:=h.1 x hx
 unfold fewL at this
 rw [Bool.and_eq_true,decide_eq_true_eq] at this
 omega
theorem fewC_lim {im:Img} {l:List Snp} {cl:List Cln} (h:fewC ((im,l),cl)=true):(ClLim (im,l) cl∧l.length≤30∧im.length≤9)∧cl.length≤20∧(∀ x∈l,x.2.2.length≤40)∧∀ x∈cl,x.1.size≤100:=by
 unfold fewC at h
 rw [Bool.and_eq_true,Bool.and_eq_true,decide_eq_true_eq,List.all_eq_true] at h
 obtain⟨h1,h2,h3⟩:=h
 obtain⟨h4,h5,h6⟩:=fewS_lim h3
 simp only at h1 h2
 refine⟨⟨⟨h4,by omega,fun x hx => ?_⟩,h5,h6⟩,h2,fewS_sav37 h3,fun x hx => ?_⟩
 ·have:=h1 x hx
  rw [Bool.and_eq_true] at this
  have:=this.2
  unfold fewL at this
  rw [Bool.and_eq_true,decide_eq_true_eq,List.all_eq_true] at this
  refine⟨by omega,fun y hy => ?_⟩
  have:=this.2 y hy
  simp only [decide_eq_true_eq] at this
  omega
 ·have:=h1 x hx
  rw [Bool.and_eq_true,decide_eq_true_eq] at this
  exact this.1
end Go.Proofs.YtgndgkjefgjamaaGreat

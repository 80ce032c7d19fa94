/-
  clone.Image: the walk.; clone.change, Replicate, Take, Drop: the walks.; clone.Replicate, Take: the walks, the functions they hand to change first.; clone.Drop's closures: the walks.
-/
import Derived.BigQuiet
import Derived.Test.YtgndgkjefgjamaaGreatV01
import Derived.Test.YtgndgkjefgjamaaGreatV02
import Derived.Test.YtgndgkjefgjamaaGreatV03
import Derived.Test.YtgndgkjefgjamaaGreatV04
import Derived.Test.YtgndgkjefgjamaaGreatV05
import Derived.Test.YtgndgkjefgjamaaGreatV06
import Derived.Test.YtgndgkjefgjamaaGreatV07
import Derived.Test.YtgndgkjefgjamaaGreatV08
import Derived.Test.YtgndgkjefgjamaaGreatV09
import Derived.Test.YtgndgkjefgjamaaGreatV10
set_option linter.unusedVariables false
set_option linter.unusedSimpArgs false
set_option linter.unusedSectionVars false
set_option linter.unnecessarySimpa false
namespace Go.Proofs.YtgndgkjefgjamaaGreat
open Go.RowKit Go.Shelf
attribute [local go_sem] Oper.semAt_some

theorem clE_fits {im:Img} {l:List Snp} {cl:List Cln} (h:clE ((im,l),cl)=0):sizesN (lens im)=0∧(∀ x∈l,∀ y∈x.2.2,fitsN (lens im) y=0)∧∀ x∈cl,findE (im,l) x.2.1=0∧∀ y∈x.2.2,fitsN (lens im) y=0:=by
 obtain⟨h1,_,_⟩:=clE_ok h
 obtain⟨h2,h3⟩:=snE_ok h1
 refine⟨h2,h3,fun x hx => ?_⟩
 obtain⟨k,hk,rfl⟩:=List.mem_iff_getElem.1 hx
 obtain⟨_,_,h5,h6⟩:=clE_item h hk
 refine⟨?_,fun y hy => ?_⟩
 ·unfold findE
  rw [if_neg (by rw [h1];simp)]
  have:(findI l (cl[k]).2.1).isNone=false:=by
   rw [← Bool.not_eq_true,Option.isNone_iff_eq_none]
   intro h7
   have:=List.findIdx?_eq_none_iff.1 h7
   obtain⟨y,hy,hy2⟩:=List.any_eq_true.1 h5
   have:=this y hy
   rw [show (y.1==(cl[k]).2.1)=true from hy2] at this
   cases this
  simp only
  rw [this];rfl
 ·unfold chkS at h6
  rw [if_neg (by simp [h2])] at h6
  exact chk_all h6 y hy
theorem applyC_any (A A2:Option Addr) (c c2 n m:Nat) (im r:List (List Sec)) (l:List Wr) (en:Int) (hn:im.length=n) (hm:l.length=m) (hr:applyL im l=r) (he:applyErr im l=en) (w:World) (h1:SlAt (encSl encSec) w (Bl w.heap.size) A im) (hl:n≤1000000) (h2:SlAt encWr w (Bl w.heap.size) A2 l) (hl2:m≤9223372036854775807) :
  Calls Tryz.prog 68 #[.slice A n c,.slice A2 m c2] w fun e w'=>∃ A c i,e = .returned (.tuple #[.slice A r.length c,.int .i64 i,.int .i64 en])∧(r.length≤c∧c≤maxLen∧SlAt (encSl encSec) w' (Nw w.heap.size w'.heap.size) A r)∧Below w.heap.size w w':=by
 subst hn hm hr he
 exact (apply_any A A2 c c2 im l w h1 hl h2 hl2).mono fun _ _ ⟨A,c,i,h1,h2,h3,h4,h5⟩=>⟨A,c,i,h1,⟨h2,h3,h4⟩,h5⟩
set_option maxHeartbeats 4000000 in
set_option maxRecDepth 100000 in
theorem clImage_any (A A2 A3:Option Addr) (c c2 c3 n m p:Nat) (im:Img) (l:List Snp) (cl:List Cln) (nm:ByteArray) (w:World) (hn:im.length=n) (hm:l.length=m) (hp:cl.length=p) (h1:SlAt (encSl encSec) w (Bl w.heap.size) A im) (h2:SlAt encSnp w (Bl w.heap.size) A2 l) (h3:SlAt encCln w (Bl w.heap.size) A3 cl) (hL:ClLim (im,l) cl) (r:Img) (hr:cIm ((im,l),cl) nm=r) (en:Int) (he:cfE ((im,l),cl) nm=en) :
  Calls Tryz.prog 21 #[.agg #[.slice A n c,.slice A2 m c2,.slice A3 p c3],.string nm] w fun e w'=>∃ B vc,e = .returned (.tuple #[.slice B r.length vc,.int .i64 en])∧r.length≤vc∧vc≤maxLen∧SlAt (encSl encSec) w' (Nw w.heap.size w'.heap.size) B r∧Below w.heap.size w w':=by
 subst hn hm hp
 have HRR0:=Lib.hid hr
 have HEN:=Lib.hid he
 clear hr he
 obtain⟨n0,hn0⟩:∃ n0,w.heap.size=n0:=⟨_,rfl⟩
 obtain⟨W0,hW0⟩:∃ W0,w.alloc (.cells #[.slice A im.length c,.slice A2 l.length c2,.slice A3 cl.length c3] 29)=W0:=⟨_,rfl⟩
 have hB0:Below n0 w W0:=by rw [← hW0, ← hn0];exact ext_alloc (Below.refl _ _)
 have hr0:W0.heap[n0]? = some (.cells #[.slice A im.length c,.slice A2 l.length c2,.slice A3 cl.length c3] 29 (0,0)):=by rw [← hW0, ← hn0];exact heap_alloc_new _ _
 obtain⟨n2,hn2⟩:∃ n2,W0.heap.size=n2:=⟨_,rfl⟩
 have hn02:n0<n2:=by rw [← hn2];exact (Array.getElem?_eq_some_iff.1 hr0).1
 have up:∀ {α:Type} {E:Enc α} {A:Option Addr} {l:List α},SlAt E w (Bl w.heap.size) A l→∀ W,Below n2 W0 W→SlAt E W (Bl W.heap.size) A l:=fun h W hb=>by
  rw [hn0] at h
  exact (h.blk (fun g hg=>(hb.block g (by have:g<n0:=hg;omega)).trans (hB0.block g hg))).more (fun g hg=>by have:g<n0:=hg;have:=hb.size;show g<W.heap.size;omega)
 have hB00:=Below.refl n2 W0
 have hl1:=hL.sn.ims
 have hl2:=hL.sn.its
 have hl3:=hL.its
 simp only at hl1 hl2
 have HLM:=Lib.hid hL
 have HN0:=Lib.hid hn0
 have HN2:=Lib.hid hn2
 have hN0:n0≤w.heap.size∧w.heap.size≤n0:=by omega
 have HBW:Hid (∀ W,Below n2 W0 W→Below w.heap.size w W):=fun W hb=>by rw [hn0];exact hB0.trans (hb.mono (by omega))
 have HFI:=Lib.hid (clFind_any A A2 A3 c c2 c3 im.length l.length cl.length im l cl nm W0 rfl rfl rfl (up h1 W0 hB00) (up h2 W0 hB00) (up h3 W0 hB00) HLM.out)
 obtain⟨p0,p1,p2,_⟩:=blk3 hr0
 clear h1 h2 h3 up hB0 hL hr0
 go_enter Tryz.func21,Tryz.ntmps21
 go_wp2_with fail
 refine HFI.out.mono ?_
 intro e w1 hf
 rcases hf with ⟨q,hq0,hqe,rfl,hb1⟩ | ⟨k,B,vc,D,dc,g,gc,m1,m2,hE0,hN0',rfl,hcr,hb1⟩
 ·rw [HN2.out] at hb1
  clear p0 p1 p2 HFI hn2 hn0 hW0
  obtain⟨ob,hob⟩:∃ ob,w1.heap.size=ob:=⟨_,rfl⟩
  have hq0':(q != 0)=true:=by simp [hq0]
  have HE:=Lib.hid hqe
  have HQ0:=Lib.hid hq0
  clear hq0 hqe
  obtain⟨w2,hw2⟩:∃ w2,w1.alloc (.cells #[.slice none 0 0,.slice none 0 0,.slice none 0 0] 29)=w2:=⟨_,rfl⟩
  have hb2:Below n2 W0 w2:=by rw [← hw2];exact hb1.alloc (by have:=hb1.size;have:=HN2.out;omega) _
  have HW2:=Lib.hid hw2
  clear hw2
  go_upto_region 2 with (fail)
  rw [HW2.out]
  clear HW2
  have hen:Hid (q=en):=by rw [Hid, ← HEN.out];exact HE.out.symm
  have hrr:Hid (r=[]):=by rw [Hid, ← HRR0.out,cIm,if_neg (by rw [HE.out];exact HQ0.out)]
  go_wp2_with fail
  go_ret2
  rw [hen.out,hrr.out]
  exact⟨none,0,rfl,by simp,by simp,SlAt.nil_,HBW.out w2 hb2⟩
 ·rw [HN2.out] at hb1
  clear p0 p1 p2 HFI hn2 hn0 hW0
  obtain⟨ob,hob⟩:∃ ob,w1.heap.size=ob:=⟨_,rfl⟩
  have HE:=Lib.hid hE0
  obtain⟨hck,hkl,hknm,hfd⟩:=cfE_ok hE0
  simp only at hkl hfd
  rw [hN0'] at hkl
  have HNK:=Lib.hid hN0'
  have HCKE:=Lib.hid hck
  obtain⟨w2,hw2⟩:∃ w2,w1.alloc (.cells #[.slice B im.length vc,.slice D l.length dc,.slice (some ⟨g,0,none⟩) cl.length gc] 29)=w2:=⟨_,rfl⟩
  have hb12:Below ob w1 w2:=by rw [← hw2, ← hob];exact ext_alloc (Below.refl _ _)
  have hr2:w2.heap[ob]? = some (.cells #[.slice B im.length vc,.slice D l.length dc,.slice (some ⟨g,0,none⟩) cl.length gc] 29 (0,0)):=by rw [← hw2, ← hob];exact heap_alloc_new _ _
  have hle:=hcr.le
  have hz1:=hb1.size
  have hN2:n2≤W0.heap.size∧W0.heap.size≤n2:=by have:=HN2.out;omega
  have hz2:ob<w2.heap.size:=(Array.getElem?_eq_some_iff.1 hr2).1
  have hb2:Below n2 W0 w2:=hb1.trans (hb12.mono (by omega))
  have hO2:OwnX (fun b=>b=ob) encCln w2 m2 87 (.slice (some ⟨g,0,none⟩) cl.length gc) cl:=(hcr.cl.var (X':=fun b=>b=ob) (fun g hg=>Or.inr (by rw [hob];omega))).below (by rw [hob];exact hb12)
  have HO2:=Lib.hid hO2
  have HCR:=Lib.hid hcr
  obtain⟨_,_,_,hS2⟩:=hO2.parts
  have hgl:=hO2.lt g rfl
  have hgo:g≠ob:=hO2.2 g rfl
  obtain⟨b',off',Dx,dx,hA',hbS,g0,g1,g2,hDx,hd1,hd2,hi1,hi2⟩:=hS2.cln hkl
  injection hA' with hA'
  injection hA' with hA1 hA2
  subst hA1 hA2
  obtain⟨xv,hxv⟩:∃ x,cl[k]=x:=⟨_,rfl⟩
  rw [hxv] at g0 g1 g2 hDx hd1 hi1 hi2
  have HXV:Hid (cAt ((im,l),cl) nm=xv):=by rw [Hid,cAt,hN0',List.getD_eq_getElem?_getD,List.getElem?_eq_getElem hkl];exact hxv
  have HXM:Hid (xv∈cl):=by rw [Hid, ← hxv];exact List.getElem_mem hkl
  obtain⟨xn,xnum,xs⟩:=xv
  simp only [Nat.zero_add] at g0 g1 g2 hDx hd1 hi1 hi2
  obtain⟨nq,hnq⟩:∃ nq,w2.heap.size=nq:=⟨_,rfl⟩
  have hnqs:nq≤w2.heap.size∧w2.heap.size≤nq:=by omega
  have HOC:Hid (∀ W,Below nq w2 W→W.cell? ⟨ob,0,none⟩=some (.slice B im.length vc)∧W.cell? ⟨ob,1,none⟩=some (.slice D l.length dc)∧W.cell? ⟨ob,2,none⟩=some (.slice (some ⟨g,0,none⟩) cl.length gc)):=fun W hb=>by
   obtain⟨a,b,d,_⟩:=blk3 ((hb.block ob (by omega)).trans hr2)
   exact⟨a,b,d⟩
  have HXC:Hid (∀ W,Below nq w2 W→W.cell? ⟨g,k * 3,none⟩=some (.string xn)∧W.cell? ⟨g,k * 3+1,none⟩=some (.int .i64 xnum)∧W.cell? ⟨g,k * 3+2,none⟩=some (.slice Dx xs.length dx)):=fun W hb=>by
   have hgg:∀ i,W.cell? ⟨g,i,none⟩=w2.cell? ⟨g,i,none⟩:=fun i=>World.cell?_of_block (hb.block g (by omega))
   exact⟨(hgg _).trans g0,(hgg _).trans g1,(hgg _).trans g2⟩
  have HXS:Hid (∀ W,Below nq w2 W→SlAt encWr W (Bl W.heap.size) Dx xs):=fun W hb=>(hDx.blk (fun x hx=>hb.block x (by have:=hx.1.2;omega))).more (fun x hx=>by have:=hx.1.2;have:=hb.size;show x<W.heap.size;omega)
  have HIM:Hid (∀ W,Below nq w2 W→SlAt (encSl encSec) W (Bl W.heap.size) B im∧SlAt encSnp W (Bl W.heap.size) D l):=fun W hb=>by
   have hz:=hb.size
   exact⟨(HCR.out.im.2.2.blk (fun x hx=>(hb.block x (by have:=hx.2;omega)).trans (hb12.block x (by have:=hx.2;omega)))).more (fun x hx=>by have:=hx.2;show x<W.heap.size;omega),(HCR.out.sn.2.2.blk (fun x hx=>(hb.block x (by have:=hx.2;omega)).trans (hb12.block x (by have:=hx.2;omega)))).more (fun x hx=>by have:=hx.2;show x<W.heap.size;omega)⟩
  have HBQ:Hid (∀ W,Below nq w2 W→Below n2 W0 W):=fun W hb=>hb2.trans (hb.mono (by omega))
  have HCAP:=Lib.hid (And.intro HCR.out.im.1 (And.intro HCR.out.im.2.1 (And.intro HCR.out.sn.1 HCR.out.sn.2.1)))
  have HW2:=Lib.hid hw2
  have hk0:(0:Int)≤k:=by omega
  have hk9:(k:Int)≤9223372036854775806:=by omega
  have hckl:cl.length≤16:=(clE_ok hck).2.1
  clear hw2 hcr hO2 hS2 hE0 hck hknm hfd hN0' g0 g1 g2 hDx hnq hxv hbS
  go_upto_region 2 with (fail)
  rw [HW2.out]
  clear HW2
  obtain⟨hf1,hf2,hf3⟩:=clE_fits HCKE.out
  obtain⟨hf4,hf5⟩:=hf3 _ HXM.out
  simp only at hf4 hf5
  obtain⟨si,hsi⟩:∃ si,sImage (im,l) xnum=si:=⟨_,rfl⟩
  have hsil:lens si=lens im:=by rw [← hsi,sImage,if_pos hf4];exact atL_lens (fun x hx=>hf2 x (List.drop_subset _ _ hx))
  have hsll:si.length≤100000:=by
   have:=congrArg List.length hsil
   simp [lens] at this;omega
  have hap:=applyL_ok (im:=si) (l:=xs) (by rw [hsil];exact hf1) (fun x hx=>by rw [hsil];exact hf5 x hx)
  have hrr:applyL si xs=r:=by
   rw [hap.2, ← HRR0.out,cIm,if_pos HE.out,HXV.out, ← hsi]
  have hen:Hid ((0:Int)=en):=by rw [Hid, ← HEN.out];exact HE.out.symm
  have HSI:=Lib.hid (fun W (hb:Below nq w2 W)=>snImage_any B D vc dc im.length l.length im l xnum W rfl rfl (HIM.out W hb).1 (HIM.out W hb).2 HLM.out.sn HCAP.out.2.2.1 si hsi 0 hf4)
  have HAP:=Lib.hid (fun W Bi vi (hb:Below nq w2 W) (h:SlAt (encSl encSec) W (Bl W.heap.size) Bi si)=>applyC_any Bi Dx vi dx si.length xs.length si r xs 0 rfl rfl hrr hap.1 W h (by omega) (HXS.out W hb) (by unfold maxLen at hd2;omega))
  have hSw:Below nq w2 w2.drew:=(Below.refl nq w2).drew
  clear hf1 hf2 hf3 hf4 hf5 hsi hsil hap hrr
  go_upto_region 4 with (fail)
  go_cut [9,8] (fun e f wx=>f = .int .i64 0∧(∃ Bi vi,e = .slice Bi si.length vi∧SlAt (encSl encSec) wx (Bl wx.heap.size) Bi si)∧Below nq w2 wx)
  case first =>
   refine wp_region_U (fun W'=>Below nq w2 W') 12 (by kernel_rfl) ?_
   refine wpAnyU_takeD (i:=0) (v := ?_) rfl rfl (by kernel_rfl) (by kernel_rfl) (by kernel_rfl) (by kernel_rfl) (fun _ _ _ h=>h) (by rfl) ?_ hSw ?_
   rotate_left 1
   ·intro W9 hW9
    try dsimp only at hW9
    obtain _:=trivial
    go_simp
    try with_reducible rfl
   try simp only [List.setIfInBounds_toArray,List.set_cons_zero,List.set_cons_succ]
   refine wpAnyU_takeD (i:=1) (v := ?_) rfl rfl (by kernel_rfl) (by kernel_rfl) (by kernel_rfl) (by kernel_rfl) (fun _ _ _ h=>h) (by rfl) ?_ hSw ?_
   rotate_left 1
   ·intro W9 hW9
    try dsimp only at hW9
    obtain⟨q0,q1,q2⟩:=HOC.out W9 hW9
    go_simp
    try with_reducible rfl
   try simp only [List.setIfInBounds_toArray,List.set_cons_zero,List.set_cons_succ]
   refine wpAnyU_takeD (i:=2) (v := ?_) rfl rfl (by kernel_rfl) (by kernel_rfl) (by kernel_rfl) (by kernel_rfl) (fun _ _ _ h=>h) (by rfl) ?_ hSw ?_
   rotate_left 1
   ·intro W9 hW9
    try dsimp only at hW9
    obtain _:=trivial
    go_simp
    try with_reducible rfl
   try simp only [List.setIfInBounds_toArray,List.set_cons_zero,List.set_cons_succ]
   refine wpAnyU_takeD (i:=3) (v := ?_) rfl rfl (by kernel_rfl) (by kernel_rfl) (by kernel_rfl) (by kernel_rfl) (fun _ _ _ h=>h) (by rfl) ?_ hSw ?_
   rotate_left 1
   ·intro W9 hW9
    try dsimp only at hW9
    obtain _:=trivial
    go_simp
    try with_reducible rfl
   try simp only [List.setIfInBounds_toArray,List.set_cons_zero,List.set_cons_succ]
   refine wpAnyU_takeD (i:=4) (v := ?_) rfl rfl (by kernel_rfl) (by kernel_rfl) (by kernel_rfl) (by kernel_rfl) (fun _ _ _ h=>h) (by rfl) ?_ hSw ?_
   rotate_left 1
   ·intro W9 hW9
    try dsimp only at hW9
    obtain _:=trivial
    go_simp
    try with_reducible rfl
   try simp only [List.setIfInBounds_toArray,List.set_cons_zero,List.set_cons_succ]
   refine wpAnyU_takeD (i:=5) (v := ?_) rfl rfl (by kernel_rfl) (by kernel_rfl) (by kernel_rfl) (by kernel_rfl) (fun _ _ _ h=>h) (by rfl) ?_ hSw ?_
   rotate_left 1
   ·intro W9 hW9
    try dsimp only at hW9
    obtain⟨q0,q1,q2⟩:=HXC.out W9 hW9
    go_simp
    try with_reducible rfl
   try simp only [List.setIfInBounds_toArray,List.set_cons_zero,List.set_cons_succ]
   refine wpAnyU_op (i:=6) (by kernel_rfl) rfl rfl (fun K hK => ?_)
   go_wp2_with fail
   refine ((HSI.out _ hSw)).mono ?_
   rintro e w6 ⟨Bi,vi,rfl,i1,i2,i3,hb6⟩
   refine hK.out _ _ (fun _=>(hSw.trans (hb6.mono (by have:=hSw.size;omega)))) ?_
   clear hK K
   try simp only [Act.put,List.setIfInBounds_toArray,List.set_cons_zero,List.set_cons_succ]
   have hS6:Below nq w2 w6:=hSw.trans (hb6.mono (by have:=hSw.size;omega))
   refine wpAnyU_op (i:=7) (by kernel_rfl) rfl rfl (fun K hK => ?_)
   go_simp
   refine hK.out _ _ (fun _=>hS6) ?_
   clear hK K
   try simp only [Act.put,List.setIfInBounds_toArray,List.set_cons_zero,List.set_cons_succ]
   clear hSw
   have hSw:=hS6
   refine wpAnyU_takeD (i:=8) (v := ?_) rfl rfl (by kernel_rfl) (by kernel_rfl) (by kernel_rfl) (by kernel_rfl) (fun _ _ _ h=>h) (by rfl) ?_ hSw ?_
   rotate_left 1
   ·intro W9 hW9
    try dsimp only at hW9
    obtain _:=trivial
    go_simp
    try with_reducible rfl
   try simp only [List.setIfInBounds_toArray,List.set_cons_zero,List.set_cons_succ]
   refine wpAnyU_takeD (i:=9) (v := ?_) rfl rfl (by kernel_rfl) (by kernel_rfl) (by kernel_rfl) (by kernel_rfl) (fun _ _ _ h=>h) (by rfl) ?_ hSw ?_
   rotate_left 1
   ·intro W9 hW9
    try dsimp only at hW9
    obtain _:=trivial
    go_simp
    try with_reducible rfl
   try simp only [List.setIfInBounds_toArray,List.set_cons_zero,List.set_cons_succ]
   refine wpAnyU_op (i:=10) (by kernel_rfl) rfl rfl (fun K hK => ?_)
   go_simp
   refine hK.out _ _ (fun _=>hS6) ?_
   clear hK K
   try simp only [Act.put,List.setIfInBounds_toArray,List.set_cons_zero,List.set_cons_succ]
   refine wpAnyU_op (i:=11) (by kernel_rfl) rfl rfl (fun K hK => ?_)
   go_simp
   refine hK.out _ _ (fun _=>hS6) ?_
   clear hK K
   try simp only [Act.put,List.setIfInBounds_toArray,List.set_cons_zero,List.set_cons_succ]
   refine wpAnyU_done (by kernel_rfl) ?_ _
   go_wp2
   go_meet
   exact⟨rfl,⟨Bi,vi,rfl,i3.more (fun g hg=>hg.2)⟩,hS6⟩
  case rest =>
   obtain⟨rfl,⟨Bi,vi,rfl,hsl⟩,hbx⟩:=hcut
   obtain⟨q0,q1,q2⟩:=HXC.out _ hbx
   have HA:=Lib.hid (HAP.out _ Bi vi hbx hsl)
   clear hsl
   go_wp2_with fail
   refine HA.out.mono ?_
   rintro e w7 ⟨A7,c7,i7,rfl,⟨a1,a2,a3⟩,hb7⟩
   have HA3:=Lib.hid a3
   have hbz:=hbx.size
   have hbb:=hb2.size
   have hbf:=HBW.out w7 ((HBQ.out _ hbx).trans (hb7.mono (by omega)))
   clear a3 q0 q1 q2
   go_wp2_with fail
   go_ret2
   rw [hen.out]
   exact⟨A7,c7,rfl,a1,a2,HA3.out.more (fun g hg=>⟨by have:=hg.1;omega,hg.2⟩),hbf⟩
end Go.Proofs.YtgndgkjefgjamaaGreat
namespace Go.Proofs.YtgndgkjefgjamaaGreat
open Go.RowKit Go.Shelf
attribute [local go_sem] Oper.semAt_some

theorem sn_end37 {w W:World} {b:Nat} {T:TypeId} {c0 c1:Value} (hrow:W.heap[b]? = some (.cells #[c0,c1] T (0,0))) (hb:w.heap.size≤b) (hB:Below w.heap.size w W) {s:Sns} {B D:Option Addr} {vc dc:Nat}
  (h1:s.1.length≤vc∧vc≤maxLen∧SlAt (encSl encSec) W (fun q=>w.heap.size≤q∧q<W.heap.size∧q≠b) B s.1) (h2:s.2.length≤dc∧dc≤maxLen∧SlAt encSnp W (fun q=>w.heap.size≤q∧q<W.heap.size∧q≠b) D s.2) (n:Int) :
  ((W.setCell ⟨b,0,none⟩ (.slice B s.1.length vc)).setCell ⟨b,1,none⟩ (.slice D s.2.length dc)).heap[b]? = some (.cells #[.slice B s.1.length vc,.slice D s.2.length dc] T (0,0)) ∧
  SnRdE s n w (.returned (.tuple #[.agg #[.slice B s.1.length vc,.slice D s.2.length dc],.int .i64 n])) ((W.setCell ⟨b,0,none⟩ (.slice B s.1.length vc)).setCell ⟨b,1,none⟩ (.slice D s.2.length dc)):=by
 have hsz:((W.setCell ⟨b,0,none⟩ (.slice B s.1.length vc)).setCell ⟨b,1,none⟩ (.slice D s.2.length dc)).heap.size=W.heap.size:=by simp [World.setCell]
 refine⟨blk2_set hrow _ _,B,vc,D,dc,rfl,⟨h1.1,h1.2.1,(h1.2.2.set2 (fun g hg=>hg.2.2) _ _).more (fun q hq=>⟨hq.1,by rw [hsz];exact hq.2.1⟩)⟩,⟨h2.1,h2.2.1,(h2.2.2.set2 (fun g hg=>hg.2.2) _ _).more (fun q hq=>⟨hq.1,by rw [hsz];exact hq.2.1⟩)⟩,(hB.setCell (p:=⟨b,0,none⟩) hb _).setCell (p:=⟨b,1,none⟩) hb _⟩
def chE (c:Cls) (n:Int):Int:=if clE c≠0 then clE c else n
def chS (c:Cls) (s:Sns) (n:Int):Cls:=if chE c n=0 then (s,c.2) else zCls
set_option maxHeartbeats 4000000 in
set_option maxRecDepth 100000 in
theorem clChangeR_any (a1:Addr) (A A2 A3:Option Addr) (c c2 c3 n m p:Nat) (im:Img) (l:List Snp) (cl:List Cln) (s9:Sns) (n9:Int) (w:World) (hn:im.length=n) (hm:l.length=m) (hp:cl.length=p) (h1:SlAt (encSl encSec) w (Bl w.heap.size) A im) (h2:SlAt encSnp w (Bl w.heap.size) A2 l) (h3:SlAt encCln w (Bl w.heap.size) A3 cl) (hL:ClLim (im,l) cl)
  (hF:∀ (W:World) (B D:Option Addr) (vc dc:Nat),Below w.heap.size w W→im.length≤vc∧vc≤maxLen→l.length≤dc∧dc≤maxLen→SlAt (encSl encSec) W (Bl W.heap.size) B im→SlAt encSnp W (Bl W.heap.size) D l→clE ((im,l),cl)=0→Calls Tryz.prog 82 #[.agg #[.slice B im.length vc,.slice D l.length dc],.pointer (some a1)] W (SnRdE s9 n9 W)) (hz9:n9≠0→s9=zSns) :
  Calls Tryz.prog 73 #[.agg #[.slice A n c,.slice A2 m c2,.slice A3 p c3],.func (.func 82) #[] #[.pointer (some a1)]] w (RetCl (chS ((im,l),cl) s9 n9) (chE ((im,l),cl) n9) w):=by
 subst hn hm hp
 have HF:=Lib.hid hF
 clear hF
 obtain⟨n0,hn0⟩:∃ n0,w.heap.size=n0:=⟨_,rfl⟩
 obtain⟨W0,hW0⟩:∃ W0,(w.alloc (.cells #[.slice A im.length c,.slice A2 l.length c2,.slice A3 cl.length c3] 29)).alloc (.cells #[.slice none 0 0,.slice none 0 0,.slice none 0 0] 29)=W0:=⟨_,rfl⟩
 have hB0:Below n0 w W0:=by rw [← hW0, ← hn0];repeat (first | exact Below.refl _ _ | refine ext_alloc ?_)
 have hr0:W0.heap[n0]? = some (.cells #[.slice A im.length c,.slice A2 l.length c2,.slice A3 cl.length c3] 29 (0,0)):=by rw [← hW0, ← hn0];exact (Below.heap_alloc _ _ _ (by simp)).trans (heap_alloc_new _ _)
 have hr1:W0.heap[n0+1]? = some (.cells #[.slice none 0 0,.slice none 0 0,.slice none 0 0] 29 (0,0)):=by rw [← hW0, ← hn0];exact heap_new2 _ _ _
 obtain⟨n2,hn2⟩:∃ n2,W0.heap.size=n2:=⟨_,rfl⟩
 have hn02:n0+1<n2:=by rw [← hn2];exact (Array.getElem?_eq_some_iff.1 hr1).1
 have up:∀ {α:Type} {E:Enc α} {A:Option Addr} {l:List α},SlAt E w (Bl w.heap.size) A l→∀ W,Below n2 W0 W→SlAt E W (Bl W.heap.size) A l:=fun h W hb=>by
  rw [hn0] at h
  exact (h.blk (fun g hg=>(hb.block g (by have:g<n0:=hg;omega)).trans (hB0.block g hg))).more (fun g hg=>by have:g<n0:=hg;have:=hb.size;show g<W.heap.size;omega)
 have H1:=Lib.hid (up h1)
 have H2:=Lib.hid (up h2)
 have H3:=Lib.hid (up h3)
 have HC:Hid (∀ W,Below n2 W0 W→W.cell? ⟨n0,0,none⟩=some (.slice A im.length c)∧W.cell? ⟨n0,1,none⟩=some (.slice A2 l.length c2)∧W.cell? ⟨n0,2,none⟩=some (.slice A3 cl.length c3)):=fun W hb=>by
  obtain⟨a,b,d,_⟩:=blk3 ((hb.block _ (by omega)).trans hr0)
  exact⟨a,b,d⟩
 have HRR:Hid (∀ W,Below n2 W0 W→W.heap[n0+1]? = some (.cells #[.slice none 0 0,.slice none 0 0,.slice none 0 0] 29 (0,0))):=fun W hb=>(hb.block _ (by omega)).trans hr1
 have HROW0:Hid (∀ W,Below n2 W0 W→W.heap[n0]? = some (.cells #[.slice A im.length c,.slice A2 l.length c2,.slice A3 cl.length c3] 29 (0,0))):=fun W hb=>(hb.block _ (by omega)).trans hr0
 have HBW:Hid (∀ W,Below n2 W0 W→Below w.heap.size w W):=fun W hb=>by rw [hn0];exact hB0.trans (hb.mono (by omega))
 have HN0:=Lib.hid hn0
 have HN2:=Lib.hid hn2
 have hN0:n0≤w.heap.size∧w.heap.size≤n0:=by omega
 have hl1:=hL.sn.ims
 have hl2:=hL.sn.its
 have hl3:=hL.its
 have HLM:=Lib.hid hL
 simp only at hl1 hl2
 obtain⟨s0,hs0⟩:∃ s0,clE ((im,l),cl)=s0:=⟨_,rfl⟩
 have HCK:=Lib.hid (fun W (hb:Below n2 W0 W)=>clCheck_any A A2 A3 c c2 c3 im.length l.length cl.length im l cl s0 W rfl rfl rfl hs0 (H1.out W hb) (H2.out W hb) (H3.out W hb) hl1 (by omega) (by omega))
 have HOW:=Lib.hid (fun W (hb:Below n2 W0 W)=>own37_any A A2 A3 c c2 c3 im.length l.length cl.length im l cl W rfl rfl rfl (H1.out W hb) (H2.out W hb) (H3.out W hb) HLM.out)
 have HS0:=Lib.hid hs0
 have hB00:=Below.refl n2 W0
 obtain⟨p0,p1,p2⟩:=HC.out W0 hB00
 clear h1 h2 h3 up hB0 hL hr0 hr1 hs0
 have HCE:Hid (chE ((im,l),cl) n9=if s0≠0 then s0 else n9):=by rw [Hid,chE,HS0.out]
 have HCK0:=Lib.hid (HCK.out W0 hB00)
 go_enter Tryz.func73,Tryz.ntmps73
 go_wp2_with fail
 refine HCK0.out.mono ?_
 rintro e w1 ⟨rfl,hb1⟩
 rw [HN2.out] at hb1
 clear p0 p1 p2 HCK0 hn2 hn0 hW0
 by_cases hx0:s0=0
 case neg =>
  have hx0':(s0 != 0)=true:=by simp [hx0]
  have HE:Hid (chE ((im,l),cl) n9=s0):=by rw [Hid,HCE.out,if_pos hx0]
  have HT:Hid (chS ((im,l),cl) s9 n9=zCls):=by rw [Hid,chS,if_neg (by rw [HE.out];exact hx0)]
  clear hx0
  have hr1:=HRR.out w1 hb1
  obtain⟨v0,v1,v2,vf⟩:=blk3 hr1
  go_wp2_with fail
  have hend:=cl_end (w:=w) (x:=zCls) (A:=none) (c:=0) (D:=none) (d:=0) (G:=none) (g:=0) hr1 (by omega) (HBW.out w1 hb1) ClAt.zero s0
  obtain⟨hz,hret⟩:=hend
  change bodyPost _ _ _ _ _ (sw3 w1 (n0+1) (.slice none (zCls).1.1.length 0) (.slice none (zCls).1.2.length 0) (.slice none (zCls).2.length 0))
  generalize sw3 w1 (n0+1) (.slice none (zCls).1.1.length 0) (.slice none (zCls).1.2.length 0) (.slice none (zCls).2.length 0)=W3 at hz hret ⊢
  obtain⟨z0,z1,z2,_⟩:=blk3 hz
  refine bodyPost_ret (v := .tuple #[.agg #[.slice none (zCls).1.1.length 0,.slice none (zCls).1.2.length 0,.slice none (zCls).2.length 0],.int .i64 s0]) ?_ rfl ?_
  ·simp [results,Tryz.results73,Tryz.f73,go_sem,z0,z1,z2,zCls,zSns]
  rw [HT.out,HE.out];exact hret
 have hx0':(s0 != 0)=false:=by simp [hx0]
 rw [if_neg (by simp [hx0])] at HCE
 subst hx0
 obtain⟨p0,p1,p2⟩:=HC.out w1 hb1
 have HO:=Lib.hid (HOW.out w1 hb1)
 go_wp2_with fail
 refine HO.out.mono ?_
 rintro e w5 ⟨B,vc,D,dc,G,gc,m1,m2,rfl,hcr,hb5⟩
 have hbb5:Below n2 W0 w5:=hb1.trans (hb5.mono (by have:=hb1.size;have:=HN2.out;omega))
 clear p0 p1 p2 HO
 obtain⟨ob,hob⟩:∃ ob,w5.heap.size=ob:=⟨_,rfl⟩
 obtain⟨w6,hw6⟩:∃ w6,w5.alloc (.cells #[.slice B im.length vc,.slice D l.length dc,.slice G cl.length gc] 29)=w6:=⟨_,rfl⟩
 have HW6:=Lib.hid hw6
 have hb6:Below ob w5 w6:=by rw [← hw6, ← hob];exact ext_alloc (Below.refl _ _)
 have hr6:w6.heap[ob]? = some (.cells #[.slice B im.length vc,.slice D l.length dc,.slice G cl.length gc] 29 (0,0)):=by rw [← hw6, ← hob];exact heap_alloc_new _ _
 have hle:=hcr.le
 have hz1:=hb1.size
 have hN2:n2≤W0.heap.size:=by have:=HN2.out;omega
 have hz6:ob<w6.heap.size:=(Array.getElem?_eq_some_iff.1 hr6).1
 have hbb6:Below n2 W0 w6:=hbb5.trans (hb6.mono (by omega))
 have HCR:=Lib.hid hcr
 have HCA:=Lib.hid (hcr.at_.keep (S':=fun q=>w.heap.size≤q∧q<w5.heap.size∧n2≤q) (fun _ _=>rfl) (fun q hq=>⟨by have:=hq.1;omega,hq.2,by have:=hq.1;omega⟩))
 have HFF:=Lib.hid (HF.out w6 B D vc dc (HBW.out w6 hbb6) ⟨hcr.im.1,hcr.im.2.1⟩ ⟨hcr.sn.1,hcr.sn.2.1⟩ ((hcr.im.2.2.blk (fun x hx=>hb6.block x (by have:=hx.2;omega))).more (fun x hx=>by have:=hx.2;show x<w6.heap.size;omega)) ((hcr.sn.2.2.blk (fun x hx=>hb6.block x (by have:=hx.2;omega))).more (fun x hx=>by have:=hx.2;show x<w6.heap.size;omega)) HS0.out)
 clear hw6 hcr
 go_upto_region 5 with (fail)
 rw [HW6.out]
 clear HW6
 obtain⟨q0,q1,q2,qf⟩:=blk3 hr6
 go_wp2_with fail
 refine HFF.out.mono ?_
 rintro e w7 ⟨B9,vc9,D9,dc9,rfl,⟨j1,j2,j3⟩,⟨j4,j5,j6⟩,hb7⟩
 have hbb7:Below n2 W0 w7:=hbb6.trans (hb7.mono (by omega))
 have hr7:=(hb7.block ob hz6).trans hr6
 have hz7:=hb7.size
 clear q0 q1 q2 qf HFF
 obtain⟨sb,hsb⟩:∃ sb,w7.heap.size=sb:=⟨_,rfl⟩
 obtain⟨w8,hw8⟩:∃ w8,w7.alloc (.cells #[.slice B9 s9.1.length vc9,.slice D9 s9.2.length dc9] 26)=w8:=⟨_,rfl⟩
 have HW8:=Lib.hid hw8
 have hb8:Below sb w7 w8:=by rw [← hw8, ← hsb];exact ext_alloc (Below.refl _ _)
 have hr8:w8.heap[sb]? = some (.cells #[.slice B9 s9.1.length vc9,.slice D9 s9.2.length dc9] 26 (0,0)):=by rw [← hw8, ← hsb];exact heap_alloc_new _ _
 have hz8:sb<w8.heap.size:=(Array.getElem?_eq_some_iff.1 hr8).1
 have hbb8:Below n2 W0 w8:=hbb7.trans (hb8.mono (by omega))
 have hro8:=(hb8.block ob (by omega)).trans hr7
 have HJ3:=Lib.hid (j3.blk (w':=w8) (fun x hx=>hb8.block x (by have:=hx.2;omega)))
 have HJ6:=Lib.hid (j6.blk (w':=w8) (fun x hx=>hb8.block x (by have:=hx.2;omega)))
 clear hw8 j3 j6
 go_upto_region 6 with (fail)
 rw [HW8.out]
 clear HW8
 by_cases hn9:n9=0
 case neg =>
  have hn9':(n9 != 0)=true:=by simp [hn9]
  have HE:Hid (chE ((im,l),cl) n9=n9):=HCE.out
  have HT:Hid (chS ((im,l),cl) s9 n9=zCls):=by rw [Hid,chS,if_neg (by rw [HE.out];exact hn9)]
  clear hn9 hz9
  have hr18:=HRR.out w8 hbb8
  obtain⟨v0,v1,v2,vf⟩:=blk3 hr18
  go_wp2_with fail
  have hend:=cl_end (w:=w) (x:=zCls) (A:=none) (c:=0) (D:=none) (d:=0) (G:=none) (g:=0) hr18 (by omega) (HBW.out w8 hbb8) ClAt.zero n9
  obtain⟨hz,hret⟩:=hend
  change bodyPost _ _ _ _ _ (sw3 w8 (n0+1) (.slice none (zCls).1.1.length 0) (.slice none (zCls).1.2.length 0) (.slice none (zCls).2.length 0))
  generalize sw3 w8 (n0+1) (.slice none (zCls).1.1.length 0) (.slice none (zCls).1.2.length 0) (.slice none (zCls).2.length 0)=W3 at hz hret ⊢
  obtain⟨z0,z1,z2,_⟩:=blk3 hz
  refine bodyPost_ret (v := .tuple #[.agg #[.slice none (zCls).1.1.length 0,.slice none (zCls).1.2.length 0,.slice none (zCls).2.length 0],.int .i64 n9]) ?_ rfl ?_
  ·simp [results,Tryz.results73,Tryz.f73,go_sem,z0,z1,z2,zCls,zSns]
  rw [HT.out,HE.out];exact hret
 have hn9':(n9 != 0)=false:=by simp [hn9]
 have HE:Hid (chE ((im,l),cl) n9=0):=HCE.out.trans hn9
 have HT:Hid (chS ((im,l),cl) s9 n9=(s9,cl)):=by rw [Hid,chS,if_pos HE.out]
 subst hn9
 clear hz9
 obtain⟨y0,y1,_⟩:=blk2 hr8
 obtain⟨q0,q1,q2,qf⟩:=blk3 hro8
 go_upto_region 9 with (fail)
 clear q0 q1 q2 qf y0 y1
 change Code.wp _ _ _ _ ((w8.setCell ⟨ob,0,none⟩ (.slice B9 s9.1.length vc9)).setCell ⟨ob,1,none⟩ (.slice D9 s9.2.length dc9))
 have hr9:((w8.setCell ⟨ob,0,none⟩ (.slice B9 s9.1.length vc9)).setCell ⟨ob,1,none⟩ (.slice D9 s9.2.length dc9)).heap[ob]? = some (.cells #[.slice B9 s9.1.length vc9,.slice D9 s9.2.length dc9,.slice G cl.length gc] 29 (0,0)):=by
  simp [World.setCell,Array.getElem?_modify,hro8]
 have hk9:∀ x,x≠ob→((w8.setCell ⟨ob,0,none⟩ (.slice B9 s9.1.length vc9)).setCell ⟨ob,1,none⟩ (.slice D9 s9.2.length dc9)).heap[x]? = w8.heap[x]? := fun x hx=>(heap_setCell_other _ _ _ _ hx).trans (heap_setCell_other _ _ _ _ hx)
 have hz9:w8.heap.size≤((w8.setCell ⟨ob,0,none⟩ (.slice B9 s9.1.length vc9)).setCell ⟨ob,1,none⟩ (.slice D9 s9.2.length dc9)).heap.size:=by simp [World.setCell]
 have hb9:Below n2 W0 ((w8.setCell ⟨ob,0,none⟩ (.slice B9 s9.1.length vc9)).setCell ⟨ob,1,none⟩ (.slice D9 s9.2.length dc9)):=(hbb8.setCell (p:=⟨ob,0,none⟩) (by show n2≤ob;omega) _).setCell (p:=⟨ob,1,none⟩) (by show n2≤ob;omega) _
 generalize (w8.setCell ⟨ob,0,none⟩ (.slice B9 s9.1.length vc9)).setCell ⟨ob,1,none⟩ (.slice D9 s9.2.length dc9)=w9 at hr9 hk9 hz9 hb9 ⊢
 have HCL:Hid (ClAt ((s9,cl):Cls) B9 vc9 D9 dc9 G gc (fun q=>w.heap.size≤q∧q<w9.heap.size∧q≠n0+1) w9) :=
  ⟨⟨j1,j2,(HJ3.out.blk (fun x hx=>hk9 x (by have:=hx.1;omega))).more (fun x hx=>⟨by have:=hx.1;omega,by have:=hx.2;omega,by have:=hx.1;omega⟩)⟩,
   ⟨j4,j5,(HJ6.out.blk (fun x hx=>hk9 x (by have:=hx.1;omega))).more (fun x hx=>⟨by have:=hx.1;omega,by have:=hx.2;omega,by have:=hx.1;omega⟩)⟩,
   ⟨HCA.out.cl.1,HCA.out.cl.2.1,(HCA.out.cl.2.2.blk (fun x hx=>(hk9 x (by have:=hx.2.1;omega)).trans ((hb8.block x (by have:=hx.2.1;omega)).trans ((hb7.block x (by have:=hx.2.1;omega)).trans (hb6.block x (by have:=hx.2.1;omega)))))).more (fun x hx=>⟨hx.1,by have:=hx.2.1;omega,by have:=hx.2.2;omega⟩)⟩⟩
 have hr19:=HRR.out w9 hb9
 obtain⟨q0,q1,q2,qf⟩:=blk3 hr9
 obtain⟨v0,v1,v2,vf⟩:=blk3 hr19
 clear hk9 hz9
 go_wp2_with fail
 have hend:=cl_end (w:=w) (x:=((s9,cl):Cls)) (A:=B9) (c:=vc9) (D:=D9) (d:=dc9) (G:=G) (g:=gc) hr19 (by omega) (HBW.out w9 hb9) HCL.out 0
 obtain⟨hz,hret⟩:=hend
 change bodyPost _ _ _ _ _ (sw3 w9 (n0+1) (.slice B9 (((s9,cl):Cls)).1.1.length vc9) (.slice D9 (((s9,cl):Cls)).1.2.length dc9) (.slice G (((s9,cl):Cls)).2.length gc))
 generalize sw3 w9 (n0+1) (.slice B9 (((s9,cl):Cls)).1.1.length vc9) (.slice D9 (((s9,cl):Cls)).1.2.length dc9) (.slice G (((s9,cl):Cls)).2.length gc)=W3 at hz hret ⊢
 obtain⟨z0,z1,z2,_⟩:=blk3 hz
 refine bodyPost_ret (v := .tuple #[.agg #[.slice B9 (((s9,cl):Cls)).1.1.length vc9,.slice D9 (((s9,cl):Cls)).1.2.length dc9,.slice G (((s9,cl):Cls)).2.length gc],.int .i64 0]) ?_ rfl ?_
 ·simp [results,Tryz.results73,Tryz.f73,go_sem,z0,z1,z2,zCls,zSns]
 rw [HT.out,HE.out];exact hret
set_option maxHeartbeats 4000000 in
set_option maxRecDepth 100000 in
theorem clChangeT_any (a1 a2:Addr) (A A2 A3:Option Addr) (c c2 c3 n m p:Nat) (im:Img) (l:List Snp) (cl:List Cln) (s9:Sns) (n9:Int) (w:World) (hn:im.length=n) (hm:l.length=m) (hp:cl.length=p) (h1:SlAt (encSl encSec) w (Bl w.heap.size) A im) (h2:SlAt encSnp w (Bl w.heap.size) A2 l) (h3:SlAt encCln w (Bl w.heap.size) A3 cl) (hL:ClLim (im,l) cl)
  (hF:∀ (W:World) (B D:Option Addr) (vc dc:Nat),Below w.heap.size w W→im.length≤vc∧vc≤maxLen→l.length≤dc∧dc≤maxLen→SlAt (encSl encSec) W (Bl W.heap.size) B im→SlAt encSnp W (Bl W.heap.size) D l→clE ((im,l),cl)=0→Calls Tryz.prog 85 #[.agg #[.slice B im.length vc,.slice D l.length dc],.pointer (some a1),.pointer (some a2)] W (SnRdE s9 n9 W)) (hz9:n9≠0→s9=zSns) :
  Calls Tryz.prog 73 #[.agg #[.slice A n c,.slice A2 m c2,.slice A3 p c3],.func (.func 85) #[] #[.pointer (some a1),.pointer (some a2)]] w (RetCl (chS ((im,l),cl) s9 n9) (chE ((im,l),cl) n9) w):=by
 subst hn hm hp
 have HF:=Lib.hid hF
 clear hF
 obtain⟨n0,hn0⟩:∃ n0,w.heap.size=n0:=⟨_,rfl⟩
 obtain⟨W0,hW0⟩:∃ W0,(w.alloc (.cells #[.slice A im.length c,.slice A2 l.length c2,.slice A3 cl.length c3] 29)).alloc (.cells #[.slice none 0 0,.slice none 0 0,.slice none 0 0] 29)=W0:=⟨_,rfl⟩
 have hB0:Below n0 w W0:=by rw [← hW0, ← hn0];repeat (first | exact Below.refl _ _ | refine ext_alloc ?_)
 have hr0:W0.heap[n0]? = some (.cells #[.slice A im.length c,.slice A2 l.length c2,.slice A3 cl.length c3] 29 (0,0)):=by rw [← hW0, ← hn0];exact (Below.heap_alloc _ _ _ (by simp)).trans (heap_alloc_new _ _)
 have hr1:W0.heap[n0+1]? = some (.cells #[.slice none 0 0,.slice none 0 0,.slice none 0 0] 29 (0,0)):=by rw [← hW0, ← hn0];exact heap_new2 _ _ _
 obtain⟨n2,hn2⟩:∃ n2,W0.heap.size=n2:=⟨_,rfl⟩
 have hn02:n0+1<n2:=by rw [← hn2];exact (Array.getElem?_eq_some_iff.1 hr1).1
 have up:∀ {α:Type} {E:Enc α} {A:Option Addr} {l:List α},SlAt E w (Bl w.heap.size) A l→∀ W,Below n2 W0 W→SlAt E W (Bl W.heap.size) A l:=fun h W hb=>by
  rw [hn0] at h
  exact (h.blk (fun g hg=>(hb.block g (by have:g<n0:=hg;omega)).trans (hB0.block g hg))).more (fun g hg=>by have:g<n0:=hg;have:=hb.size;show g<W.heap.size;omega)
 have H1:=Lib.hid (up h1)
 have H2:=Lib.hid (up h2)
 have H3:=Lib.hid (up h3)
 have HC:Hid (∀ W,Below n2 W0 W→W.cell? ⟨n0,0,none⟩=some (.slice A im.length c)∧W.cell? ⟨n0,1,none⟩=some (.slice A2 l.length c2)∧W.cell? ⟨n0,2,none⟩=some (.slice A3 cl.length c3)):=fun W hb=>by
  obtain⟨a,b,d,_⟩:=blk3 ((hb.block _ (by omega)).trans hr0)
  exact⟨a,b,d⟩
 have HRR:Hid (∀ W,Below n2 W0 W→W.heap[n0+1]? = some (.cells #[.slice none 0 0,.slice none 0 0,.slice none 0 0] 29 (0,0))):=fun W hb=>(hb.block _ (by omega)).trans hr1
 have HROW0:Hid (∀ W,Below n2 W0 W→W.heap[n0]? = some (.cells #[.slice A im.length c,.slice A2 l.length c2,.slice A3 cl.length c3] 29 (0,0))):=fun W hb=>(hb.block _ (by omega)).trans hr0
 have HBW:Hid (∀ W,Below n2 W0 W→Below w.heap.size w W):=fun W hb=>by rw [hn0];exact hB0.trans (hb.mono (by omega))
 have HN0:=Lib.hid hn0
 have HN2:=Lib.hid hn2
 have hN0:n0≤w.heap.size∧w.heap.size≤n0:=by omega
 have hl1:=hL.sn.ims
 have hl2:=hL.sn.its
 have hl3:=hL.its
 have HLM:=Lib.hid hL
 simp only at hl1 hl2
 obtain⟨s0,hs0⟩:∃ s0,clE ((im,l),cl)=s0:=⟨_,rfl⟩
 have HCK:=Lib.hid (fun W (hb:Below n2 W0 W)=>clCheck_any A A2 A3 c c2 c3 im.length l.length cl.length im l cl s0 W rfl rfl rfl hs0 (H1.out W hb) (H2.out W hb) (H3.out W hb) hl1 (by omega) (by omega))
 have HOW:=Lib.hid (fun W (hb:Below n2 W0 W)=>own37_any A A2 A3 c c2 c3 im.length l.length cl.length im l cl W rfl rfl rfl (H1.out W hb) (H2.out W hb) (H3.out W hb) HLM.out)
 have HS0:=Lib.hid hs0
 have hB00:=Below.refl n2 W0
 obtain⟨p0,p1,p2⟩:=HC.out W0 hB00
 clear h1 h2 h3 up hB0 hL hr0 hr1 hs0
 have HCE:Hid (chE ((im,l),cl) n9=if s0≠0 then s0 else n9):=by rw [Hid,chE,HS0.out]
 have HCK0:=Lib.hid (HCK.out W0 hB00)
 go_enter Tryz.func73,Tryz.ntmps73
 go_wp2_with fail
 refine HCK0.out.mono ?_
 rintro e w1 ⟨rfl,hb1⟩
 rw [HN2.out] at hb1
 clear p0 p1 p2 HCK0 hn2 hn0 hW0
 by_cases hx0:s0=0
 case neg =>
  have hx0':(s0 != 0)=true:=by simp [hx0]
  have HE:Hid (chE ((im,l),cl) n9=s0):=by rw [Hid,HCE.out,if_pos hx0]
  have HT:Hid (chS ((im,l),cl) s9 n9=zCls):=by rw [Hid,chS,if_neg (by rw [HE.out];exact hx0)]
  clear hx0
  have hr1:=HRR.out w1 hb1
  obtain⟨v0,v1,v2,vf⟩:=blk3 hr1
  go_wp2_with fail
  have hend:=cl_end (w:=w) (x:=zCls) (A:=none) (c:=0) (D:=none) (d:=0) (G:=none) (g:=0) hr1 (by omega) (HBW.out w1 hb1) ClAt.zero s0
  obtain⟨hz,hret⟩:=hend
  change bodyPost _ _ _ _ _ (sw3 w1 (n0+1) (.slice none (zCls).1.1.length 0) (.slice none (zCls).1.2.length 0) (.slice none (zCls).2.length 0))
  generalize sw3 w1 (n0+1) (.slice none (zCls).1.1.length 0) (.slice none (zCls).1.2.length 0) (.slice none (zCls).2.length 0)=W3 at hz hret ⊢
  obtain⟨z0,z1,z2,_⟩:=blk3 hz
  refine bodyPost_ret (v := .tuple #[.agg #[.slice none (zCls).1.1.length 0,.slice none (zCls).1.2.length 0,.slice none (zCls).2.length 0],.int .i64 s0]) ?_ rfl ?_
  ·simp [results,Tryz.results73,Tryz.f73,go_sem,z0,z1,z2,zCls,zSns]
  rw [HT.out,HE.out];exact hret
 have hx0':(s0 != 0)=false:=by simp [hx0]
 rw [if_neg (by simp [hx0])] at HCE
 subst hx0
 obtain⟨p0,p1,p2⟩:=HC.out w1 hb1
 have HO:=Lib.hid (HOW.out w1 hb1)
 go_wp2_with fail
 refine HO.out.mono ?_
 rintro e w5 ⟨B,vc,D,dc,G,gc,m1,m2,rfl,hcr,hb5⟩
 have hbb5:Below n2 W0 w5:=hb1.trans (hb5.mono (by have:=hb1.size;have:=HN2.out;omega))
 clear p0 p1 p2 HO
 obtain⟨ob,hob⟩:∃ ob,w5.heap.size=ob:=⟨_,rfl⟩
 obtain⟨w6,hw6⟩:∃ w6,w5.alloc (.cells #[.slice B im.length vc,.slice D l.length dc,.slice G cl.length gc] 29)=w6:=⟨_,rfl⟩
 have HW6:=Lib.hid hw6
 have hb6:Below ob w5 w6:=by rw [← hw6, ← hob];exact ext_alloc (Below.refl _ _)
 have hr6:w6.heap[ob]? = some (.cells #[.slice B im.length vc,.slice D l.length dc,.slice G cl.length gc] 29 (0,0)):=by rw [← hw6, ← hob];exact heap_alloc_new _ _
 have hle:=hcr.le
 have hz1:=hb1.size
 have hN2:n2≤W0.heap.size:=by have:=HN2.out;omega
 have hz6:ob<w6.heap.size:=(Array.getElem?_eq_some_iff.1 hr6).1
 have hbb6:Below n2 W0 w6:=hbb5.trans (hb6.mono (by omega))
 have HCR:=Lib.hid hcr
 have HCA:=Lib.hid (hcr.at_.keep (S':=fun q=>w.heap.size≤q∧q<w5.heap.size∧n2≤q) (fun _ _=>rfl) (fun q hq=>⟨by have:=hq.1;omega,hq.2,by have:=hq.1;omega⟩))
 have HFF:=Lib.hid (HF.out w6 B D vc dc (HBW.out w6 hbb6) ⟨hcr.im.1,hcr.im.2.1⟩ ⟨hcr.sn.1,hcr.sn.2.1⟩ ((hcr.im.2.2.blk (fun x hx=>hb6.block x (by have:=hx.2;omega))).more (fun x hx=>by have:=hx.2;show x<w6.heap.size;omega)) ((hcr.sn.2.2.blk (fun x hx=>hb6.block x (by have:=hx.2;omega))).more (fun x hx=>by have:=hx.2;show x<w6.heap.size;omega)) HS0.out)
 clear hw6 hcr
 go_upto_region 5 with (fail)
 rw [HW6.out]
 clear HW6
 obtain⟨q0,q1,q2,qf⟩:=blk3 hr6
 go_wp2_with fail
 refine HFF.out.mono ?_
 rintro e w7 ⟨B9,vc9,D9,dc9,rfl,⟨j1,j2,j3⟩,⟨j4,j5,j6⟩,hb7⟩
 have hbb7:Below n2 W0 w7:=hbb6.trans (hb7.mono (by omega))
 have hr7:=(hb7.block ob hz6).trans hr6
 have hz7:=hb7.size
 clear q0 q1 q2 qf HFF
 obtain⟨sb,hsb⟩:∃ sb,w7.heap.size=sb:=⟨_,rfl⟩
 obtain⟨w8,hw8⟩:∃ w8,w7.alloc (.cells #[.slice B9 s9.1.length vc9,.slice D9 s9.2.length dc9] 26)=w8:=⟨_,rfl⟩
 have HW8:=Lib.hid hw8
 have hb8:Below sb w7 w8:=by rw [← hw8, ← hsb];exact ext_alloc (Below.refl _ _)
 have hr8:w8.heap[sb]? = some (.cells #[.slice B9 s9.1.length vc9,.slice D9 s9.2.length dc9] 26 (0,0)):=by rw [← hw8, ← hsb];exact heap_alloc_new _ _
 have hz8:sb<w8.heap.size:=(Array.getElem?_eq_some_iff.1 hr8).1
 have hbb8:Below n2 W0 w8:=hbb7.trans (hb8.mono (by omega))
 have hro8:=(hb8.block ob (by omega)).trans hr7
 have HJ3:=Lib.hid (j3.blk (w':=w8) (fun x hx=>hb8.block x (by have:=hx.2;omega)))
 have HJ6:=Lib.hid (j6.blk (w':=w8) (fun x hx=>hb8.block x (by have:=hx.2;omega)))
 clear hw8 j3 j6
 go_upto_region 6 with (fail)
 rw [HW8.out]
 clear HW8
 by_cases hn9:n9=0
 case neg =>
  have hn9':(n9 != 0)=true:=by simp [hn9]
  have HE:Hid (chE ((im,l),cl) n9=n9):=HCE.out
  have HT:Hid (chS ((im,l),cl) s9 n9=zCls):=by rw [Hid,chS,if_neg (by rw [HE.out];exact hn9)]
  clear hn9 hz9
  have hr18:=HRR.out w8 hbb8
  obtain⟨v0,v1,v2,vf⟩:=blk3 hr18
  go_wp2_with fail
  have hend:=cl_end (w:=w) (x:=zCls) (A:=none) (c:=0) (D:=none) (d:=0) (G:=none) (g:=0) hr18 (by omega) (HBW.out w8 hbb8) ClAt.zero n9
  obtain⟨hz,hret⟩:=hend
  change bodyPost _ _ _ _ _ (sw3 w8 (n0+1) (.slice none (zCls).1.1.length 0) (.slice none (zCls).1.2.length 0) (.slice none (zCls).2.length 0))
  generalize sw3 w8 (n0+1) (.slice none (zCls).1.1.length 0) (.slice none (zCls).1.2.length 0) (.slice none (zCls).2.length 0)=W3 at hz hret ⊢
  obtain⟨z0,z1,z2,_⟩:=blk3 hz
  refine bodyPost_ret (v := .tuple #[.agg #[.slice none (zCls).1.1.length 0,.slice none (zCls).1.2.length 0,.slice none (zCls).2.length 0],.int .i64 n9]) ?_ rfl ?_
  ·simp [results,Tryz.results73,Tryz.f73,go_sem,z0,z1,z2,zCls,zSns]
  rw [HT.out,HE.out];exact hret
 have hn9':(n9 != 0)=false:=by simp [hn9]
 have HE:Hid (chE ((im,l),cl) n9=0):=HCE.out.trans hn9
 have HT:Hid (chS ((im,l),cl) s9 n9=(s9,cl)):=by rw [Hid,chS,if_pos HE.out]
 subst hn9
 clear hz9
 obtain⟨y0,y1,_⟩:=blk2 hr8
 obtain⟨q0,q1,q2,qf⟩:=blk3 hro8
 go_upto_region 9 with (fail)
 clear q0 q1 q2 qf y0 y1
 change Code.wp _ _ _ _ ((w8.setCell ⟨ob,0,none⟩ (.slice B9 s9.1.length vc9)).setCell ⟨ob,1,none⟩ (.slice D9 s9.2.length dc9))
 have hr9:((w8.setCell ⟨ob,0,none⟩ (.slice B9 s9.1.length vc9)).setCell ⟨ob,1,none⟩ (.slice D9 s9.2.length dc9)).heap[ob]? = some (.cells #[.slice B9 s9.1.length vc9,.slice D9 s9.2.length dc9,.slice G cl.length gc] 29 (0,0)):=by
  simp [World.setCell,Array.getElem?_modify,hro8]
 have hk9:∀ x,x≠ob→((w8.setCell ⟨ob,0,none⟩ (.slice B9 s9.1.length vc9)).setCell ⟨ob,1,none⟩ (.slice D9 s9.2.length dc9)).heap[x]? = w8.heap[x]? := fun x hx=>(heap_setCell_other _ _ _ _ hx).trans (heap_setCell_other _ _ _ _ hx)
 have hz9:w8.heap.size≤((w8.setCell ⟨ob,0,none⟩ (.slice B9 s9.1.length vc9)).setCell ⟨ob,1,none⟩ (.slice D9 s9.2.length dc9)).heap.size:=by simp [World.setCell]
 have hb9:Below n2 W0 ((w8.setCell ⟨ob,0,none⟩ (.slice B9 s9.1.length vc9)).setCell ⟨ob,1,none⟩ (.slice D9 s9.2.length dc9)):=(hbb8.setCell (p:=⟨ob,0,none⟩) (by show n2≤ob;omega) _).setCell (p:=⟨ob,1,none⟩) (by show n2≤ob;omega) _
 generalize (w8.setCell ⟨ob,0,none⟩ (.slice B9 s9.1.length vc9)).setCell ⟨ob,1,none⟩ (.slice D9 s9.2.length dc9)=w9 at hr9 hk9 hz9 hb9 ⊢
 have HCL:Hid (ClAt ((s9,cl):Cls) B9 vc9 D9 dc9 G gc (fun q=>w.heap.size≤q∧q<w9.heap.size∧q≠n0+1) w9) :=
  ⟨⟨j1,j2,(HJ3.out.blk (fun x hx=>hk9 x (by have:=hx.1;omega))).more (fun x hx=>⟨by have:=hx.1;omega,by have:=hx.2;omega,by have:=hx.1;omega⟩)⟩,
   ⟨j4,j5,(HJ6.out.blk (fun x hx=>hk9 x (by have:=hx.1;omega))).more (fun x hx=>⟨by have:=hx.1;omega,by have:=hx.2;omega,by have:=hx.1;omega⟩)⟩,
   ⟨HCA.out.cl.1,HCA.out.cl.2.1,(HCA.out.cl.2.2.blk (fun x hx=>(hk9 x (by have:=hx.2.1;omega)).trans ((hb8.block x (by have:=hx.2.1;omega)).trans ((hb7.block x (by have:=hx.2.1;omega)).trans (hb6.block x (by have:=hx.2.1;omega)))))).more (fun x hx=>⟨hx.1,by have:=hx.2.1;omega,by have:=hx.2.2;omega⟩)⟩⟩
 have hr19:=HRR.out w9 hb9
 obtain⟨q0,q1,q2,qf⟩:=blk3 hr9
 obtain⟨v0,v1,v2,vf⟩:=blk3 hr19
 clear hk9 hz9
 go_wp2_with fail
 have hend:=cl_end (w:=w) (x:=((s9,cl):Cls)) (A:=B9) (c:=vc9) (D:=D9) (d:=dc9) (G:=G) (g:=gc) hr19 (by omega) (HBW.out w9 hb9) HCL.out 0
 obtain⟨hz,hret⟩:=hend
 change bodyPost _ _ _ _ _ (sw3 w9 (n0+1) (.slice B9 (((s9,cl):Cls)).1.1.length vc9) (.slice D9 (((s9,cl):Cls)).1.2.length dc9) (.slice G (((s9,cl):Cls)).2.length gc))
 generalize sw3 w9 (n0+1) (.slice B9 (((s9,cl):Cls)).1.1.length vc9) (.slice D9 (((s9,cl):Cls)).1.2.length dc9) (.slice G (((s9,cl):Cls)).2.length gc)=W3 at hz hret ⊢
 obtain⟨z0,z1,z2,_⟩:=blk3 hz
 refine bodyPost_ret (v := .tuple #[.agg #[.slice B9 (((s9,cl):Cls)).1.1.length vc9,.slice D9 (((s9,cl):Cls)).1.2.length dc9,.slice G (((s9,cl):Cls)).2.length gc],.int .i64 0]) ?_ rfl ?_
 ·simp [results,Tryz.results73,Tryz.f73,go_sem,z0,z1,z2,zCls,zSns]
 rw [HT.out,HE.out];exact hret
set_option maxHeartbeats 4000000 in
set_option maxRecDepth 100000 in
theorem clChangeD_any (a1 a2:Addr) (A A2 A3:Option Addr) (c c2 c3 n m p:Nat) (im:Img) (l:List Snp) (cl:List Cln) (s9:Sns) (n9:Int) (w:World) (hn:im.length=n) (hm:l.length=m) (hp:cl.length=p) (h1:SlAt (encSl encSec) w (Bl w.heap.size) A im) (h2:SlAt encSnp w (Bl w.heap.size) A2 l) (h3:SlAt encCln w (Bl w.heap.size) A3 cl) (hL:ClLim (im,l) cl)
  (hF:∀ (W:World) (B D:Option Addr) (vc dc:Nat),Below w.heap.size w W→im.length≤vc∧vc≤maxLen→l.length≤dc∧dc≤maxLen→SlAt (encSl encSec) W (Bl W.heap.size) B im→SlAt encSnp W (Bl W.heap.size) D l→clE ((im,l),cl)=0→Calls Tryz.prog 74 #[.agg #[.slice B im.length vc,.slice D l.length dc],.pointer (some a1),.pointer (some a2)] W (SnRdE s9 n9 W)) (hz9:n9≠0→s9=zSns) :
  Calls Tryz.prog 73 #[.agg #[.slice A n c,.slice A2 m c2,.slice A3 p c3],.func (.func 74) #[] #[.pointer (some a1),.pointer (some a2)]] w (RetCl (chS ((im,l),cl) s9 n9) (chE ((im,l),cl) n9) w):=by
 subst hn hm hp
 have HF:=Lib.hid hF
 clear hF
 obtain⟨n0,hn0⟩:∃ n0,w.heap.size=n0:=⟨_,rfl⟩
 obtain⟨W0,hW0⟩:∃ W0,(w.alloc (.cells #[.slice A im.length c,.slice A2 l.length c2,.slice A3 cl.length c3] 29)).alloc (.cells #[.slice none 0 0,.slice none 0 0,.slice none 0 0] 29)=W0:=⟨_,rfl⟩
 have hB0:Below n0 w W0:=by rw [← hW0, ← hn0];repeat (first | exact Below.refl _ _ | refine ext_alloc ?_)
 have hr0:W0.heap[n0]? = some (.cells #[.slice A im.length c,.slice A2 l.length c2,.slice A3 cl.length c3] 29 (0,0)):=by rw [← hW0, ← hn0];exact (Below.heap_alloc _ _ _ (by simp)).trans (heap_alloc_new _ _)
 have hr1:W0.heap[n0+1]? = some (.cells #[.slice none 0 0,.slice none 0 0,.slice none 0 0] 29 (0,0)):=by rw [← hW0, ← hn0];exact heap_new2 _ _ _
 obtain⟨n2,hn2⟩:∃ n2,W0.heap.size=n2:=⟨_,rfl⟩
 have hn02:n0+1<n2:=by rw [← hn2];exact (Array.getElem?_eq_some_iff.1 hr1).1
 have up:∀ {α:Type} {E:Enc α} {A:Option Addr} {l:List α},SlAt E w (Bl w.heap.size) A l→∀ W,Below n2 W0 W→SlAt E W (Bl W.heap.size) A l:=fun h W hb=>by
  rw [hn0] at h
  exact (h.blk (fun g hg=>(hb.block g (by have:g<n0:=hg;omega)).trans (hB0.block g hg))).more (fun g hg=>by have:g<n0:=hg;have:=hb.size;show g<W.heap.size;omega)
 have H1:=Lib.hid (up h1)
 have H2:=Lib.hid (up h2)
 have H3:=Lib.hid (up h3)
 have HC:Hid (∀ W,Below n2 W0 W→W.cell? ⟨n0,0,none⟩=some (.slice A im.length c)∧W.cell? ⟨n0,1,none⟩=some (.slice A2 l.length c2)∧W.cell? ⟨n0,2,none⟩=some (.slice A3 cl.length c3)):=fun W hb=>by
  obtain⟨a,b,d,_⟩:=blk3 ((hb.block _ (by omega)).trans hr0)
  exact⟨a,b,d⟩
 have HRR:Hid (∀ W,Below n2 W0 W→W.heap[n0+1]? = some (.cells #[.slice none 0 0,.slice none 0 0,.slice none 0 0] 29 (0,0))):=fun W hb=>(hb.block _ (by omega)).trans hr1
 have HROW0:Hid (∀ W,Below n2 W0 W→W.heap[n0]? = some (.cells #[.slice A im.length c,.slice A2 l.length c2,.slice A3 cl.length c3] 29 (0,0))):=fun W hb=>(hb.block _ (by omega)).trans hr0
 have HBW:Hid (∀ W,Below n2 W0 W→Below w.heap.size w W):=fun W hb=>by rw [hn0];exact hB0.trans (hb.mono (by omega))
 have HN0:=Lib.hid hn0
 have HN2:=Lib.hid hn2
 have hN0:n0≤w.heap.size∧w.heap.size≤n0:=by omega
 have hl1:=hL.sn.ims
 have hl2:=hL.sn.its
 have hl3:=hL.its
 have HLM:=Lib.hid hL
 simp only at hl1 hl2
 obtain⟨s0,hs0⟩:∃ s0,clE ((im,l),cl)=s0:=⟨_,rfl⟩
 have HCK:=Lib.hid (fun W (hb:Below n2 W0 W)=>clCheck_any A A2 A3 c c2 c3 im.length l.length cl.length im l cl s0 W rfl rfl rfl hs0 (H1.out W hb) (H2.out W hb) (H3.out W hb) hl1 (by omega) (by omega))
 have HOW:=Lib.hid (fun W (hb:Below n2 W0 W)=>own37_any A A2 A3 c c2 c3 im.length l.length cl.length im l cl W rfl rfl rfl (H1.out W hb) (H2.out W hb) (H3.out W hb) HLM.out)
 have HS0:=Lib.hid hs0
 have hB00:=Below.refl n2 W0
 obtain⟨p0,p1,p2⟩:=HC.out W0 hB00
 clear h1 h2 h3 up hB0 hL hr0 hr1 hs0
 have HCE:Hid (chE ((im,l),cl) n9=if s0≠0 then s0 else n9):=by rw [Hid,chE,HS0.out]
 have HCK0:=Lib.hid (HCK.out W0 hB00)
 go_enter Tryz.func73,Tryz.ntmps73
 go_wp2_with fail
 refine HCK0.out.mono ?_
 rintro e w1 ⟨rfl,hb1⟩
 rw [HN2.out] at hb1
 clear p0 p1 p2 HCK0 hn2 hn0 hW0
 by_cases hx0:s0=0
 case neg =>
  have hx0':(s0 != 0)=true:=by simp [hx0]
  have HE:Hid (chE ((im,l),cl) n9=s0):=by rw [Hid,HCE.out,if_pos hx0]
  have HT:Hid (chS ((im,l),cl) s9 n9=zCls):=by rw [Hid,chS,if_neg (by rw [HE.out];exact hx0)]
  clear hx0
  have hr1:=HRR.out w1 hb1
  obtain⟨v0,v1,v2,vf⟩:=blk3 hr1
  go_wp2_with fail
  have hend:=cl_end (w:=w) (x:=zCls) (A:=none) (c:=0) (D:=none) (d:=0) (G:=none) (g:=0) hr1 (by omega) (HBW.out w1 hb1) ClAt.zero s0
  obtain⟨hz,hret⟩:=hend
  change bodyPost _ _ _ _ _ (sw3 w1 (n0+1) (.slice none (zCls).1.1.length 0) (.slice none (zCls).1.2.length 0) (.slice none (zCls).2.length 0))
  generalize sw3 w1 (n0+1) (.slice none (zCls).1.1.length 0) (.slice none (zCls).1.2.length 0) (.slice none (zCls).2.length 0)=W3 at hz hret ⊢
  obtain⟨z0,z1,z2,_⟩:=blk3 hz
  refine bodyPost_ret (v := .tuple #[.agg #[.slice none (zCls).1.1.length 0,.slice none (zCls).1.2.length 0,.slice none (zCls).2.length 0],.int .i64 s0]) ?_ rfl ?_
  ·simp [results,Tryz.results73,Tryz.f73,go_sem,z0,z1,z2,zCls,zSns]
  rw [HT.out,HE.out];exact hret
 have hx0':(s0 != 0)=false:=by simp [hx0]
 rw [if_neg (by simp [hx0])] at HCE
 subst hx0
 obtain⟨p0,p1,p2⟩:=HC.out w1 hb1
 have HO:=Lib.hid (HOW.out w1 hb1)
 go_wp2_with fail
 refine HO.out.mono ?_
 rintro e w5 ⟨B,vc,D,dc,G,gc,m1,m2,rfl,hcr,hb5⟩
 have hbb5:Below n2 W0 w5:=hb1.trans (hb5.mono (by have:=hb1.size;have:=HN2.out;omega))
 clear p0 p1 p2 HO
 obtain⟨ob,hob⟩:∃ ob,w5.heap.size=ob:=⟨_,rfl⟩
 obtain⟨w6,hw6⟩:∃ w6,w5.alloc (.cells #[.slice B im.length vc,.slice D l.length dc,.slice G cl.length gc] 29)=w6:=⟨_,rfl⟩
 have HW6:=Lib.hid hw6
 have hb6:Below ob w5 w6:=by rw [← hw6, ← hob];exact ext_alloc (Below.refl _ _)
 have hr6:w6.heap[ob]? = some (.cells #[.slice B im.length vc,.slice D l.length dc,.slice G cl.length gc] 29 (0,0)):=by rw [← hw6, ← hob];exact heap_alloc_new _ _
 have hle:=hcr.le
 have hz1:=hb1.size
 have hN2:n2≤W0.heap.size:=by have:=HN2.out;omega
 have hz6:ob<w6.heap.size:=(Array.getElem?_eq_some_iff.1 hr6).1
 have hbb6:Below n2 W0 w6:=hbb5.trans (hb6.mono (by omega))
 have HCR:=Lib.hid hcr
 have HCA:=Lib.hid (hcr.at_.keep (S':=fun q=>w.heap.size≤q∧q<w5.heap.size∧n2≤q) (fun _ _=>rfl) (fun q hq=>⟨by have:=hq.1;omega,hq.2,by have:=hq.1;omega⟩))
 have HFF:=Lib.hid (HF.out w6 B D vc dc (HBW.out w6 hbb6) ⟨hcr.im.1,hcr.im.2.1⟩ ⟨hcr.sn.1,hcr.sn.2.1⟩ ((hcr.im.2.2.blk (fun x hx=>hb6.block x (by have:=hx.2;omega))).more (fun x hx=>by have:=hx.2;show x<w6.heap.size;omega)) ((hcr.sn.2.2.blk (fun x hx=>hb6.block x (by have:=hx.2;omega))).more (fun x hx=>by have:=hx.2;show x<w6.heap.size;omega)) HS0.out)
 clear hw6 hcr
 go_upto_region 5 with (fail)
 rw [HW6.out]
 clear HW6
 obtain⟨q0,q1,q2,qf⟩:=blk3 hr6
 go_wp2_with fail
 refine HFF.out.mono ?_
 rintro e w7 ⟨B9,vc9,D9,dc9,rfl,⟨j1,j2,j3⟩,⟨j4,j5,j6⟩,hb7⟩
 have hbb7:Below n2 W0 w7:=hbb6.trans (hb7.mono (by omega))
 have hr7:=(hb7.block ob hz6).trans hr6
 have hz7:=hb7.size
 clear q0 q1 q2 qf HFF
 obtain⟨sb,hsb⟩:∃ sb,w7.heap.size=sb:=⟨_,rfl⟩
 obtain⟨w8,hw8⟩:∃ w8,w7.alloc (.cells #[.slice B9 s9.1.length vc9,.slice D9 s9.2.length dc9] 26)=w8:=⟨_,rfl⟩
 have HW8:=Lib.hid hw8
 have hb8:Below sb w7 w8:=by rw [← hw8, ← hsb];exact ext_alloc (Below.refl _ _)
 have hr8:w8.heap[sb]? = some (.cells #[.slice B9 s9.1.length vc9,.slice D9 s9.2.length dc9] 26 (0,0)):=by rw [← hw8, ← hsb];exact heap_alloc_new _ _
 have hz8:sb<w8.heap.size:=(Array.getElem?_eq_some_iff.1 hr8).1
 have hbb8:Below n2 W0 w8:=hbb7.trans (hb8.mono (by omega))
 have hro8:=(hb8.block ob (by omega)).trans hr7
 have HJ3:=Lib.hid (j3.blk (w':=w8) (fun x hx=>hb8.block x (by have:=hx.2;omega)))
 have HJ6:=Lib.hid (j6.blk (w':=w8) (fun x hx=>hb8.block x (by have:=hx.2;omega)))
 clear hw8 j3 j6
 go_upto_region 6 with (fail)
 rw [HW8.out]
 clear HW8
 by_cases hn9:n9=0
 case neg =>
  have hn9':(n9 != 0)=true:=by simp [hn9]
  have HE:Hid (chE ((im,l),cl) n9=n9):=HCE.out
  have HT:Hid (chS ((im,l),cl) s9 n9=zCls):=by rw [Hid,chS,if_neg (by rw [HE.out];exact hn9)]
  clear hn9 hz9
  have hr18:=HRR.out w8 hbb8
  obtain⟨v0,v1,v2,vf⟩:=blk3 hr18
  go_wp2_with fail
  have hend:=cl_end (w:=w) (x:=zCls) (A:=none) (c:=0) (D:=none) (d:=0) (G:=none) (g:=0) hr18 (by omega) (HBW.out w8 hbb8) ClAt.zero n9
  obtain⟨hz,hret⟩:=hend
  change bodyPost _ _ _ _ _ (sw3 w8 (n0+1) (.slice none (zCls).1.1.length 0) (.slice none (zCls).1.2.length 0) (.slice none (zCls).2.length 0))
  generalize sw3 w8 (n0+1) (.slice none (zCls).1.1.length 0) (.slice none (zCls).1.2.length 0) (.slice none (zCls).2.length 0)=W3 at hz hret ⊢
  obtain⟨z0,z1,z2,_⟩:=blk3 hz
  refine bodyPost_ret (v := .tuple #[.agg #[.slice none (zCls).1.1.length 0,.slice none (zCls).1.2.length 0,.slice none (zCls).2.length 0],.int .i64 n9]) ?_ rfl ?_
  ·simp [results,Tryz.results73,Tryz.f73,go_sem,z0,z1,z2,zCls,zSns]
  rw [HT.out,HE.out];exact hret
 have hn9':(n9 != 0)=false:=by simp [hn9]
 have HE:Hid (chE ((im,l),cl) n9=0):=HCE.out.trans hn9
 have HT:Hid (chS ((im,l),cl) s9 n9=(s9,cl)):=by rw [Hid,chS,if_pos HE.out]
 subst hn9
 clear hz9
 obtain⟨y0,y1,_⟩:=blk2 hr8
 obtain⟨q0,q1,q2,qf⟩:=blk3 hro8
 go_upto_region 9 with (fail)
 clear q0 q1 q2 qf y0 y1
 change Code.wp _ _ _ _ ((w8.setCell ⟨ob,0,none⟩ (.slice B9 s9.1.length vc9)).setCell ⟨ob,1,none⟩ (.slice D9 s9.2.length dc9))
 have hr9:((w8.setCell ⟨ob,0,none⟩ (.slice B9 s9.1.length vc9)).setCell ⟨ob,1,none⟩ (.slice D9 s9.2.length dc9)).heap[ob]? = some (.cells #[.slice B9 s9.1.length vc9,.slice D9 s9.2.length dc9,.slice G cl.length gc] 29 (0,0)):=by
  simp [World.setCell,Array.getElem?_modify,hro8]
 have hk9:∀ x,x≠ob→((w8.setCell ⟨ob,0,none⟩ (.slice B9 s9.1.length vc9)).setCell ⟨ob,1,none⟩ (.slice D9 s9.2.length dc9)).heap[x]? = w8.heap[x]? := fun x hx=>(heap_setCell_other _ _ _ _ hx).trans (heap_setCell_other _ _ _ _ hx)
 have hz9:w8.heap.size≤((w8.setCell ⟨ob,0,none⟩ (.slice B9 s9.1.length vc9)).setCell ⟨ob,1,none⟩ (.slice D9 s9.2.length dc9)).heap.size:=by simp [World.setCell]
 have hb9:Below n2 W0 ((w8.setCell ⟨ob,0,none⟩ (.slice B9 s9.1.length vc9)).setCell ⟨ob,1,none⟩ (.slice D9 s9.2.length dc9)):=(hbb8.setCell (p:=⟨ob,0,none⟩) (by show n2≤ob;omega) _).setCell (p:=⟨ob,1,none⟩) (by show n2≤ob;omega) _
 generalize (w8.setCell ⟨ob,0,none⟩ (.slice B9 s9.1.length vc9)).setCell ⟨ob,1,none⟩ (.slice D9 s9.2.length dc9)=w9 at hr9 hk9 hz9 hb9 ⊢
 have HCL:Hid (ClAt ((s9,cl):Cls) B9 vc9 D9 dc9 G gc (fun q=>w.heap.size≤q∧q<w9.heap.size∧q≠n0+1) w9) :=
  ⟨⟨j1,j2,(HJ3.out.blk (fun x hx=>hk9 x (by have:=hx.1;omega))).more (fun x hx=>⟨by have:=hx.1;omega,by have:=hx.2;omega,by have:=hx.1;omega⟩)⟩,
   ⟨j4,j5,(HJ6.out.blk (fun x hx=>hk9 x (by have:=hx.1;omega))).more (fun x hx=>⟨by have:=hx.1;omega,by have:=hx.2;omega,by have:=hx.1;omega⟩)⟩,
   ⟨HCA.out.cl.1,HCA.out.cl.2.1,(HCA.out.cl.2.2.blk (fun x hx=>(hk9 x (by have:=hx.2.1;omega)).trans ((hb8.block x (by have:=hx.2.1;omega)).trans ((hb7.block x (by have:=hx.2.1;omega)).trans (hb6.block x (by have:=hx.2.1;omega)))))).more (fun x hx=>⟨hx.1,by have:=hx.2.1;omega,by have:=hx.2.2;omega⟩)⟩⟩
 have hr19:=HRR.out w9 hb9
 obtain⟨q0,q1,q2,qf⟩:=blk3 hr9
 obtain⟨v0,v1,v2,vf⟩:=blk3 hr19
 clear hk9 hz9
 go_wp2_with fail
 have hend:=cl_end (w:=w) (x:=((s9,cl):Cls)) (A:=B9) (c:=vc9) (D:=D9) (d:=dc9) (G:=G) (g:=gc) hr19 (by omega) (HBW.out w9 hb9) HCL.out 0
 obtain⟨hz,hret⟩:=hend
 change bodyPost _ _ _ _ _ (sw3 w9 (n0+1) (.slice B9 (((s9,cl):Cls)).1.1.length vc9) (.slice D9 (((s9,cl):Cls)).1.2.length dc9) (.slice G (((s9,cl):Cls)).2.length gc))
 generalize sw3 w9 (n0+1) (.slice B9 (((s9,cl):Cls)).1.1.length vc9) (.slice D9 (((s9,cl):Cls)).1.2.length dc9) (.slice G (((s9,cl):Cls)).2.length gc)=W3 at hz hret ⊢
 obtain⟨z0,z1,z2,_⟩:=blk3 hz
 refine bodyPost_ret (v := .tuple #[.agg #[.slice B9 (((s9,cl):Cls)).1.1.length vc9,.slice D9 (((s9,cl):Cls)).1.2.length dc9,.slice G (((s9,cl):Cls)).2.length gc],.int .i64 0]) ?_ rfl ?_
 ·simp [results,Tryz.results73,Tryz.f73,go_sem,z0,z1,z2,zCls,zSns]
 rw [HT.out,HE.out];exact hret
end Go.Proofs.YtgndgkjefgjamaaGreat
namespace Go.Proofs.YtgndgkjefgjamaaGreat
open Go.RowKit Go.Shelf
attribute [local go_sem] Oper.semAt_some

set_option maxHeartbeats 2000000 in
set_option maxRecDepth 100000 in
theorem replicate1_any (A A2:Option Addr) (c c2 n m:Nat) (im:Img) (l:List Snp) (w:World) (hn:im.length=n) (hm:l.length=m) (h1:SlAt (encSl encSec) w (Bl w.heap.size) A im) (h2:SlAt encSnp w (Bl w.heap.size) A2 l) (hL:SnLim im l) (L:Option Addr) (lc p a:Nat) (ws:List Wr) (hp:ws.length=p) (h3:SlAt encWr w (Bl w.heap.size) L ws) (hwl:p≤1000) (hsv:∀ x∈l,x.2.2.length≤99000) (ha:a<w.heap.size) (hc:w.cell? ⟨a,0,none⟩=some (.slice L p lc)) :
  Calls Tryz.prog 82 #[.agg #[.slice A n c,.slice A2 m c2],.pointer (some ⟨a,0,none⟩)] w (SnRdE (sApply (im,l) ws) (sApplyE (im,l) ws) w):=by
 subst hn hm
 obtain⟨n0,hn0⟩:∃ n0,w.heap.size=n0:=⟨_,rfl⟩
 obtain⟨W0,hW0⟩:∃ W0,(w.alloc (.cells #[.slice A im.length c,.slice A2 l.length c2] 26)).alloc (.cells #[.slice none 0 0,.slice none 0 0] 26)=W0:=⟨_,rfl⟩
 have hB0:Below w.heap.size w W0:=by rw [← hW0];exact ext_alloc (ext_alloc (Below.refl _ _))
 have hs0:n0+1<W0.heap.size:=by rw [← hW0, ← hn0];simp
 have hr0:W0.heap[n0]? = some (.cells #[.slice A im.length c,.slice A2 l.length c2] 26 (0,0)):=by rw [← hW0, ← hn0];exact (Below.heap_alloc _ _ _ (by simp)).trans (heap_alloc_new _ _)
 have hrz0:W0.heap[n0+1]? = some (.cells #[.slice none 0 0,.slice none 0 0] 26 (0,0)):=by rw [← hW0, ← hn0];exact heap_new2 _ _ _
 have hc0:=(hB0.cell (p:=⟨a,0,none⟩) ha).trans hc
 have HC:=Lib.hid (snApply_any A A2 L c c2 lc _ _ p im l ws W0 rfl rfl hp (h1.fwd hB0) (h2.fwd hB0) (h3.fwd hB0) hL hwl hsv);clear h3 hwl hsv
 obtain⟨p0,p1,_⟩:=blk2 hr0
 have HBB:=Lib.hid hB0
 clear h1 h2 hr0 hc hB0
 go_enter Tryz.func82,Tryz.ntmps82
 go_wp2_with fail
 refine HC.out.mono ?_
 intro e w1 he
 obtain⟨B,vc,D,dc,rfl,⟨g1,g2,g3⟩,⟨g4,g5,g6⟩,hb1⟩:=he.rd
 have hrz1:=(hb1.block _ hs0).trans hrz0
 have G3:=Lib.hid g3;have G6:=Lib.hid g6
 have hz1:=hb1.size
 have hbw1:Below w.heap.size w w1:=HBB.out.trans (hb1.mono HBB.out.size)
 obtain⟨q0,q1,_⟩:=blk2 hrz1
 clear p0 p1 hc0 HC he g3 g6 hW0 hrz0
 go_wp2_with fail
 clear q0 q1
 have hend:=sn_end37 (w:=w) hrz1 (by omega) hbw1 (s:=(sApply (im,l) ws)) (B:=B) (D:=D) (vc:=vc) (dc:=dc) ⟨g1,g2,G3.out.more (fun q hq=>⟨by have:=hq.1;omega,by have:=hq.2;omega,by have:=hq.1;omega⟩)⟩ ⟨g4,g5,G6.out.more (fun q hq=>⟨by have:=hq.1;omega,by have:=hq.2;omega,by have:=hq.1;omega⟩)⟩ (sApplyE (im,l) ws)
 obtain⟨hz,hret⟩:=hend
 change bodyPost _ _ _ _ _ ((w1.setCell ⟨n0+1,0,none⟩ (.slice B ((sApply (im,l) ws)).1.length vc)).setCell ⟨n0+1,1,none⟩ (.slice D ((sApply (im,l) ws)).2.length dc))
 generalize (w1.setCell ⟨n0+1,0,none⟩ (.slice B ((sApply (im,l) ws)).1.length vc)).setCell ⟨n0+1,1,none⟩ (.slice D ((sApply (im,l) ws)).2.length dc)=W3 at hz hret ⊢
 obtain⟨z0,z1,_⟩:=blk2 hz
 refine bodyPost_ret (v := .tuple #[.agg #[.slice B ((sApply (im,l) ws)).1.length vc,.slice D ((sApply (im,l) ws)).2.length dc],.int .i64 (sApplyE (im,l) ws)]) ?_ rfl ?_
 ·simp [results,Tryz.results82,Tryz.f82,go_sem,z0,z1]
 exact hret
set_option maxHeartbeats 2000000 in
set_option maxRecDepth 100000 in
theorem take1_any (A A2:Option Addr) (c c2 n m:Nat) (im:Img) (l:List Snp) (w:World) (hn:im.length=n) (hm:l.length=m) (h1:SlAt (encSl encSec) w (Bl w.heap.size) A im) (h2:SlAt encSnp w (Bl w.heap.size) A2 l) (hL:SnLim im l) (num tm:Int) (a a2:Nat) (hi:I64 num∧I64 tm) (ha:a<w.heap.size) (hc:w.cell? ⟨a,0,none⟩=some (.int .i64 num)) (ha2:a2<w.heap.size) (hc2:w.cell? ⟨a2,0,none⟩=some (.int .i64 tm)) :
  Calls Tryz.prog 85 #[.agg #[.slice A n c,.slice A2 m c2],.pointer (some ⟨a,0,none⟩),.pointer (some ⟨a2,0,none⟩)] w (SnRdE (takeS (im,l) num tm) (takeE (im,l) num tm) w):=by
 subst hn hm
 obtain⟨n0,hn0⟩:∃ n0,w.heap.size=n0:=⟨_,rfl⟩
 obtain⟨W0,hW0⟩:∃ W0,(w.alloc (.cells #[.slice A im.length c,.slice A2 l.length c2] 26)).alloc (.cells #[.slice none 0 0,.slice none 0 0] 26)=W0:=⟨_,rfl⟩
 have hB0:Below w.heap.size w W0:=by rw [← hW0];exact ext_alloc (ext_alloc (Below.refl _ _))
 have hs0:n0+1<W0.heap.size:=by rw [← hW0, ← hn0];simp
 have hr0:W0.heap[n0]? = some (.cells #[.slice A im.length c,.slice A2 l.length c2] 26 (0,0)):=by rw [← hW0, ← hn0];exact (Below.heap_alloc _ _ _ (by simp)).trans (heap_alloc_new _ _)
 have hrz0:W0.heap[n0+1]? = some (.cells #[.slice none 0 0,.slice none 0 0] 26 (0,0)):=by rw [← hW0, ← hn0];exact heap_new2 _ _ _
 have hc0:=(hB0.cell (p:=⟨a,0,none⟩) ha).trans hc
 have hc20:=(hB0.cell (p:=⟨a2,0,none⟩) ha2).trans hc2;have HC:=Lib.hid (snTake_any A A2 c c2 _ _ im l num tm W0 rfl rfl (h1.fwd hB0) (h2.fwd hB0) hL hi);clear hc2
 obtain⟨p0,p1,_⟩:=blk2 hr0
 have HBB:=Lib.hid hB0
 clear h1 h2 hr0 hc hB0
 go_enter Tryz.func85,Tryz.ntmps85
 go_wp2_with fail
 refine HC.out.mono ?_
 intro e w1 he
 obtain⟨B,vc,D,dc,rfl,⟨g1,g2,g3⟩,⟨g4,g5,g6⟩,hb1⟩:=he.rd
 have hrz1:=(hb1.block _ hs0).trans hrz0
 have G3:=Lib.hid g3;have G6:=Lib.hid g6
 have hz1:=hb1.size
 have hbw1:Below w.heap.size w w1:=HBB.out.trans (hb1.mono HBB.out.size)
 obtain⟨q0,q1,_⟩:=blk2 hrz1
 clear p0 p1 hc0 HC he g3 g6 hW0 hrz0
 go_wp2_with fail
 clear q0 q1
 have hend:=sn_end37 (w:=w) hrz1 (by omega) hbw1 (s:=(takeS (im,l) num tm)) (B:=B) (D:=D) (vc:=vc) (dc:=dc) ⟨g1,g2,G3.out.more (fun q hq=>⟨by have:=hq.1;omega,by have:=hq.2;omega,by have:=hq.1;omega⟩)⟩ ⟨g4,g5,G6.out.more (fun q hq=>⟨by have:=hq.1;omega,by have:=hq.2;omega,by have:=hq.1;omega⟩)⟩ (takeE (im,l) num tm)
 obtain⟨hz,hret⟩:=hend
 change bodyPost _ _ _ _ _ ((w1.setCell ⟨n0+1,0,none⟩ (.slice B ((takeS (im,l) num tm)).1.length vc)).setCell ⟨n0+1,1,none⟩ (.slice D ((takeS (im,l) num tm)).2.length dc))
 generalize (w1.setCell ⟨n0+1,0,none⟩ (.slice B ((takeS (im,l) num tm)).1.length vc)).setCell ⟨n0+1,1,none⟩ (.slice D ((takeS (im,l) num tm)).2.length dc)=W3 at hz hret ⊢
 obtain⟨z0,z1,_⟩:=blk2 hz
 refine bodyPost_ret (v := .tuple #[.agg #[.slice B ((takeS (im,l) num tm)).1.length vc,.slice D ((takeS (im,l) num tm)).2.length dc],.int .i64 (takeE (im,l) num tm)]) ?_ rfl ?_
 ·simp [results,Tryz.results85,Tryz.f85,go_sem,z0,z1]
 exact hret
end Go.Proofs.YtgndgkjefgjamaaGreat
namespace Go.Proofs.YtgndgkjefgjamaaGreat
open Go.RowKit Go.Shelf
attribute [local go_sem] Oper.semAt_some

theorem drop11_any (num:Int) (nb:Nat) (x:Cln) (D:Option Addr) (d m:Nat) (w:World) (q:Bool) (hm:x.2.2.length=m) (hq:isC num x=q) (hc:w.cell? ⟨nb,0,none⟩=some (.int .i64 num)) (hnb:nb<w.heap.size) :
  Calls Tryz.prog 76 #[.agg #[.string x.1,.int .i64 x.2.1,.slice D m d],.pointer (some ⟨nb,0,none⟩)] w fun e w'=>e = .returned (.bool q)∧Below w.heap.size w w':=by
 obtain⟨W0,hW0⟩:∃ W0,w.alloc (.cells #[.string x.1,.int .i64 x.2.1,.slice D m d] 87)=W0:=⟨_,rfl⟩
 have hB0:Below w.heap.size w W0:=by rw [← hW0];exact ext_alloc (Below.refl _ _)
 have hr0:W0.heap[w.heap.size]? = some (.cells #[.string x.1,.int .i64 x.2.1,.slice D m d] 87 (0,0)):=by rw [← hW0];exact heap_alloc_new _ _
 have hc0:=(hB0.cell (p:=⟨nb,0,none⟩) hnb).trans hc
 have hqq:Hid ((x.2.1==num)=q):=hq
 obtain⟨r0,r1,r2,_⟩:=blk3 hr0
 clear hr0 hm hq
 go_enter Tryz.func76,Tryz.ntmps76
 go_wp2
 go_ret
 exact⟨ret_bool hqq.out,hB0⟩
set_option maxHeartbeats 1000000 in
theorem drpAt_any (A:Option Addr) (c n:Nat) (l:List _) (w:World) (hn:l.length=n) (h1:SlAt encCln w (Bl w.heap.size) A l) (hl:n≤9223372036854775807) (num:Int) (nb:Nat) (hnb:w.cell? ⟨nb,0,none⟩=some (.int .i64 num)) (hnl:nb<w.heap.size) (r:Int) (hr:idxAt (isC num) l=r) :
  Calls Tryz.prog 100 #[.slice A n c,.func (.func 76) #[] #[.pointer (some ⟨nb,0,none⟩)]] w fun e w'=>e = .returned (.int .i64 r)∧Below w.heap.size w w':=by
 subst hn
 have HR:=Lib.hid hr;clear hr
 have H1:Hid (∀ w',Below w.heap.size w w'→SlAt encCln w' (Bl w.heap.size) A l):=fun w' hb=>h1.below hb
 clear h1
 have HNB:Hid (∀ W,Below w.heap.size w W→W.cell? ⟨nb,0,none⟩=some (.int .i64 num)):=fun W hb=>(hb.cell (p:=⟨nb,0,none⟩) hnl).trans hnb;clear hnb
 go_enter Tryz.func100,Tryz.ntmps100
 go_wp2
 go_loopw [8] (fun i wr=>∃ k:Nat,k≤l.length∧i = .int .i64 k∧Below w.heap.size w wr∧Hid (idxAt (isC num) l=(idxAt (isC num) (l.drop k))+(if 0≤idxAt (isC num) (l.drop k) then (k:Int) else 0))) (fun i _=>l.length - (intOf i).toNat)
 case atStart=>exact⟨0,by omega,rfl,Below.refl _ _,by simp [Hid]⟩
 case round =>
  obtain⟨k,hk,rfl,hB,hz⟩:=hrel
  by_cases hlt:k<l.length
  ·have hnn:(0:Int)≤k:=by omega
   have hki:(k:Int)<l.length:=by omega
   have hszr:=hB.size
   have hst:=idxAt_drop (P:=(isC num)) hlt
   obtain⟨b,off,D,d,rfl,hb,g0,g1,g2,_,_,_,_,_⟩:=(H1.out wr hB).cln hlt
   obtain⟨q,hq⟩:∃ q,Hid ((isC num) l[k]=q):=⟨(isC num) l[k],Lib.hid rfl⟩
   rw [hq.out] at hst
   have HST:=Lib.hid hst
   clear hst
   go_wp2_with fail
   refine (drop11_any num nb l[k] D d l[k].2.2.length wr q rfl hq.out (HNB.out wr hB) (by omega)).mono ?_
   rintro e w1 ⟨rfl,hb1⟩;clear g0 g1 g2
   have hB1:Below w.heap.size w w1:=ext_trans hB hb1
   cases q with
   | true =>
     go_wp2
     go_ret
     refine⟨ret_int ?_,hB1⟩
     rw [← HR.out,hz.out,HST.out];simp
   | false =>
     go_wp2
     go_roundw
     case rel =>
      refine⟨k+1,hlt,by go_num,hB1, ?_⟩
      rw [Hid,hz.out,HST.out]
      rw [if_neg (by decide:¬ false=true)]
      rcases idxAt_cases (isC num) (l.drop (k+1)) with hp | hp
      ·rw [hp];simp
      ·rw [if_pos hp,if_pos hp,if_pos (by omega)];omega
     case measure=>simp [intOf];omega
  ·have hkk:k=l.length:=by omega
   subst hkk
   go_wp2
   go_ret
   refine⟨ret_int ?_,hB⟩
   rw [← HR.out,hz.out,List.drop_length];simp [idxAt]
theorem contCln_any (A:Option Addr) (c n:Nat) (l:List Cln) (w:World) (hn:l.length=n) (h1:SlAt encCln w (Bl w.heap.size) A l) (hl:n≤9223372036854775807) (num:Int) (nb:Nat) (hnb:w.cell? ⟨nb,0,none⟩=some (.int .i64 num)) (hnl:nb<w.heap.size) (q:Bool) (hq:l.any (isC num)=q) :
  Calls Tryz.prog 75 #[.slice A n c,.func (.func 76) #[] #[.pointer (some ⟨nb,0,none⟩)]] w fun e w'=>e = .returned (.bool q)∧Below w.heap.size w w':=by
 obtain⟨i,hi⟩:∃ i,idxAt (isC num) l=i:=⟨_,rfl⟩
 have HIX:=Lib.hid (drpAt_any A c n l w hn h1 hl num nb hnb hnl i hi)
 have hqi:Hid (decide (0≤i)=q):=by rw [Hid, ← hi,idxAt_any];exact hq
 clear h1 hn hi hq hnb
 go_enter Tryz.func75,Tryz.ntmps75
 go_wp2_with fail
 refine HIX.out.mono ?_
 rintro e w1 ⟨rfl,hb1⟩
 go_wp2
 go_ret
 exact⟨ret_bool hqi.out,hb1⟩
def drS (c:Cls) (n:Int):Sns:=if c.2.any (isC n)=true then zSns else sDelete c.1 n
def drE (c:Cls) (n:Int):Int:=if c.2.any (isC n)=true then 26 else findE c.1 n
set_option maxHeartbeats 2000000 in
set_option maxRecDepth 100000 in
theorem drop1_any (A A2 A3:Option Addr) (c c2 c3 n m p a a2:Nat) (im:Img) (l:List Snp) (cl:List Cln) (num:Int) (w:World) (u0 u1:Value) (hn:im.length=n) (hm:l.length=m) (hp:cl.length=p) (h1:SlAt (encSl encSec) w (Bl w.heap.size) A im) (h2:SlAt encSnp w (Bl w.heap.size) A2 l) (hL:SnLim im l) (hsv:∀ x∈l,x.2.2.length≤50000) (h3:SlAt encCln w (Bl w.heap.size) A3 cl) (hl3:p≤1000) (ha:a<w.heap.size) (hra:w.heap[a]? = some (.cells #[u0,u1,.slice A3 p c3] 29 (0,0))) (ha2:a2<w.heap.size) (hc2:w.cell? ⟨a2,0,none⟩=some (.int .i64 num)) :
  Calls Tryz.prog 74 #[.agg #[.slice A n c,.slice A2 m c2],.pointer (some ⟨a,0,none⟩),.pointer (some ⟨a2,0,none⟩)] w (SnRdE (drS ((im,l),cl) num) (drE ((im,l),cl) num) w):=by
 subst hn hm hp
 obtain⟨n0,hn0⟩:∃ n0,w.heap.size=n0:=⟨_,rfl⟩
 obtain⟨W0,hW0⟩:∃ W0,(w.alloc (.cells #[.slice A im.length c,.slice A2 l.length c2] 26)).alloc (.cells #[.slice none 0 0,.slice none 0 0] 26)=W0:=⟨_,rfl⟩
 have hB0:Below w.heap.size w W0:=by rw [← hW0];exact ext_alloc (ext_alloc (Below.refl _ _))
 have hs0:n0+1<W0.heap.size:=by rw [← hW0, ← hn0];simp
 have hr0:W0.heap[n0]? = some (.cells #[.slice A im.length c,.slice A2 l.length c2] 26 (0,0)):=by rw [← hW0, ← hn0];exact (Below.heap_alloc _ _ _ (by simp)).trans (heap_alloc_new _ _)
 have hrz0:W0.heap[n0+1]? = some (.cells #[.slice none 0 0,.slice none 0 0] 26 (0,0)):=by rw [← hW0, ← hn0];exact heap_new2 _ _ _
 obtain⟨_,_,ca,_⟩:=blk3 ((hB0.block a ha).trans hra)
 have hc20:=(hB0.cell (p:=⟨a2,0,none⟩) ha2).trans hc2
 obtain⟨q,hq⟩:∃ q,cl.any (isC num)=q:=⟨_,rfl⟩
 have HCT:=Lib.hid (contCln_any A3 c3 cl.length cl W0 rfl (h3.fwd hB0) (by omega) num a2 hc20 (by have:=hB0.size;omega) q hq)
 have HB0:=Lib.hid hB0
 have HQ:=Lib.hid hq
 have H1:=Lib.hid h1;have H2:=Lib.hid h2;have HLM:=Lib.hid hL;have HSV:=Lib.hid hsv
 have HC2:=Lib.hid hc2
 have HR0:=Lib.hid hr0;have HRZ:=Lib.hid hrz0
 have hzz:=hB0.size
 clear h1 h2 h3 hL hsv hra hc2 hr0 hrz0 hq hB0
 go_enter Tryz.func74,Tryz.ntmps74
 go_wp2_with fail
 refine HCT.out.mono ?_
 rintro e w1 ⟨rfl,hb1⟩
 have hz1:=hb1.size
 have hbw1:Below w.heap.size w w1:=HB0.out.trans (hb1.mono HB0.out.size)
 have hrz1:=(hb1.block _ hs0).trans HRZ.out
 clear ca hc20 HCT hW0
 cases q with
 | true =>
   have HS:Hid (drS ((im,l),cl) num=zSns):=by rw [Hid,drS,if_pos HQ.out]
   have HE:Hid (drE ((im,l),cl) num=26):=by rw [Hid,drE,if_pos HQ.out]
   obtain⟨q0,q1,_⟩:=blk2 hrz1
   go_wp2_with fail
   clear q0 q1
   have hend:=sn_end37 (w:=w) hrz1 (by omega) hbw1 (s:=zSns) (B:=none) (D:=none) (vc:=0) (dc:=0) ⟨by simp [zSns],Nat.zero_le _,SlAt.nil_⟩ ⟨by simp [zSns],Nat.zero_le _,SlAt.nil_⟩ 26
   obtain⟨hz,hret⟩:=hend
   change bodyPost _ _ _ _ _ ((w1.setCell ⟨n0+1,0,none⟩ (.slice none (zSns).1.length 0)).setCell ⟨n0+1,1,none⟩ (.slice none (zSns).2.length 0))
   generalize (w1.setCell ⟨n0+1,0,none⟩ (.slice none (zSns).1.length 0)).setCell ⟨n0+1,1,none⟩ (.slice none (zSns).2.length 0)=W3 at hz hret ⊢
   obtain⟨z0,z1,_⟩:=blk2 hz
   refine bodyPost_ret (v := .tuple #[.agg #[.slice none (zSns).1.length 0,.slice none (zSns).2.length 0],.int .i64 26]) ?_ rfl ?_
   ·simp [results,Tryz.results74,Tryz.f74,go_sem,z0,z1]
   rw [HS.out,HE.out];exact hret
 | false =>
   have HS:Hid (drS ((im,l),cl) num=sDelete (im,l) num):=by rw [Hid,drS,if_neg (by rw [HQ.out];decide)]
   have HE:Hid (drE ((im,l),cl) num=findE (im,l) num):=by rw [Hid,drE,if_neg (by rw [HQ.out];decide)]
   have HDL:=Lib.hid (snDelete_any A A2 c c2 _ _ im l num w1 rfl rfl (H1.out.fwd hbw1) (H2.out.fwd hbw1) HLM.out HSV.out)
   obtain⟨p0,p1,_⟩:=blk2 ((hb1.block n0 (by omega)).trans HR0.out)
   have hc21:=(hbw1.cell (p:=⟨a2,0,none⟩) ha2).trans HC2.out
   go_wp2_with fail
   refine HDL.out.mono ?_
   intro e w2 he
   obtain⟨B,vc,D,dc,rfl,⟨g1,g2,g3⟩,⟨g4,g5,g6⟩,hb2⟩:=he.rd
   have hrz2:=(hb2.block (n0+1) (by omega)).trans hrz1
   have G3:=Lib.hid g3;have G6:=Lib.hid g6
   have hz2:=hb2.size
   have hbw2:Below w.heap.size w w2:=hbw1.trans (hb2.mono (by omega))
   obtain⟨q0,q1,_⟩:=blk2 hrz2
   clear p0 p1 hc21 HDL he g3 g6 hrz1
   go_wp2_with fail
   clear q0 q1
   have hend:=sn_end37 (w:=w) hrz2 (by omega) hbw2 (s:=(sDelete (im,l) num)) (B:=B) (D:=D) (vc:=vc) (dc:=dc) ⟨g1,g2,G3.out.more (fun q hq=>⟨by have:=hq.1;omega,by have:=hq.2;omega,by have:=hq.1;omega⟩)⟩ ⟨g4,g5,G6.out.more (fun q hq=>⟨by have:=hq.1;omega,by have:=hq.2;omega,by have:=hq.1;omega⟩)⟩ (findE (im,l) num)
   obtain⟨hz,hret⟩:=hend
   change bodyPost _ _ _ _ _ ((w2.setCell ⟨n0+1,0,none⟩ (.slice B ((sDelete (im,l) num)).1.length vc)).setCell ⟨n0+1,1,none⟩ (.slice D ((sDelete (im,l) num)).2.length dc))
   generalize (w2.setCell ⟨n0+1,0,none⟩ (.slice B ((sDelete (im,l) num)).1.length vc)).setCell ⟨n0+1,1,none⟩ (.slice D ((sDelete (im,l) num)).2.length dc)=W3 at hz hret ⊢
   obtain⟨z0,z1,_⟩:=blk2 hz
   refine bodyPost_ret (v := .tuple #[.agg #[.slice B ((sDelete (im,l) num)).1.length vc,.slice D ((sDelete (im,l) num)).2.length dc],.int .i64 (findE (im,l) num)]) ?_ rfl ?_
   ·simp [results,Tryz.results74,Tryz.f74,go_sem,z0,z1]
   rw [HS.out,HE.out];exact hret
end Go.Proofs.YtgndgkjefgjamaaGreat

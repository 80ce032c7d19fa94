/-
  The law of a run: a clone differs from its snapshot only in the sectors that Changed returns.; How the types of this program read; the closed facts on it.; How events over clones read.
-/
import Derived.BigQuiet
import Derived.Deep.DeepCutAuto
import Derived.Test.YtgndgkjefgjamaaGreatRows
import Derived.Test.YtgndgkjefgjamaaGreatV01
import Derived.Test.YtgndgkjefgjamaaGreatV02
import Derived.Test.YtgndgkjefgjamaaGreatV03
import Derived.Test.YtgndgkjefgjamaaGreatV04
import Derived.Test.YtgndgkjefgjamaaGreatV05
import Derived.Test.YtgndgkjefgjamaaGreatV06
import Derived.Test.YtgndgkjefgjamaaGreatV07
import Derived.Test.YtgndgkjefgjamaaGreatV08
import Derived.Test.YtgndgkjefgjamaaGreatV09
import Derived.Test.YtgndgkjefgjamaaGreatV10
import Derived.Test.YtgndgkjefgjamaaGreatV11
import Derived.Test.YtgndgkjefgjamaaGreatV12
import Derived.Test.YtgndgkjefgjamaaGreatV13
import Derived.Test.YtgndgkjefgjamaaGreatV14
import Derived.Test.YtgndgkjefgjamaaGreatV15
import Derived.Test.YtgndgkjefgjamaaGreatV16
import Derived.Test.YtgndgkjefgjamaaGreatV17
import Derived.Test.YtgndgkjefgjamaaGreatV18
import Derived.Test.YtgndgkjefgjamaaGreatV19
set_option linter.unusedVariables false
set_option linter.unusedSimpArgs false
set_option linter.unusedSectionVars false
set_option linter.unnecessarySimpa false
namespace Go.Proofs.YtgndgkjefgjamaaGreat
open Go.RowKit Go.Shelf
attribute [local go_sem] Oper.semAt_some

section
variable {a:Int} {k:Nat} {s:CSt} {A D G:Option Addr} {c d g:Nat} {W:World} {n:Int}
theorem csChanged (h:CInv [a,4] k s) (ha:1≤a∧a≤12) (hk:k≤1000) (hc:ClAt s.c A c D d G g (Bl W.heap.size) W) {nm:ByteArray} {r:List (List Ext)} (hr:chgS s.c nm=r) (he:cfE s.c nm=n) :
  Calls Tryz.prog 28 #[.agg #[.slice A s.c.1.1.length c,.slice D s.c.1.2.length d,.slice G s.c.2.length g],.string nm] W (RetSlN (encSl encExt) r n W) :=
 clChanged_any A D G c d g _ _ _ s.c.1.1 s.c.1.2 s.c.2 nm W rfl rfl rfl hc.im.2.2 hc.sn.2.2 hc.cl.2.2 (h.lim ha hk).1 r hr n he
end
theorem chg_len (c:Cls) (nm:ByteArray) (v:Nat) (h:v<(chgS c nm).length):((chgS c nm)[v]).length≤4096:=by
 by_cases he:cfE c nm=0
 ·have h2:(chgS c nm)[v]=runsL (secsOf (cAt c nm).2.2 v):=by simp only [chgS,if_pos he,List.getElem_map,List.getElem_range]
  rw [h2];exact secs_len _ _
 ·rw [chgS,if_neg he] at h;cases h
theorem wpAnyU_opG {P:Program} {ops:Array Oper} {Q:Exit→Act→World→Prop} {md:Region.Mode} {S:World→Prop} {k i:Nat} {o:Oper} {fuel:Nat} {listed:Array Bool} {a:Act} {w:World} (hr:Region.ready md ops listed=[i]) (ho:ops[i]? = some o) (hw:Region.wanted o (yielded ops a.tmps)=true)
  (h:∀ K':Act→World→Prop,Shut (∀ a w,(i≠k→S w)→wpAnyU P md ops Q S k fuel (listed.setIfInBounds i true) a w→K' a w)→Oper.wp P o a w K' Q) :
  wpAnyU P md ops Q S k (fuel+1) listed a w :=
 wpAnyU_one hr ho (fun K' hK=>by rw [if_pos hw];exact h K' hK)
set_option maxHeartbeats 8000000 in
set_option maxRecDepth 100000 in
theorem differs37_any (A:Option Addr) (c n:Nat) (sz:Int) (es:List CEv) (w:World) (hn:es.length=n) (h0:SlAt encEv w (Bl w.heap.size) A es) (hl:n≤9223372036854775807) (hsz:0≤sz∧sz<256) (wh:Int) (hwh:0≤wh∧wh<256) :
  Calls Tryz.prog 9 #[.int .u8 sz,.slice A n c,.int .u8 wh] w fun e w'=>e = .returned (.bool true)∧Below w.heap.size w w':=by
 obtain⟨q,hq⟩:∃ q,smallEv es=q:=⟨_,rfl⟩
 have HSM:=Lib.hid (small37_any A c n es w hn h0 hl q hq)
 have H0:=Lib.hid h0
 have HQ:=Lib.hid hq
 clear hq h0
 go_enter Tryz.func9,Tryz.ntmps9
 go_wp2_with fail
 refine HSM.out.mono ?_
 rintro e w1 ⟨rfl,hw1⟩
 have hw2:=hw1.symm
 clear hw1 HSM
 subst hw2
 cases q with
 | false =>
   go_wp2_with fail
   refine (awake37_any _).mono ?_
   rintro e wz ⟨rfl,hbz⟩
   go_wp2
   go_ret
   exact⟨rfl,hbz⟩
 | true =>
   obtain⟨hs1,hs2⟩:=smallEv_iff.1 HQ.out
   have HRN:=Lib.hid (run37_any A c n sz (1+sz % 12) es _ w hn H0.out (by omega) hs1 hsz rfl rfl)
   have hz0:sizesN [1+sz % 12,4]=0:=by
    unfold sizesN
    rw [if_neg (by simp),if_neg]
    simp [badSz]
    omega
   have hlen:lens ([1+sz % 12,4].map zimg)=[1+sz % 12,4]:=by
    simp [lens,lenI,zimg]
    omega
   subst hn
   have HINV:=Lib.hid (cRun_inv (es:=es) hlen hz0 es.length (Nat.le_refl _) (by omega))
   have ha12:1≤1+sz % 12∧1+sz % 12≤12:=by omega
   have hl30:es.length≤30:=hs2
   clear hs1 hs2 HQ hz0 hlen
   go_wp2_with fail
   refine HRN.out.mono ?_
   rintro e w2 ⟨row,A',c',D',d',G',g',B',bc',sa',sc',ca',cc',rfl,hR,hM,hb2⟩
   clear HRN
   -- the run's state is laid into a variable (block xb, world w3)
   obtain⟨xb,hxb⟩:∃ xb,w2.heap.size=xb:=⟨_,rfl⟩
   obtain⟨wz,hwz⟩:∃ W,w2.alloc (.cells #[.slice none 0 0,.slice none 0 0,.slice none 0 0,.slice none 0 0,.slice none 0 0,.slice none 0 0,.slice none 0 0,.slice none 0 0,.slice none 0 0,.slice none 0 0,.slice none 0 0,.slice none 0 0,.slice none 0 0,.slice none 0 0,.slice none 0 0,.slice none 0 0,.slice none 0 0,.slice none 0 0,.slice none 0 0,.slice none 0 0,.slice none 0 0,.slice none 0 0,.slice none 0 0,.slice none 0 0,.slice none 0 0,.slice none 0 0,.slice none 0 0,.slice none 0 0,.slice none 0 0,.slice none 0 0,.slice none 0 0,.slice none 0 0,.slice none 0 0,.slice none 0 0,.slice none 0 0,.slice none 0 0,.slice none 0 0,.slice none 0 0,.slice none 0 0,.slice none 0 0,.slice none 0 0,.slice none 0 0,.slice none 0 0,.slice none 0 0,.int .i64 0,.slice none 0 0,.slice none 0 0,.slice none 0 0,.slice none 0 0,.bool false,.bool false,.bool false,.bool false,.bool false] 79)=W:=⟨_,rfl⟩
   have hrz:wz.heap[xb]? = some (.cells #[.slice none 0 0,.slice none 0 0,.slice none 0 0,.slice none 0 0,.slice none 0 0,.slice none 0 0,.slice none 0 0,.slice none 0 0,.slice none 0 0,.slice none 0 0,.slice none 0 0,.slice none 0 0,.slice none 0 0,.slice none 0 0,.slice none 0 0,.slice none 0 0,.slice none 0 0,.slice none 0 0,.slice none 0 0,.slice none 0 0,.slice none 0 0,.slice none 0 0,.slice none 0 0,.slice none 0 0,.slice none 0 0,.slice none 0 0,.slice none 0 0,.slice none 0 0,.slice none 0 0,.slice none 0 0,.slice none 0 0,.slice none 0 0,.slice none 0 0,.slice none 0 0,.slice none 0 0,.slice none 0 0,.slice none 0 0,.slice none 0 0,.slice none 0 0,.slice none 0 0,.slice none 0 0,.slice none 0 0,.slice none 0 0,.slice none 0 0,.int .i64 0,.slice none 0 0,.slice none 0 0,.slice none 0 0,.slice none 0 0,.bool false,.bool false,.bool false,.bool false,.bool false] 79 (0,0)):=by rw [← hwz, ← hxb];exact heap_alloc_new _ _
   have hbz:Below w.heap.size w wz:=by rw [← hwz];exact hb2.alloc hb2.size _
   have hkz2:∀ q,q<w2.heap.size→wz.heap[q]? = w2.heap[q]? := by rw [← hwz];exact fun q hq=>Below.heap_alloc _ _ _ hq
   have hszz:wz.heap.size=xb+1:=by rw [← hwz, ← hxb];simp
   have HRZ:=Lib.hid hrz
   have HKZ:=Lib.hid hkz2
   have HSZ:=Lib.hid hszz
   have HXW:Hid (w.heap.size≤xb):=by rw [← hxb];exact hb2.size
   have HRS:=Lib.hid hR
   have HMS:=Lib.hid hM
   have HAL:=Lib.hid (st_all hR)
   clear hrz hkz2 hszz hR hM
   go_upto_region 4 with (first | (refine wpList_store_row rfl 79 _ _ rfl xb row rfl rfl 79 _ HRZ.out HAL.out.2 (st_size HAL.out.2 (by kernel_rfl) (by kernel_rfl)) HAL.out.1 ?_) | fail)
   obtain⟨w3,hw3⟩:∃ W,wz.setRow xb row=W:=⟨_,rfl⟩
   have HROW3:Hid (w3.heap[xb]? = some (.cells row 79 (0,0))):=by rw [← hw3];exact setRow_heap wz xb _ row _ _ HRZ.out
   have hB3:Below w.heap.size w w3:=by rw [← hw3];exact below_setRow hbz HXW.out row
   have hx3:xb<w3.heap.size:=by rw [← hw3,setRow_size,HSZ.out];omega
   have HM3:Hid (StM (cRun ([1+sz % 12,4].map zimg) es es.length) A' c' D' d' G' g' B' bc' sa' sc' ca' cc' (fun q=>q≠xb∧q<w3.heap.size) w3):=HMS.out.keep (fun q hq=>by
    have h1:q<w2.heap.size:=hq
    rw [← hw3];exact (setRow_other wz xb q row (by omega)).trans (HKZ.out q h1)) (fun q hq=>by
    have h1:q<w2.heap.size:=hq
    exact⟨by omega,by rw [← hw3,setRow_size,HSZ.out];omega⟩)
   rw [hw3]
   clear hw3 HRZ HKZ HSZ hwz hbz HMS hxb hb2
   obtain⟨s,hs⟩:∃ s,cRun ([1+sz % 12,4].map zimg) es es.length=s:=⟨_,rfl⟩
   rw [hs] at HINV HM3 HRS
   have hlm:=HINV.out.lim ha12 (by omega)
   obtain⟨i,hi⟩:∃ i:Nat,wh % 4=i:=⟨(wh % 4).toNat,by omega⟩
   have hi4:i<4:=by omega
   have hi0:(0:Int)≤i:=by omega
   have hi9:(i:Int)<4:=by omega
   have hmod:wh.tmod 4=(i:Int):=by rw [Int.tmod_eq_emod_of_nonneg hwh.1];exact hi
   have HC:Hid (∀ W,Below w3.heap.size w3 W→W.cell? ⟨xb,0,none⟩=some (.slice A' s.c.1.1.length c')∧W.cell? ⟨xb,1,none⟩=some (.slice D' s.c.1.2.length d')∧W.cell? ⟨xb,2,none⟩=some (.slice G' s.c.2.length g')):=fun W hb=>by
    have hr:=(hb.block xb hx3).trans HROW3.out
    rw [HRS.out] at hr
    obtain⟨h0,h1,h2,h3,h4,h5,h6,h7,h8,h9,h10,h11,h12,h13,h14,h15,h16,h17,h18,h19,h20,h21,h22,h23,h24,h25,h26,h27,h28,h29,h30,h31,h32,h33,h34,h35,h36,h37,h38,h39,h40,h41,h42,h43,h44,h45,h46,h47,h48,h49,h50,h51,h52,h53,hf⟩:=blk54 hr
    exact⟨h0,h1,h2⟩
   have HTH:Hid (w3.cell? ⟨xb,49+i,none⟩=some (.bool (s.th i))):=by
    have hr:=HROW3.out
    rw [HRS.out] at hr
    obtain⟨h0,h1,h2,h3,h4,h5,h6,h7,h8,h9,h10,h11,h12,h13,h14,h15,h16,h17,h18,h19,h20,h21,h22,h23,h24,h25,h26,h27,h28,h29,h30,h31,h32,h33,h34,h35,h36,h37,h38,h39,h40,h41,h42,h43,h44,h45,h46,h47,h48,h49,h50,h51,h52,h53,hf⟩:=blk54 hr
    clear hr HM3 hs hi hmod HC HROW3
    match i,hi4 with
    | 0,_=>exact h49
    | 1,_=>exact h50
    | 2,_=>exact h51
    | 3,_=>exact h52
   have HCL:Hid (∀ W,Below w3.heap.size w3 W→ClAt s.c A' c' D' d' G' g' (Bl W.heap.size) W):=fun W hb=>HM3.out.cls.keep (fun q hq=>hb.block q hq.2) (fun q hq=>by have:=hq.2;have:=hb.size;show q<W.heap.size;omega)
   have hth:=HTH.out
   clear hs hi
   cases hq:s.th i with
   | false =>
     rw [hq] at hth
     go_wp2_with fail
     refine (awake37_any _).mono ?_
     rintro e wz ⟨rfl,hbz⟩
     go_wp2
     go_ret
     exact⟨rfl,ext_trans hB3 hbz⟩
   | true =>
     rw [hq] at hth
     obtain⟨j,hj,d1,d2,d3,d4,o,ex,d5,d6,d7,d8,d9,d10⟩:=HINV.out.differs2 ha12 hi4 hq
     have HIM:=Lib.hid (fun W (hb:Below w3.heap.size w3 W)=>csImage HINV.out ha12 (by omega) (HCL.out W hb) d2 d1)
     have HCH:=Lib.hid (fun W (hb:Below w3.heap.size w3 W)=>csChanged HINV.out ha12 (by omega) (HCL.out W hb) d6 d1)
     have HFI:=Lib.hid (fun W (hb:Below w3.heap.size w3 W)=>rcFind_any G' g' s.c.2.length s.c.2 (nmC i) W rfl (HCL.out W hb).cl.2.2 (by have:=HINV.out.few;omega) j d3)
     have HIG:=Lib.hid (fun W (hb:Below w3.heap.size w3 W)=>snImage_any A' D' c' d' s.c.1.1.length s.c.1.2.length s.c.1.1 s.c.1.2 (s.c.2[j]).2.1 W rfl rfl (HCL.out W hb).im.2.2 (HCL.out W hb).sn.2.2 hlm.1.1 (HCL.out W hb).sn.1 o d5 0 d4)
     obtain⟨R,hR⟩:∃ R,s.cl i=R:=⟨_,rfl⟩
     rw [hR] at HIM d7 d10
     have HD:=Lib.hid d10
     have HL:=Lib.hid (And.intro d7 (And.intro d8 d9))
     have HXB:Hid (∀ (v:Nat) (h:v<ex.length),(ex[v]).length≤4096):=fun v h=>by
      have h2:(chgS s.c (nmC i))[v]'(by rw [d6];exact h)=ex[v]:=by simp only [d6]
      rw [← h2]
      exact chg_len _ _ v _
     clear d1 d2 d3 d4 d5 d6 d7 d8 d9 d10 hR hq
     have hSw:Below w3.heap.size w3 w3.drew:=(Below.refl _ _).drew
     go_upto_region 7 with (fail)
     refine wp_region_U (fun W'=>Below w3.heap.size w3 W') 9 (by kernel_rfl) ?_
     refine wpAnyU_takeD (i:=0) (v := ?_) rfl rfl (by kernel_rfl) (by kernel_rfl) (by kernel_rfl) (by kernel_rfl) (fun _ _ _ h=>h) (by rfl) ?_ hSw ?_
     rotate_left 1
     ·intro W9 hW9
      try dsimp only at hW9
      obtain _:=trivial
      go_simp
      try with_reducible rfl
     try simp only [List.setIfInBounds_toArray,List.set_cons_zero,List.set_cons_succ]
     refine wpAnyU_takeD (i:=1) (v := ?_) rfl rfl (by kernel_rfl) (by kernel_rfl) (by kernel_rfl) (by kernel_rfl) (fun _ _ _ h=>h) (by rfl) ?_ hSw ?_
     rotate_left 1
     ·intro W9 hW9
      try dsimp only at hW9
      obtain⟨q0,q1,q2⟩:=HC.out W9 hW9
      go_simp
      try with_reducible rfl
     try simp only [List.setIfInBounds_toArray,List.set_cons_zero,List.set_cons_succ]
     refine wpAnyU_takeD (i:=2) (v := ?_) rfl rfl (by kernel_rfl) (by kernel_rfl) (by kernel_rfl) (by kernel_rfl) (fun _ _ _ h=>h) (by rfl) ?_ hSw ?_
     rotate_left 1
     ·intro W9 hW9
      try dsimp only at hW9
      obtain _:=trivial
      go_simp
      try with_reducible rfl
     try simp only [List.setIfInBounds_toArray,List.set_cons_zero,List.set_cons_succ]
     refine wpAnyU_op (i:=3) (by kernel_rfl) rfl rfl (fun K hK => ?_)
     go_wp2_with fail
     refine ((name_any i hi4 _)).mono ?_
     rintro e w6 ⟨rfl,rfl⟩
     refine hK.out _ _ (fun _=>hSw) ?_
     clear hK K
     try simp only [Act.put,List.setIfInBounds_toArray,List.set_cons_zero,List.set_cons_succ]
     refine wpAnyU_op (i:=4) (by kernel_rfl) rfl rfl (fun K hK => ?_)
     go_wp2_with fail
     refine ((HIM.out _ hSw)).mono ?_
     rintro e w6 ⟨Bi,bi,rfl,i1,i2,i3,hb6⟩
     refine hK.out _ _ (fun _=>(hSw.trans (hb6.mono hSw.size))) ?_
     clear hK K
     try simp only [Act.put,List.setIfInBounds_toArray,List.set_cons_zero,List.set_cons_succ]
     have hS6:Below w3.heap.size w3 w6:=hSw.trans (hb6.mono hSw.size)
     have HI3:=Lib.hid (i3.more (S':=Bl w6.heap.size) (fun q hq=>hq.2))
     clear hSw
     have hSw:=hS6
     refine wpAnyU_takeD (i:=5) (v := ?_) rfl rfl (by kernel_rfl) (by kernel_rfl) (by kernel_rfl) (by kernel_rfl) (fun _ _ _ h=>h) (by rfl) ?_ hSw ?_
     rotate_left 1
     ·intro W9 hW9
      try dsimp only at hW9
      obtain _:=trivial
      go_simp
      try with_reducible rfl
     try simp only [List.setIfInBounds_toArray,List.set_cons_zero,List.set_cons_succ]
     refine wpAnyU_takeD (i:=6) (v := ?_) rfl rfl (by kernel_rfl) (by kernel_rfl) (by kernel_rfl) (by kernel_rfl) (fun _ _ _ h=>h) (by rfl) ?_ hSw ?_
     rotate_left 1
     ·intro W9 hW9
      try dsimp only at hW9
      obtain _:=trivial
      go_simp
      try with_reducible rfl
     try simp only [List.setIfInBounds_toArray,List.set_cons_zero,List.set_cons_succ]
     refine wpAnyU_takeD (i:=7) (v := ?_) rfl rfl (by kernel_rfl) (by kernel_rfl) (by kernel_rfl) (by kernel_rfl) (fun _ _ _ h=>h) (by rfl) ?_ hSw ?_
     rotate_left 1
     ·intro W9 hW9
      try dsimp only at hW9
      obtain _:=trivial
      go_simp
      try with_reducible rfl
     try simp only [List.setIfInBounds_toArray,List.set_cons_zero,List.set_cons_succ]
     refine wpAnyU_op (i:=8) (by kernel_rfl) rfl rfl (fun K hK => ?_)
     go_simp
     refine hK.out _ _ (fun _=>hS6) ?_
     clear hK K
     try simp only [Act.put,List.setIfInBounds_toArray,List.set_cons_zero,List.set_cons_succ]
     refine wpAnyU_op (i:=9) (by kernel_rfl) rfl rfl (fun K hK => ?_)
     go_simp
     refine hK.out _ _ (fun _=>hS6) ?_
     clear hK K
     try simp only [Act.put,List.setIfInBounds_toArray,List.set_cons_zero,List.set_cons_succ]
     refine wpAnyU_done (by kernel_rfl) ?_ _
     clear hSw hb6 i3 HIM hth
     have hSw:=hS6.drew
     go_upto_region 8 with (fail)
     refine wp_region_U (fun W'=>Below w3.heap.size w3 W') 9 (by kernel_rfl) ?_
     refine wpAnyU_takeD (i:=0) (v := ?_) rfl rfl (by kernel_rfl) (by kernel_rfl) (by kernel_rfl) (by kernel_rfl) (fun _ _ _ h=>h) (by rfl) ?_ hSw ?_
     rotate_left 1
     ·intro W9 hW9
      try dsimp only at hW9
      obtain _:=trivial
      go_simp
      try with_reducible rfl
     try simp only [List.setIfInBounds_toArray,List.set_cons_zero,List.set_cons_succ]
     refine wpAnyU_takeD (i:=1) (v := ?_) rfl rfl (by kernel_rfl) (by kernel_rfl) (by kernel_rfl) (by kernel_rfl) (fun _ _ _ h=>h) (by rfl) ?_ hSw ?_
     rotate_left 1
     ·intro W9 hW9
      try dsimp only at hW9
      obtain⟨q0,q1,q2⟩:=HC.out W9 hW9
      go_simp
      try with_reducible rfl
     try simp only [List.setIfInBounds_toArray,List.set_cons_zero,List.set_cons_succ]
     refine wpAnyU_takeD (i:=2) (v := ?_) rfl rfl (by kernel_rfl) (by kernel_rfl) (by kernel_rfl) (by kernel_rfl) (fun _ _ _ h=>h) (by rfl) ?_ hSw ?_
     rotate_left 1
     ·intro W9 hW9
      try dsimp only at hW9
      obtain _:=trivial
      go_simp
      try with_reducible rfl
     try simp only [List.setIfInBounds_toArray,List.set_cons_zero,List.set_cons_succ]
     refine wpAnyU_op (i:=3) (by kernel_rfl) rfl rfl (fun K hK => ?_)
     go_wp2_with fail
     refine ((name_any i hi4 _)).mono ?_
     rintro e w7 ⟨rfl,rfl⟩
     refine hK.out _ _ (fun _=>hSw) ?_
     clear hK K
     try simp only [Act.put,List.setIfInBounds_toArray,List.set_cons_zero,List.set_cons_succ]
     refine wpAnyU_op (i:=4) (by kernel_rfl) rfl rfl (fun K hK => ?_)
     go_wp2_with fail
     refine ((HCH.out _ hSw)).mono ?_
     rintro e w7 ⟨Be,be,rfl,x1,x2,x3,hb7⟩
     refine hK.out _ _ (fun _=>(hSw.trans (hb7.mono hSw.size))) ?_
     clear hK K
     try simp only [Act.put,List.setIfInBounds_toArray,List.set_cons_zero,List.set_cons_succ]
     have hS7:Below w3.heap.size w3 w7:=hSw.trans (hb7.mono hSw.size)
     have hb67:Below w6.heap.size w6 w7:=ext_trans (Below.refl _ _).drew hb7
     have HX3:=Lib.hid (x3.more (S':=Bl w7.heap.size) (fun q hq=>hq.2))
     clear hSw
     have hSw:=hS7
     refine wpAnyU_takeD (i:=5) (v := ?_) rfl rfl (by kernel_rfl) (by kernel_rfl) (by kernel_rfl) (by kernel_rfl) (fun _ _ _ h=>h) (by rfl) ?_ hSw ?_
     rotate_left 1
     ·intro W9 hW9
      try dsimp only at hW9
      obtain _:=trivial
      go_simp
      try with_reducible rfl
     try simp only [List.setIfInBounds_toArray,List.set_cons_zero,List.set_cons_succ]
     refine wpAnyU_takeD (i:=6) (v := ?_) rfl rfl (by kernel_rfl) (by kernel_rfl) (by kernel_rfl) (by kernel_rfl) (fun _ _ _ h=>h) (by rfl) ?_ hSw ?_
     rotate_left 1
     ·intro W9 hW9
      try dsimp only at hW9
      obtain _:=trivial
      go_simp
      try with_reducible rfl
     try simp only [List.setIfInBounds_toArray,List.set_cons_zero,List.set_cons_succ]
     refine wpAnyU_takeD (i:=7) (v := ?_) rfl rfl (by kernel_rfl) (by kernel_rfl) (by kernel_rfl) (by kernel_rfl) (fun _ _ _ h=>h) (by rfl) ?_ hSw ?_
     rotate_left 1
     ·intro W9 hW9
      try dsimp only at hW9
      obtain _:=trivial
      go_simp
      try with_reducible rfl
     try simp only [List.setIfInBounds_toArray,List.set_cons_zero,List.set_cons_succ]
     refine wpAnyU_op (i:=8) (by kernel_rfl) rfl rfl (fun K hK => ?_)
     go_simp
     refine hK.out _ _ (fun _=>hS7) ?_
     clear hK K
     try simp only [Act.put,List.setIfInBounds_toArray,List.set_cons_zero,List.set_cons_succ]
     refine wpAnyU_op (i:=9) (by kernel_rfl) rfl rfl (fun K hK => ?_)
     go_simp
     refine hK.out _ _ (fun _=>hS7) ?_
     clear hK K
     try simp only [Act.put,List.setIfInBounds_toArray,List.set_cons_zero,List.set_cons_succ]
     refine wpAnyU_done (by kernel_rfl) ?_ _
     clear hSw hb7 x3 HCH hS6
     have hSw:=hS7.drew
     go_upto_region 9 with (fail)
     refine wp_region_U (fun W'=>Below w3.heap.size w3 W') 6 (by kernel_rfl) ?_
     refine wpAnyU_takeD (i:=0) (v := ?_) rfl rfl (by kernel_rfl) (by kernel_rfl) (by kernel_rfl) (by kernel_rfl) (fun _ _ _ h=>h) (by rfl) ?_ hSw ?_
     rotate_left 1
     ·intro W9 hW9
      try dsimp only at hW9
      obtain _:=trivial
      go_simp
      try with_reducible rfl
     try simp only [List.setIfInBounds_toArray,List.set_cons_zero,List.set_cons_succ]
     refine wpAnyU_takeD (i:=1) (v := ?_) rfl rfl (by kernel_rfl) (by kernel_rfl) (by kernel_rfl) (by kernel_rfl) (fun _ _ _ h=>h) (by rfl) ?_ hSw ?_
     rotate_left 1
     ·intro W9 hW9
      try dsimp only at hW9
      obtain _:=trivial
      go_simp
      try with_reducible rfl
     try simp only [List.setIfInBounds_toArray,List.set_cons_zero,List.set_cons_succ]
     refine wpAnyU_takeD (i:=2) (v := ?_) rfl rfl (by kernel_rfl) (by kernel_rfl) (by kernel_rfl) (by kernel_rfl) (fun _ _ _ h=>h) (by rfl) ?_ hSw ?_
     rotate_left 1
     ·intro W9 hW9
      try dsimp only at hW9
      obtain⟨q0,q1,q2⟩:=HC.out W9 hW9
      go_simp
      try with_reducible rfl
     try simp only [List.setIfInBounds_toArray,List.set_cons_zero,List.set_cons_succ]
     refine wpAnyU_takeD (i:=3) (v := ?_) rfl rfl (by kernel_rfl) (by kernel_rfl) (by kernel_rfl) (by kernel_rfl) (fun _ _ _ h=>h) (by rfl) ?_ hSw ?_
     rotate_left 1
     ·intro W9 hW9
      try dsimp only at hW9
      obtain _:=trivial
      go_simp
      try with_reducible rfl
     try simp only [List.setIfInBounds_toArray,List.set_cons_zero,List.set_cons_succ]
     refine wpAnyU_op (i:=4) (by kernel_rfl) rfl rfl (fun K hK => ?_)
     go_wp2_with fail
     refine ((name_any i hi4 _)).mono ?_
     rintro e w8 ⟨rfl,rfl⟩
     refine hK.out _ _ (fun _=>hSw) ?_
     clear hK K
     try simp only [Act.put,List.setIfInBounds_toArray,List.set_cons_zero,List.set_cons_succ]
     refine wpAnyU_op (i:=5) (by kernel_rfl) rfl rfl (fun K hK => ?_)
     go_wp2_with fail
     refine ((HFI.out _ hSw)).mono ?_
     rintro e w8 ⟨rfl,hb8⟩
     refine hK.out _ _ (fun _=>(hSw.trans (hb8.mono hSw.size))) ?_
     clear hK K
     try simp only [Act.put,List.setIfInBounds_toArray,List.set_cons_zero,List.set_cons_succ]
     have hS8:Below w3.heap.size w3 w8:=hSw.trans (hb8.mono hSw.size)
     have hb78:Below w7.heap.size w7 w8:=ext_trans (Below.refl _ _).drew hb8
     refine wpAnyU_op (i:=6) (by kernel_rfl) rfl rfl (fun K hK => ?_)
     go_simp
     refine hK.out _ _ (fun _=>hS8) ?_
     clear hK K
     try simp only [Act.put,List.setIfInBounds_toArray,List.set_cons_zero,List.set_cons_succ]
     refine wpAnyU_done (by kernel_rfl) ?_ _
     clear hSw hb8 HFI hS7
     obtain⟨gI,oI,DI,cI,rfl,hgI,_,cn1,_,_,_,_,_,_⟩:=(HCL.out w3 (Below.refl _ _)).cl.2.2.cln hj
     obtain⟨num,hnum⟩:∃ z,(s.c.2[j]).2.1=z:=⟨_,rfl⟩
     rw [hnum] at cn1 HIG
     have HIT:Hid (∀ W,Below w3.heap.size w3 W→W.cell? ⟨gI,oI+j * 3+1,none⟩=some (.int .i64 num)):=fun W hb=>(hb.cell (p:=⟨gI,oI+j * 3+1,none⟩) hgI).trans cn1
     have hj0:(0:Int)≤j:=by omega
     have hjl:(j:Int)<s.c.2.length:=by omega
     have hel:(((ex.length:Nat):Int) != ((R.length:Nat):Int))=false:=by rw [HL.out.1,HL.out.2.2];rfl
     have hol:(((o.length:Nat):Int) != ((R.length:Nat):Int))=false:=by rw [HL.out.1,HL.out.2.1];rfl
     have hSw:=hS8.drew
     clear hnum cn1
     go_upto_region 12 with (fail)
     refine wp_region_U (fun W'=>Below w3.heap.size w3 W') 15 (by kernel_rfl) ?_
     refine wpAnyU_takeD (i:=0) (v := ?_) rfl rfl (by kernel_rfl) (by kernel_rfl) (by kernel_rfl) (by kernel_rfl) (fun _ _ _ h=>h) (by rfl) ?_ hSw ?_
     rotate_left 1
     ·intro W9 hW9
      try dsimp only at hW9
      obtain _:=trivial
      go_simp
      try with_reducible rfl
     try simp only [List.setIfInBounds_toArray,List.set_cons_zero,List.set_cons_succ]
     refine wpAnyU_takeD (i:=1) (v := ?_) rfl rfl (by kernel_rfl) (by kernel_rfl) (by kernel_rfl) (by kernel_rfl) (fun _ _ _ h=>h) (by rfl) ?_ hSw ?_
     rotate_left 1
     ·intro W9 hW9
      try dsimp only at hW9
      obtain _:=trivial
      go_simp
      try with_reducible rfl
     try simp only [List.setIfInBounds_toArray,List.set_cons_zero,List.set_cons_succ]
     refine wpAnyU_takeD (i:=2) (v := ?_) rfl rfl (by kernel_rfl) (by kernel_rfl) (by kernel_rfl) (by kernel_rfl) (fun _ _ _ h=>h) (by rfl) ?_ hSw ?_
     rotate_left 1
     ·intro W9 hW9
      try dsimp only at hW9
      obtain⟨q0,q1,q2⟩:=HC.out W9 hW9
      go_simp
      try with_reducible rfl
     try simp only [List.setIfInBounds_toArray,List.set_cons_zero,List.set_cons_succ]
     refine wpAnyU_takeD (i:=3) (v := ?_) rfl rfl (by kernel_rfl) (by kernel_rfl) (by kernel_rfl) (by kernel_rfl) (fun _ _ _ h=>h) (by rfl) ?_ hSw ?_
     rotate_left 1
     ·intro W9 hW9
      try dsimp only at hW9
      obtain _:=trivial
      go_simp
      try with_reducible rfl
     try simp only [List.setIfInBounds_toArray,List.set_cons_zero,List.set_cons_succ]
     refine wpAnyU_takeD (i:=4) (v := ?_) rfl rfl (by kernel_rfl) (by kernel_rfl) (by kernel_rfl) (by kernel_rfl) (fun _ _ _ h=>h) (by rfl) ?_ hSw ?_
     rotate_left 1
     ·intro W9 hW9
      try dsimp only at hW9
      obtain _:=trivial
      go_simp
      try with_reducible rfl
     try simp only [List.setIfInBounds_toArray,List.set_cons_zero,List.set_cons_succ]
     refine wpAnyU_takeD (i:=5) (v := ?_) rfl rfl (by kernel_rfl) (by kernel_rfl) (by kernel_rfl) (by kernel_rfl) (fun _ _ _ h=>h) (by rfl) ?_ hSw ?_
     rotate_left 1
     ·intro W9 hW9
      try dsimp only at hW9
      obtain⟨q0,q1,q2⟩:=HC.out W9 hW9
      go_simp
      try with_reducible rfl
     try simp only [List.setIfInBounds_toArray,List.set_cons_zero,List.set_cons_succ]
     refine wpAnyU_takeD (i:=6) (v := ?_) rfl rfl (by kernel_rfl) (by kernel_rfl) (by kernel_rfl) (by kernel_rfl) (fun _ _ _ h=>h) (by rfl) ?_ hSw ?_
     rotate_left 1
     ·intro W9 hW9
      try dsimp only at hW9
      obtain _:=trivial
      go_simp
      try with_reducible rfl
     try simp only [List.setIfInBounds_toArray,List.set_cons_zero,List.set_cons_succ]
     refine wpAnyU_takeD (i:=7) (v := ?_) rfl rfl (by kernel_rfl) (by kernel_rfl) (by kernel_rfl) (by kernel_rfl) (fun _ _ _ h=>h) (by rfl) ?_ hSw ?_
     rotate_left 1
     ·intro W9 hW9
      try dsimp only at hW9
      obtain _:=trivial
      go_simp
      try with_reducible rfl
     try simp only [List.setIfInBounds_toArray,List.set_cons_zero,List.set_cons_succ]
     refine wpAnyU_takeD (i:=8) (v := ?_) rfl rfl (by kernel_rfl) (by kernel_rfl) (by kernel_rfl) (by kernel_rfl) (fun _ _ _ h=>h) (by rfl) ?_ hSw ?_
     rotate_left 1
     ·intro W9 hW9
      try dsimp only at hW9
      obtain _:=trivial
      go_simp
      try with_reducible rfl
     try simp only [List.setIfInBounds_toArray,List.set_cons_zero,List.set_cons_succ]
     refine wpAnyU_takeD (i:=9) (v := ?_) rfl rfl (by kernel_rfl) (by kernel_rfl) (by kernel_rfl) (by kernel_rfl) (fun _ _ _ h=>h) (by rfl) ?_ hSw ?_
     rotate_left 1
     ·intro W9 hW9
      try dsimp only at hW9
      obtain q0:=HIT.out W9 hW9
      go_simp
      try with_reducible rfl
     try simp only [List.setIfInBounds_toArray,List.set_cons_zero,List.set_cons_succ]
     refine wpAnyU_op (i:=10) (by kernel_rfl) rfl rfl (fun K hK => ?_)
     go_wp2_with fail
     refine ((HIG.out _ hSw)).mono ?_
     rintro e w9 ⟨Bo,bo,rfl,o1,o2,o3,hb9⟩
     refine hK.out _ _ (fun _=>(hSw.trans (hb9.mono hSw.size))) ?_
     clear hK K
     try simp only [Act.put,List.setIfInBounds_toArray,List.set_cons_zero,List.set_cons_succ]
     have hS9:Below w3.heap.size w3 w9:=hSw.trans (hb9.mono hSw.size)
     have hb89:Below w8.heap.size w8 w9:=ext_trans (Below.refl _ _).drew hb9
     have HO3:=Lib.hid (o3.more (S':=Bl w9.heap.size) (fun q hq=>hq.2))
     clear hSw
     have hSw:=hS9
     refine wpAnyU_takeD (i:=11) (v := ?_) rfl rfl (by kernel_rfl) (by kernel_rfl) (by kernel_rfl) (by kernel_rfl) (fun _ _ _ h=>h) (by rfl) ?_ hSw ?_
     rotate_left 1
     ·intro W9 hW9
      try dsimp only at hW9
      obtain _:=trivial
      go_simp
      try with_reducible rfl
     try simp only [List.setIfInBounds_toArray,List.set_cons_zero,List.set_cons_succ]
     refine wpAnyU_takeD (i:=12) (v := ?_) rfl rfl (by kernel_rfl) (by kernel_rfl) (by kernel_rfl) (by kernel_rfl) (fun _ _ _ h=>h) (by rfl) ?_ hSw ?_
     rotate_left 1
     ·intro W9 hW9
      try dsimp only at hW9
      obtain _:=trivial
      go_simp
      try with_reducible rfl
     try simp only [List.setIfInBounds_toArray,List.set_cons_zero,List.set_cons_succ]
     refine wpAnyU_takeD (i:=13) (v := ?_) rfl rfl (by kernel_rfl) (by kernel_rfl) (by kernel_rfl) (by kernel_rfl) (fun _ _ _ h=>h) (by rfl) ?_ hSw ?_
     rotate_left 1
     ·intro W9 hW9
      try dsimp only at hW9
      obtain _:=trivial
      go_simp
      try with_reducible rfl
     try simp only [List.setIfInBounds_toArray,List.set_cons_zero,List.set_cons_succ]
     refine wpAnyU_op (i:=14) (by kernel_rfl) rfl rfl (fun K hK => ?_)
     go_simp
     refine hK.out _ _ (fun _=>hS9) ?_
     clear hK K
     try simp only [Act.put,List.setIfInBounds_toArray,List.set_cons_zero,List.set_cons_succ]
     refine wpAnyU_op (i:=15) (by kernel_rfl) rfl rfl (fun K hK => ?_)
     go_simp
     refine hK.out _ _ (fun _=>hS9) ?_
     clear hK K
     try simp only [Act.put,List.setIfInBounds_toArray,List.set_cons_zero,List.set_cons_succ]
     refine wpAnyU_done (by kernel_rfl) ?_ _
     have HIW:=Lib.hid (HI3.out.fwd (ext_trans hb67 (ext_trans hb78 hb89)))
     have HXW:=Lib.hid (HX3.out.fwd (ext_trans hb78 hb89))
     have HBW:=Lib.hid (ext_trans hB3 hS9)
     clear hSw hb9 o3 HIG hS8 HI3 HX3 hb67 hb78 hb89 HIT hjl hS9 HC HCL HTH HM3 HINV hlm
     go_wp2_with fail
     clear hel hol
     go_loopw [17] (fun v wr=>∃ v':Nat,v'≤2∧v = .int .i64 v'∧Below w9.heap.size w9 wr) (fun v _=>2 - (intOf v).toNat)
     case atStart=>exact⟨0,by omega,rfl,Below.refl _ _⟩
     case round =>
      obtain⟨wo,rfl⟩:∃ wo:World,wo=wr:=⟨_,rfl⟩
      obtain⟨v,hv,rfl,hB⟩:=hrel
      have hv0:(0:Int)≤v:=by omega
      by_cases hlt:v<2
      ·have hv1:v<R.length:=by rw [HL.out.1];exact hlt
       have hv2:v<o.length:=by rw [HL.out.2.1];exact hlt
       have hv3:v<ex.length:=by rw [HL.out.2.2];exact hlt
       have hvR:(v:Int)<R.length:=by omega
       have hvo:(v:Int)<o.length:=by omega
       have hve:(v:Int)<ex.length:=by omega
       have hpack:∃ (rv ov:List Sec) (ev:List Ext),(rv.length=ov.length∧1≤ov.length∧ov.length≤12∧(∀ x∈ev,OkEx ov.length x)∧ev.length≤4096∧∀ (n:Nat) (g1:n<rv.length) (g2:n<ov.length),ev.any (inExt n)=false→rv[n]=ov[n]) ∧
         (∃ b off D c,Bi=some ⟨b,off,none⟩∧b<wo.heap.size∧wo.cell? ⟨b,off+v,none⟩=some (.slice D rv.length c)∧SlAt encSec wo (Bl wo.heap.size) D rv) ∧
         (∃ b off D c,Bo=some ⟨b,off,none⟩∧b<wo.heap.size∧wo.cell? ⟨b,off+v,none⟩=some (.slice D ov.length c)∧SlAt encSec wo (Bl wo.heap.size) D ov) ∧
         (∃ b off D c,Be=some ⟨b,off,none⟩∧b<wo.heap.size∧wo.cell? ⟨b,off+v,none⟩=some (.slice D ev.length c)∧SlAt encExt wo (Bl wo.heap.size) D ev):=by
        obtain⟨f1,f2,f3,f4,f5⟩:=HD.out v hv1 hv2 hv3
        obtain⟨gA,oA,DA,cA,hA,hgA,cA1,sA,_,_⟩:=(HIW.out.fwd hB).sl hv1
        obtain⟨gO,oO,DO,cO,hO,hgO,cO1,sO,_,_⟩:=(HO3.out.fwd hB).sl hv2
        obtain⟨gE,oE,DE,cE,hE,hgE,cE1,sE,_,_⟩:=(HXW.out.fwd hB).sl hv3
        exact⟨R[v],o[v],ex[v],⟨f1,f2,f3,f4,HXB.out v hv3,f5⟩,⟨gA,oA,DA,cA,hA,hgA,cA1,sA⟩,⟨gO,oO,DO,cO,hO,hgO,cO1,sO⟩,⟨gE,oE,DE,cE,hE,hgE,cE1,sE⟩⟩
       obtain⟨rv,ov,ev,⟨f1,f2,f3,f4,f6,f5⟩,⟨gA,oA,DA,cA,rfl,hgA2,cA1,sA⟩,⟨gO,oO,DO,cO,rfl,hgO2,cO1,sO⟩,⟨gE,oE,DE,cE,rfl,hgE2,cE1,sE⟩⟩:=hpack
       have HRO:=Lib.hid f1
       have HF:=Lib.hid f5
       rw [f1] at cA1
       obtain⟨N,hN⟩:∃ N,ov.length=N:=⟨_,rfl⟩
       have HN:=Lib.hid hN
       rw [hN] at f2 f3 f4 cO1 cA1
       obtain⟨M,hM⟩:∃ M,ev.length=M:=⟨_,rfl⟩
       rw [hM] at cE1 f6
       have HCE:Hid (∀ W,Below wo.heap.size wo W→W.cell? ⟨gA,oA+v,none⟩=some (.slice DA N cA)∧W.cell? ⟨gO,oO+v,none⟩=some (.slice DO N cO)∧W.cell? ⟨gE,oE+v,none⟩=some (.slice DE M cE)):=fun W hb=>⟨(hb.cell (p:=⟨gA,oA+v,none⟩) hgA2).trans cA1,(hb.cell (p:=⟨gO,oO+v,none⟩) hgO2).trans cO1,(hb.cell (p:=⟨gE,oE+v,none⟩) hgE2).trans cE1⟩
       have HFE:=Lib.hid (fun W (hb:Below wo.heap.size wo W)=>from02_any N M DE cE ev W ⟨f2,by omega⟩ hM (sE.fwd hb) f4 (by omega))
       have HSA:=Lib.hid sA
       have HSO:=Lib.hid sO
       have HOKE:=Lib.hid f4
       have hSw:Below wo.heap.size wo wo.drew:=(Below.refl _ _).drew
       clear f1 f4 f5 f6 cA1 cO1 cE1 sA sO sE hN hM hv1 hv2 hv3
       go_upto_region 18 with (fail)
       go_cut [18,19] (fun p e wx=>e = .int .i64 0∧(∃ tb g gc,p = .pointer (some ⟨tb,0,none⟩)∧wx.heap[tb]? = some (.cells #[.int .i64 N,.slice (some ⟨g,0,none⟩) 1 gc] 90 (0,0))∧WRow g (wordL ev 0) wx)∧Below wo.heap.size wo wx)
       case first =>
        refine wp_region_U (fun W'=>Below wo.heap.size wo W') 15 (by kernel_rfl) ?_
        refine wpAnyU_takeD (i:=0) (v := ?_) rfl rfl (by kernel_rfl) (by kernel_rfl) (by kernel_rfl) (by kernel_rfl) (fun _ _ _ h=>h) (by rfl) ?_ hSw ?_
        rotate_left 1
        ·intro W9 hW9
         try dsimp only at hW9
         obtain _:=trivial
         go_simp
         try with_reducible rfl
        try simp only [List.setIfInBounds_toArray,List.set_cons_zero,List.set_cons_succ]
        refine wpAnyU_takeD (i:=1) (v := ?_) rfl rfl (by kernel_rfl) (by kernel_rfl) (by kernel_rfl) (by kernel_rfl) (fun _ _ _ h=>h) (by rfl) ?_ hSw ?_
        rotate_left 1
        ·intro W9 hW9
         try dsimp only at hW9
         obtain _:=trivial
         go_simp
         try with_reducible rfl
        try simp only [List.setIfInBounds_toArray,List.set_cons_zero,List.set_cons_succ]
        refine wpAnyU_takeD (i:=2) (v := ?_) rfl rfl (by kernel_rfl) (by kernel_rfl) (by kernel_rfl) (by kernel_rfl) (fun _ _ _ h=>h) (by rfl) ?_ hSw ?_
        rotate_left 1
        ·intro W9 hW9
         try dsimp only at hW9
         obtain _:=trivial
         go_simp
         try with_reducible rfl
        try simp only [List.setIfInBounds_toArray,List.set_cons_zero,List.set_cons_succ]
        refine wpAnyU_takeD (i:=3) (v := ?_) rfl rfl (by kernel_rfl) (by kernel_rfl) (by kernel_rfl) (by kernel_rfl) (fun _ _ _ h=>h) (by rfl) ?_ hSw ?_
        rotate_left 1
        ·intro W9 hW9
         try dsimp only at hW9
         obtain⟨q0,q1,q2⟩:=HCE.out W9 hW9
         go_simp
         try with_reducible rfl
        try simp only [List.setIfInBounds_toArray,List.set_cons_zero,List.set_cons_succ]
        refine wpAnyU_takeD (i:=4) (v := ?_) rfl rfl (by kernel_rfl) (by kernel_rfl) (by kernel_rfl) (by kernel_rfl) (fun _ _ _ h=>h) (by rfl) ?_ hSw ?_
        rotate_left 1
        ·intro W9 hW9
         try dsimp only at hW9
         obtain _:=trivial
         go_simp
         try with_reducible rfl
        try simp only [List.setIfInBounds_toArray,List.set_cons_zero,List.set_cons_succ]
        refine wpAnyU_takeD (i:=5) (v := ?_) rfl rfl (by kernel_rfl) (by kernel_rfl) (by kernel_rfl) (by kernel_rfl) (fun _ _ _ h=>h) (by rfl) ?_ hSw ?_
        rotate_left 1
        ·intro W9 hW9
         try dsimp only at hW9
         obtain _:=trivial
         go_simp
         try with_reducible rfl
        try simp only [List.setIfInBounds_toArray,List.set_cons_zero,List.set_cons_succ]
        refine wpAnyU_takeD (i:=6) (v := ?_) rfl rfl (by kernel_rfl) (by kernel_rfl) (by kernel_rfl) (by kernel_rfl) (fun _ _ _ h=>h) (by rfl) ?_ hSw ?_
        rotate_left 1
        ·intro W9 hW9
         try dsimp only at hW9
         obtain _:=trivial
         go_simp
         try with_reducible rfl
        try simp only [List.setIfInBounds_toArray,List.set_cons_zero,List.set_cons_succ]
        refine wpAnyU_takeD (i:=7) (v := ?_) rfl rfl (by kernel_rfl) (by kernel_rfl) (by kernel_rfl) (by kernel_rfl) (fun _ _ _ h=>h) (by rfl) ?_ hSw ?_
        rotate_left 1
        ·intro W9 hW9
         try dsimp only at hW9
         obtain _:=trivial
         go_simp
         try with_reducible rfl
        try simp only [List.setIfInBounds_toArray,List.set_cons_zero,List.set_cons_succ]
        refine wpAnyU_takeD (i:=8) (v := ?_) rfl rfl (by kernel_rfl) (by kernel_rfl) (by kernel_rfl) (by kernel_rfl) (fun _ _ _ h=>h) (by rfl) ?_ hSw ?_
        rotate_left 1
        ·intro W9 hW9
         try dsimp only at hW9
         obtain⟨q0,q1,q2⟩:=HCE.out W9 hW9
         go_simp
         try with_reducible rfl
        try simp only [List.setIfInBounds_toArray,List.set_cons_zero,List.set_cons_succ]
        refine wpAnyU_two (i:=9) (j:=13) (by kernel_rfl) rfl rfl rfl rfl (fun K hK => ?_) (fun K hK => ?_)
        ·go_wp2_with fail
         refine (HFE.out _ hSw).mono ?_
         rintro e w6 ⟨⟨bv,rfl,g,gc,rfl,hg,hwr⟩,hb6⟩
         have hS6:Below wo.heap.size wo w6:=hSw.trans (hb6.mono hSw.size)
         have hz6:=hS6.size
         refine hK.out _ _ (fun _=>hS6) ?_
         clear hK K
         try simp only [Act.put,List.setIfInBounds_toArray,List.set_cons_zero,List.set_cons_succ]
         clear hSw
         have hSw:=hS6
         refine wpAnyU_takeD (i:=10) (v := ?_) rfl rfl (by kernel_rfl) (by kernel_rfl) (by kernel_rfl) (by kernel_rfl) (fun _ _ _ h=>h) (by rfl) ?_ hSw ?_
         rotate_left 1
         ·intro W9 hW9
          try dsimp only at hW9
          obtain _:=trivial
          go_simp
          try with_reducible rfl
         try simp only [List.setIfInBounds_toArray,List.set_cons_zero,List.set_cons_succ]
         refine wpAnyU_takeD (i:=11) (v := ?_) rfl rfl (by kernel_rfl) (by kernel_rfl) (by kernel_rfl) (by kernel_rfl) (fun _ _ _ h=>h) (by rfl) ?_ hSw ?_
         rotate_left 1
         ·intro W9 hW9
          try dsimp only at hW9
          obtain _:=trivial
          go_simp
          try with_reducible rfl
         try simp only [List.setIfInBounds_toArray,List.set_cons_zero,List.set_cons_succ]
         refine wpAnyU_takeD (i:=12) (v := ?_) rfl rfl (by kernel_rfl) (by kernel_rfl) (by kernel_rfl) (by kernel_rfl) (fun _ _ _ h=>h) (by rfl) ?_ hSw ?_
         rotate_left 1
         ·intro W9 hW9
          try dsimp only at hW9
          obtain _:=trivial
          go_simp
          try with_reducible rfl
         try simp only [List.setIfInBounds_toArray,List.set_cons_zero,List.set_cons_succ]
         have hS7:Below wo.heap.size wo (w6.alloc (.cells #[.int .i64 0,.slice none 0 0] 90)):=hS6.alloc hS6.size _
         have hrz:(w6.alloc (.cells #[.int .i64 0,.slice none 0 0] 90)).heap[w6.heap.size]? = some (.cells #[.int .i64 0,.slice none 0 0] 90 (0,0)):=heap_alloc_new _ _
         have hwr7:WRow g (wordL ev 0) (w6.alloc (.cells #[.int .i64 0,.slice none 0 0] 90)):=hwr.below (ext_alloc (Below.refl _ _))
         have hgt:g≠w6.heap.size:=by
          obtain⟨L,h1,_⟩:=hwr
          have:=(Array.getElem?_eq_some_iff.1 h1).1
          omega
         refine wpAnyU_op (i:=13) (by kernel_rfl) rfl rfl (fun K hK => ?_)
         go_simp
         refine hK.out _ _ (fun _=>hS7) ?_
         clear hK K
         try simp only [Act.put,List.setIfInBounds_toArray,List.set_cons_zero,List.set_cons_succ]
         change wpAnyU _ _ _ _ _ _ _ _ _ (w6.alloc (.cells #[.int .i64 0,.slice none 0 0] 90))
         generalize w6.alloc (.cells #[.int .i64 0,.slice none 0 0] 90)=w7 at hS7 hrz hwr7 ⊢
         generalize w6.heap.size=tb at hrz hgt hz6 ⊢
         clear hwr hb6 hS6 hSw
         obtain⟨p0,p1,pf⟩:=blk2 hrz
         have hSs:Below wo.heap.size wo ((w7.setCell ⟨tb,0,none⟩ (.int .i64 (N:Int))).setCell ⟨tb,1,none⟩ (.slice (some ⟨g,0,none⟩) 1 gc)):=(hS7.setCell (p:=⟨tb,0,none⟩) hz6 _).setCell (p:=⟨tb,1,none⟩) hz6 _
         have hz:=set2_row hrz (.int .i64 (N:Int)) (.slice (some ⟨g,0,none⟩) 1 gc)
         have hw3:=WRow.set2 hwr7 (b:=tb) hgt (.int .i64 (N:Int)) (.slice (some ⟨g,0,none⟩) 1 gc)
         refine wpAnyU_op (i:=14) (by kernel_rfl) rfl rfl (fun K hK => ?_)
         go_simp
         refine hK.out _ _ (fun _=>hSs) ?_
         clear hK K
         try simp only [Act.put,List.setIfInBounds_toArray,List.set_cons_zero,List.set_cons_succ]
         refine wpAnyU_op (i:=15) (by kernel_rfl) rfl rfl (fun K hK => ?_)
         go_simp
         refine hK.out _ _ (fun _=>hSs) ?_
         clear hK K
         try simp only [Act.put,List.setIfInBounds_toArray,List.set_cons_zero,List.set_cons_succ]
         refine wpAnyU_done (by kernel_rfl) ?_ _
         clear p0 p1 pf
         go_wp2
         go_meet
         exact⟨rfl,⟨_,g,gc,rfl,hz,hw3⟩,hSs⟩
        ·have hS7:Below wo.heap.size wo (wo.drew.alloc (.cells #[.int .i64 0,.slice none 0 0] 90)):=hSw.alloc hSw.size _
         have hrz:(wo.drew.alloc (.cells #[.int .i64 0,.slice none 0 0] 90)).heap[wo.heap.size]? = some (.cells #[.int .i64 0,.slice none 0 0] 90 (0,0)):=heap_alloc_new wo.drew _
         go_simp
         refine hK.out _ _ (fun _=>hS7) ?_
         clear hK K
         try simp only [Act.put,List.setIfInBounds_toArray,List.set_cons_zero,List.set_cons_succ]
         change wpAnyU _ _ _ _ _ _ _ _ _ (wo.drew.alloc (.cells #[.int .i64 0,.slice none 0 0] 90))
         generalize wo.drew.alloc (.cells #[.int .i64 0,.slice none 0 0] 90)=w5 at hS7 hrz ⊢
         refine wpAnyU_op (i:=9) (by kernel_rfl) rfl rfl (fun K hK => ?_)
         go_wp2_with fail
         refine (HFE.out _ hS7).mono ?_
         rintro e w7 ⟨⟨bv,rfl,g,gc,rfl,hg,hwr7⟩,hb6⟩
         have hl5:=(Array.getElem?_eq_some_iff.1 hrz).1
         have hS5:=hS7.trans (hb6.mono hS7.size)
         replace hrz:=(hb6.block _ hl5).trans hrz
         have hgt:g≠wo.heap.size:=by omega
         refine hK.out _ _ (fun _=>hS5) ?_
         clear hK K
         try simp only [Act.put,List.setIfInBounds_toArray,List.set_cons_zero,List.set_cons_succ]
         clear hSw hS7 hl5 hb6
         have hSw:=hS5
         refine wpAnyU_takeD (i:=10) (v := ?_) rfl rfl (by kernel_rfl) (by kernel_rfl) (by kernel_rfl) (by kernel_rfl) (fun _ _ _ h=>h) (by rfl) ?_ hSw ?_
         rotate_left 1
         ·intro W9 hW9
          try dsimp only at hW9
          obtain _:=trivial
          go_simp
          try with_reducible rfl
         try simp only [List.setIfInBounds_toArray,List.set_cons_zero,List.set_cons_succ]
         refine wpAnyU_takeD (i:=11) (v := ?_) rfl rfl (by kernel_rfl) (by kernel_rfl) (by kernel_rfl) (by kernel_rfl) (fun _ _ _ h=>h) (by rfl) ?_ hSw ?_
         rotate_left 1
         ·intro W9 hW9
          try dsimp only at hW9
          obtain _:=trivial
          go_simp
          try with_reducible rfl
         try simp only [List.setIfInBounds_toArray,List.set_cons_zero,List.set_cons_succ]
         refine wpAnyU_takeD (i:=12) (v := ?_) rfl rfl (by kernel_rfl) (by kernel_rfl) (by kernel_rfl) (by kernel_rfl) (fun _ _ _ h=>h) (by rfl) ?_ hSw ?_
         rotate_left 1
         ·intro W9 hW9
          try dsimp only at hW9
          obtain _:=trivial
          go_simp
          try with_reducible rfl
         try simp only [List.setIfInBounds_toArray,List.set_cons_zero,List.set_cons_succ]
         clear hSw
         have hS7:=hS5
         have hz6:wo.heap.size≤wo.heap.size:=Nat.le_refl _
         obtain⟨p0,p1,pf⟩:=blk2 hrz
         have hSs:Below wo.heap.size wo ((w7.setCell ⟨wo.heap.size,0,none⟩ (.int .i64 (N:Int))).setCell ⟨wo.heap.size,1,none⟩ (.slice (some ⟨g,0,none⟩) 1 gc)):=(hS7.setCell (p:=⟨wo.heap.size,0,none⟩) hz6 _).setCell (p:=⟨wo.heap.size,1,none⟩) hz6 _
         have hz:=set2_row hrz (.int .i64 (N:Int)) (.slice (some ⟨g,0,none⟩) 1 gc)
         have hw3:=WRow.set2 hwr7 (b:=wo.heap.size) hgt (.int .i64 (N:Int)) (.slice (some ⟨g,0,none⟩) 1 gc)
         refine wpAnyU_op (i:=14) (by kernel_rfl) rfl rfl (fun K hK => ?_)
         go_simp
         refine hK.out _ _ (fun _=>hSs) ?_
         clear hK K
         try simp only [Act.put,List.setIfInBounds_toArray,List.set_cons_zero,List.set_cons_succ]
         refine wpAnyU_op (i:=15) (by kernel_rfl) rfl rfl (fun K hK => ?_)
         go_simp
         refine hK.out _ _ (fun _=>hSs) ?_
         clear hK K
         try simp only [Act.put,List.setIfInBounds_toArray,List.set_cons_zero,List.set_cons_succ]
         refine wpAnyU_done (by kernel_rfl) ?_ _
         clear p0 p1 pf
         go_wp2
         go_meet
         exact⟨rfl,⟨_,g,gc,rfl,hz,hw3⟩,hSs⟩
       case rest =>
        obtain⟨rfl,⟨tb,g,gc,rfl,htr,hwr⟩,hbc⟩:=hcut
        obtain⟨c1,c2,c3⟩:=HCE.out wc hbc
        have HTR:=Lib.hid htr
        have HWR:=Lib.hid hwr
        have htl:tb<wc.heap.size:=(Array.getElem?_eq_some_iff.1 htr).1
        clear htr hwr HFE hSw
        go_upto_region 19 with (fail)
        go_quiet (fail)
        clear c1 c2 c3
        go_wp2
        go_loopw [20] (fun n wr=>∃ q:Nat,q≤N∧n = .int .i64 q∧Below wc.heap.size wc wr) (fun n _=>N - (intOf n).toNat)
        case atStart=>exact⟨0,by omega,rfl,bDrew (Below.refl _ _) _⟩
        case round =>
         obtain⟨wz,rfl⟩:∃ wz:World,wz=wr:=⟨_,rfl⟩
         obtain⟨q,hq,rfl,hBz⟩:=hrel
         have hq0:(0:Int)≤q:=by omega
         have hbz:Below wo.heap.size wo wz:=ext_trans hbc hBz
         obtain⟨c1,c2,c3⟩:=HCE.out wz hbz
         by_cases hqN:q<N
         ·have hqi:(q:Int)<N:=by omega
          have g1:q<rv.length:=by rw [HRO.out,HN.out];exact hqN
          have g2:q<ov.length:=by rw [HN.out];exact hqN
          obtain⟨gC,oC,x0,x1,x2,x3,x4,x5,x6,x7,rfl,hgC,hxe,_,xa0,xa1,xa2,xa3,xa4,xa5,xa6,xa7⟩:=(HSA.out.fwd hbz).sec g1
          obtain⟨gD,oD,y0,y1,y2,y3,y4,y5,y6,y7,rfl,hgD,hye,_,ya0,ya1,ya2,ya3,ya4,ya5,ya6,ya7⟩:=(HSO.out.fwd hbz).sec g2
          have hne:([x0,x1,x2,x3,x4,x5,x6,x7]==[y0,y1,y2,y3,y4,y5,y6,y7])=false→(wordL ev 0).testBit q=true:=fun h=>by
           rw [wordL_bit (by omega) ev 0 HOKE.out,Nat.zero_testBit,Bool.false_or]
           cases hc:ev.any (inExt q) with
           | true=>rfl
           | false =>
             have h2:=HF.out q g1 g2 hc
             rw [hxe,hye] at h2
             rw [h2] at h
             simp at h
          have HNE:=Lib.hid hne
          obtain⟨qq,hqq⟩:∃ z,([x0,x1,x2,x3,x4,x5,x6,x7]==[y0,y1,y2,y3,y4,y5,y6,y7])=z:=⟨_,rfl⟩
          have hqe:=fun W=>run_eq_sec W x0 x1 x2 x3 x4 x5 x6 x7 y0 y1 y2 y3 y4 y5 y6 y7
          rw [hqq] at hqe HNE
          clear hne hqq hxe hye
          cases qq with
          | true =>
            go_upto_region 24 with (fail)
            go_quiet (fail)
            clear xa0 xa1 xa2 xa3 xa4 xa5 xa6 xa7 ya0 ya1 ya2 ya3 ya4 ya5 ya6 ya7 hqe c1 c2 c3
            go_wp2_with fail
            go_roundw
            case rel=>exact⟨q+1,by omega,by go_num,ext_trans hBz (bDrew (Below.refl _ _) _)⟩
            case measure=>simp [intOf];omega
          | false =>
            have HBT:=Lib.hid (HNE.out rfl)
            have hgC2:gC<wz.heap.size:=hgC
            have hgD2:gD<wz.heap.size:=hgD
            have hgA3:gA<wz.heap.size:=by have:=hbz.size;omega
            have hgO3:gO<wz.heap.size:=by have:=hbz.size;omega
            have HX:Hid (∀ W,Below wz.heap.size wz W→(W.cell? ⟨gA,oA+v,none⟩=some (.slice (some ⟨gC,oC,none⟩) N cA)∧W.cell? ⟨gO,oO+v,none⟩=some (.slice (some ⟨gD,oD,none⟩) N cO))∧(W.cell? ⟨gC,oC+q * 8,none⟩=some (.int .u8 x0)∧W.cell? ⟨gC,oC+q * 8+1,none⟩=some (.int .u8 x1)∧W.cell? ⟨gC,oC+q * 8+2,none⟩=some (.int .u8 x2)∧W.cell? ⟨gC,oC+q * 8+3,none⟩=some (.int .u8 x3)∧W.cell? ⟨gC,oC+q * 8+4,none⟩=some (.int .u8 x4)∧W.cell? ⟨gC,oC+q * 8+5,none⟩=some (.int .u8 x5)∧W.cell? ⟨gC,oC+q * 8+6,none⟩=some (.int .u8 x6)∧W.cell? ⟨gC,oC+q * 8+7,none⟩=some (.int .u8 x7))∧(W.cell? ⟨gD,oD+q * 8,none⟩=some (.int .u8 y0)∧W.cell? ⟨gD,oD+q * 8+1,none⟩=some (.int .u8 y1)∧W.cell? ⟨gD,oD+q * 8+2,none⟩=some (.int .u8 y2)∧W.cell? ⟨gD,oD+q * 8+3,none⟩=some (.int .u8 y3)∧W.cell? ⟨gD,oD+q * 8+4,none⟩=some (.int .u8 y4)∧W.cell? ⟨gD,oD+q * 8+5,none⟩=some (.int .u8 y5)∧W.cell? ⟨gD,oD+q * 8+6,none⟩=some (.int .u8 y6)∧W.cell? ⟨gD,oD+q * 8+7,none⟩=some (.int .u8 y7))∧W.heap[tb]? = some (.cells #[.int .i64 N,.slice (some ⟨g,0,none⟩) 1 gc] 90 (0,0))∧WRow g (wordL ev 0) W):=fun W hb =>
             ⟨⟨(hb.cell (p:=⟨gA,oA+v,none⟩) hgA3).trans c1,(hb.cell (p:=⟨gO,oO+v,none⟩) hgO3).trans c2⟩,
              ⟨(hb.cell (p:=⟨gC,oC+q * 8,none⟩) hgC2).trans xa0,(hb.cell (p:=⟨gC,oC+q * 8+1,none⟩) hgC2).trans xa1,(hb.cell (p:=⟨gC,oC+q * 8+2,none⟩) hgC2).trans xa2,(hb.cell (p:=⟨gC,oC+q * 8+3,none⟩) hgC2).trans xa3,(hb.cell (p:=⟨gC,oC+q * 8+4,none⟩) hgC2).trans xa4,(hb.cell (p:=⟨gC,oC+q * 8+5,none⟩) hgC2).trans xa5,(hb.cell (p:=⟨gC,oC+q * 8+6,none⟩) hgC2).trans xa6,(hb.cell (p:=⟨gC,oC+q * 8+7,none⟩) hgC2).trans xa7⟩,
              ⟨(hb.cell (p:=⟨gD,oD+q * 8,none⟩) hgD2).trans ya0,(hb.cell (p:=⟨gD,oD+q * 8+1,none⟩) hgD2).trans ya1,(hb.cell (p:=⟨gD,oD+q * 8+2,none⟩) hgD2).trans ya2,(hb.cell (p:=⟨gD,oD+q * 8+3,none⟩) hgD2).trans ya3,(hb.cell (p:=⟨gD,oD+q * 8+4,none⟩) hgD2).trans ya4,(hb.cell (p:=⟨gD,oD+q * 8+5,none⟩) hgD2).trans ya5,(hb.cell (p:=⟨gD,oD+q * 8+6,none⟩) hgD2).trans ya6,(hb.cell (p:=⟨gD,oD+q * 8+7,none⟩) hgD2).trans ya7⟩,
              ((ext_trans hBz hb).block tb htl).trans HTR.out,HWR.out.below (ext_trans hBz hb)⟩
            have hSw:Below wz.heap.size wz wz.drew:=(Below.refl _ _).drew
            have HGT:=Lib.hid (get02_any N g 0 gc (wordL ev 0) q wz.drew ⟨f2,by omega⟩ hqN (wordL_lt (by omega) ev 0 HOKE.out (by decide)) (fun z hz _=>wordL_hi (by omega) HOKE.out hz) (HX.out _ hSw).2.2.2.2.cell.1)
            rw [HBT.out] at HGT
            clear xa0 xa1 xa2 xa3 xa4 xa5 xa6 xa7 ya0 ya1 ya2 ya3 ya4 ya5 ya6 ya7
            go_upto_region 24 with (fail)
            refine wp_region_U (fun W'=>Below wz.heap.size wz W') 21 (by kernel_rfl) ?_
            refine wpAnyU_takeAD (i:=0) (v := ?_) rfl rfl (by kernel_rfl) (by kernel_rfl) (by kernel_rfl) (by kernel_rfl) (fun _ _ _ h=>h) (by rfl) ?_ hSw ?_
            rotate_left 1
            ·intro W9 hW9
             try dsimp only at hW9
             obtain _:=trivial
             go_simp
             try with_reducible rfl
            try simp only [List.setIfInBounds_toArray,List.set_cons_zero,List.set_cons_succ]
            refine wpAnyU_takeAD (i:=1) (v := ?_) rfl rfl (by kernel_rfl) (by kernel_rfl) (by kernel_rfl) (by kernel_rfl) (fun _ _ _ h=>h) (by rfl) ?_ hSw ?_
            rotate_left 1
            ·intro W9 hW9
             try dsimp only at hW9
             obtain _:=trivial
             go_simp
             try with_reducible rfl
            try simp only [List.setIfInBounds_toArray,List.set_cons_zero,List.set_cons_succ]
            refine wpAnyU_takeAD (i:=2) (v := ?_) rfl rfl (by kernel_rfl) (by kernel_rfl) (by kernel_rfl) (by kernel_rfl) (fun _ _ _ h=>h) (by rfl) ?_ hSw ?_
            rotate_left 1
            ·intro W9 hW9
             try dsimp only at hW9
             obtain _:=trivial
             go_simp
             try with_reducible rfl
            try simp only [List.setIfInBounds_toArray,List.set_cons_zero,List.set_cons_succ]
            refine wpAnyU_takeAD (i:=3) (v := ?_) rfl rfl (by kernel_rfl) (by kernel_rfl) (by kernel_rfl) (by kernel_rfl) (fun _ _ _ h=>h) (by rfl) ?_ hSw ?_
            rotate_left 1
            ·intro W9 hW9
             try dsimp only at hW9
             obtain⟨⟨q0,q1⟩,⟨p0,p1,p2,p3,p4,p5,p6,p7⟩,⟨r0,r1,r2,r3,r4,r5,r6,r7⟩,q2,q3⟩:=HX.out W9 hW9
             go_simp
             try with_reducible rfl
            try simp only [List.setIfInBounds_toArray,List.set_cons_zero,List.set_cons_succ]
            refine wpAnyU_takeAD (i:=4) (v := ?_) rfl rfl (by kernel_rfl) (by kernel_rfl) (by kernel_rfl) (by kernel_rfl) (fun _ _ _ h=>h) (by rfl) ?_ hSw ?_
            rotate_left 1
            ·intro W9 hW9
             try dsimp only at hW9
             obtain _:=trivial
             go_simp
             try with_reducible rfl
            try simp only [List.setIfInBounds_toArray,List.set_cons_zero,List.set_cons_succ]
            refine wpAnyU_takeAD (i:=5) (v := ?_) rfl rfl (by kernel_rfl) (by kernel_rfl) (by kernel_rfl) (by kernel_rfl) (fun _ _ _ h=>h) (by rfl) ?_ hSw ?_
            rotate_left 1
            ·intro W9 hW9
             try dsimp only at hW9
             obtain _:=trivial
             go_simp
             try with_reducible rfl
            try simp only [List.setIfInBounds_toArray,List.set_cons_zero,List.set_cons_succ]
            refine wpAnyU_takeAD (i:=6) (v := ?_) rfl rfl (by kernel_rfl) (by kernel_rfl) (by kernel_rfl) (by kernel_rfl) (fun _ _ _ h=>h) (by rfl) ?_ hSw ?_
            rotate_left 1
            ·intro W9 hW9
             try dsimp only at hW9
             obtain⟨⟨q0,q1⟩,⟨p0,p1,p2,p3,p4,p5,p6,p7⟩,⟨r0,r1,r2,r3,r4,r5,r6,r7⟩,q2,q3⟩:=HX.out W9 hW9
             go_simp
             try with_reducible rfl
            try simp only [List.setIfInBounds_toArray,List.set_cons_zero,List.set_cons_succ]
            refine wpAnyU_takeAD (i:=7) (v := ?_) rfl rfl (by kernel_rfl) (by kernel_rfl) (by kernel_rfl) (by kernel_rfl) (fun _ _ _ h=>h) (by rfl) ?_ hSw ?_
            rotate_left 1
            ·intro W9 hW9
             try dsimp only at hW9
             obtain _:=trivial
             go_simp
             try with_reducible rfl
            try simp only [List.setIfInBounds_toArray,List.set_cons_zero,List.set_cons_succ]
            refine wpAnyU_takeAD (i:=8) (v := ?_) rfl rfl (by kernel_rfl) (by kernel_rfl) (by kernel_rfl) (by kernel_rfl) (fun _ _ _ h=>h) (by rfl) ?_ hSw ?_
            rotate_left 1
            ·intro W9 hW9
             try dsimp only at hW9
             obtain _:=trivial
             go_simp
             try with_reducible rfl
            try simp only [List.setIfInBounds_toArray,List.set_cons_zero,List.set_cons_succ]
            refine wpAnyU_takeAD (i:=9) (v := ?_) rfl rfl (by kernel_rfl) (by kernel_rfl) (by kernel_rfl) (by kernel_rfl) (fun _ _ _ h=>h) (by rfl) ?_ hSw ?_
            rotate_left 1
            ·intro W9 hW9
             try dsimp only at hW9
             obtain _:=trivial
             go_simp
             try with_reducible rfl
            try simp only [List.setIfInBounds_toArray,List.set_cons_zero,List.set_cons_succ]
            refine wpAnyU_takeAD (i:=10) (v := ?_) rfl rfl (by kernel_rfl) (by kernel_rfl) (by kernel_rfl) (by kernel_rfl) (fun _ _ _ h=>h) (by rfl) ?_ hSw ?_
            rotate_left 1
            ·intro W9 hW9
             try dsimp only at hW9
             obtain⟨⟨q0,q1⟩,⟨p0,p1,p2,p3,p4,p5,p6,p7⟩,⟨r0,r1,r2,r3,r4,r5,r6,r7⟩,q2,q3⟩:=HX.out W9 hW9
             go_simp
             try with_reducible rfl
            try simp only [List.setIfInBounds_toArray,List.set_cons_zero,List.set_cons_succ]
            refine wpAnyU_takeAD (i:=11) (v := ?_) rfl rfl (by kernel_rfl) (by kernel_rfl) (by kernel_rfl) (by kernel_rfl) (fun _ _ _ h=>h) (by rfl) ?_ hSw ?_
            rotate_left 1
            ·intro W9 hW9
             try dsimp only at hW9
             obtain _:=trivial
             go_simp
             try with_reducible rfl
            try simp only [List.setIfInBounds_toArray,List.set_cons_zero,List.set_cons_succ]
            refine wpAnyU_takeAD (i:=12) (v := ?_) rfl rfl (by kernel_rfl) (by kernel_rfl) (by kernel_rfl) (by kernel_rfl) (fun _ _ _ h=>h) (by rfl) ?_ hSw ?_
            rotate_left 1
            ·intro W9 hW9
             try dsimp only at hW9
             obtain _:=trivial
             go_simp
             try with_reducible rfl
            try simp only [List.setIfInBounds_toArray,List.set_cons_zero,List.set_cons_succ]
            refine wpAnyU_takeAD (i:=13) (v := ?_) rfl rfl (by kernel_rfl) (by kernel_rfl) (by kernel_rfl) (by kernel_rfl) (fun _ _ _ h=>h) (by rfl) ?_ hSw ?_
            rotate_left 1
            ·intro W9 hW9
             try dsimp only at hW9
             obtain⟨⟨q0,q1⟩,⟨p0,p1,p2,p3,p4,p5,p6,p7⟩,⟨r0,r1,r2,r3,r4,r5,r6,r7⟩,q2,q3⟩:=HX.out W9 hW9
             go_simp
             try with_reducible rfl
            try simp only [List.setIfInBounds_toArray,List.set_cons_zero,List.set_cons_succ]
            refine wpAnyU_takeAD (i:=14) (v := ?_) rfl rfl (by kernel_rfl) (by kernel_rfl) (by kernel_rfl) (by kernel_rfl) (fun _ _ _ h=>h) (by rfl) ?_ hSw ?_
            rotate_left 1
            ·intro W9 hW9
             try dsimp only at hW9
             obtain q0:=hqe W9
             go_simp
             try with_reducible rfl
            try simp only [List.setIfInBounds_toArray,List.set_cons_zero,List.set_cons_succ]
            refine wpAnyU_takeAD (i:=15) (v := ?_) rfl rfl (by kernel_rfl) (by kernel_rfl) (by kernel_rfl) (by kernel_rfl) (fun _ _ _ h=>h) (by rfl) ?_ hSw ?_
            rotate_left 1
            ·intro W9 hW9
             try dsimp only at hW9
             obtain _:=trivial
             go_simp
             try with_reducible rfl
            try simp only [List.setIfInBounds_toArray,List.set_cons_zero,List.set_cons_succ]
            refine wpAnyU_takeAD (i:=16) (v := ?_) rfl rfl (by kernel_rfl) (by kernel_rfl) (by kernel_rfl) (by kernel_rfl) (fun _ _ _ h=>h) (by rfl) ?_ hSw ?_
            rotate_left 1
            ·intro W9 hW9
             try dsimp only at hW9
             obtain⟨q0,q1,q2⟩:=blk2 (HX.out W9 hW9).2.2.2.1
             go_simp
             try with_reducible rfl
            try simp only [List.setIfInBounds_toArray,List.set_cons_zero,List.set_cons_succ]
            refine wpAnyU_takeAD (i:=17) (v := ?_) rfl rfl (by kernel_rfl) (by kernel_rfl) (by kernel_rfl) (by kernel_rfl) (fun _ _ _ h=>h) (by rfl) ?_ hSw ?_
            rotate_left 1
            ·intro W9 hW9
             try dsimp only at hW9
             obtain _:=trivial
             go_simp
             try with_reducible rfl
            try simp only [List.setIfInBounds_toArray,List.set_cons_zero,List.set_cons_succ]
            refine wpAnyU_opG (i:=18) (by kernel_rfl) rfl (by rfl) (fun K hK => ?_)
            go_wp2_with fail
            refine HGT.out.mono ?_
            rintro e w7 ⟨rfl,hb7⟩
            have hS7:Below wz.heap.size wz w7:=ext_trans hSw hb7
            refine hK.out _ _ (fun _=>hS7) ?_
            clear hK K
            try simp only [Act.put,List.setIfInBounds_toArray,List.set_cons_zero,List.set_cons_succ]
            refine wpAnyU_opG (i:=19) (by kernel_rfl) rfl (by rfl) (fun K hK => ?_)
            go_simp
            refine hK.out _ _ (fun _=>hS7) ?_
            clear hK K
            try simp only [Act.put,List.setIfInBounds_toArray,List.set_cons_zero,List.set_cons_succ]
            refine wpAnyU_op (i:=20) (by kernel_rfl) rfl rfl (fun K hK => ?_)
            go_simp
            refine hK.out _ _ (fun _=>hS7) ?_
            clear hK K
            refine wpAnyU_done (by kernel_rfl) ?_ _
            clear hSw hb7 HGT HX hqe c1 c2 c3
            go_wp2_with fail
            go_roundw
            case rel=>exact⟨q+1,by omega,by go_num,ext_trans hBz hS7⟩
            case measure=>simp [intOf];omega
         ·have hqq:q=N:=by omega
          subst hqq
          have hqi:¬ (q:Int)<q:=by omega
          go_wp2_with fail
          go_roundw
          case rel=>exact⟨v+1,by omega,by go_num,ext_trans hB hbz⟩
          case measure=>simp [intOf];omega
      ·have hvv:v=2:=by omega
       subst hvv
       have hvR:¬ ((2:Nat):Int)<R.length:=by rw [HL.out.1];omega
       go_wp2_with fail
       refine (awake37_any _).mono ?_
       rintro e wz ⟨rfl,hbz⟩
       go_wp2
       go_ret
       exact⟨rfl,ext_trans HBW.out (ext_trans hB hbz)⟩
end Go.Proofs.YtgndgkjefgjamaaGreat
namespace Go.Proofs.YtgndgkjefgjamaaGreat
open Go.RowKit Go.ChangeShapes Go.WideShapes Go.ChangeAt

theorem own:ownKnob Tryz.prog.godebug=none:=by kernel_rfl
theorem laidOut:laidOutB Tryz.prog=true:=by kernel_rfl
theorem op_int:Opens Tryz.prog 3 encInt:=opens_int Tryz.underlying3 (by kernel_rfl)
theorem op_u8:Opens Tryz.prog 5 encU8:=opens_u8 Tryz.underlying5 (by kernel_rfl)
theorem op_sec:Opens Tryz.prog 95 encSec:=opens_sec Tryz.underlying95 (by kernel_rfl) Tryz.underlying5 (by kernel_rfl)
theorem op_secs:Opens Tryz.prog 43 (encSl encSec):=opens_slice Tryz.underlying43 (by kernel_rfl) op_sec (by decide)
theorem op_wr:Opens Tryz.prog 45 encWr:=opens_struct Tryz.underlying45 (opensF_cons rfl op_int (opensF_cons rfl op_int (opensF_one rfl op_secs (by kernel_rfl))))
end Go.Proofs.YtgndgkjefgjamaaGreat
namespace Go.Proofs.YtgndgkjefgjamaaGreat
open Go.ChangeShapes Go.WideShapes Go.ChangeAt Go.RowKit

theorem op_ev:Opens Tryz.prog 149 encEv:=opens_struct Tryz.underlying149 (opensF_cons rfl op_u8 (opensF_cons rfl op_u8 (opensF_one rfl op_wr (by kernel_rfl))))
theorem op_evs:Opens Tryz.prog 73 (encSl encEv):=opens_slice Tryz.underlying73 (by kernel_rfl) op_ev (by decide)
end Go.Proofs.YtgndgkjefgjamaaGreat

/-
  Plain words: a whole run over clones, and what its laws ask of it. No program in sight.; The law of a run: clones change no snapshot.
-/
import Derived.BigQuiet
import Derived.Deep.DeepCutAuto
import Derived.Test.YtgndgkjefgjamaaGreatY01
import Derived.Test.YtgndgkjefgjamaaGreatY02
import Derived.Test.YtgndgkjefgjamaaGreatY03
import Derived.Test.YtgndgkjefgjamaaGreatY04
import Derived.Test.YtgndgkjefgjamaaGreatY05
import Derived.Test.YtgndgkjefgjamaaGreatY06
import Derived.Test.YtgndgkjefgjamaaGreatY07
import Derived.Test.YtgndgkjefgjamaaGreatY08
import Derived.Test.YtgndgkjefgjamaaGreatY09
import Derived.Test.YtgndgkjefgjamaaGreatY10
import Derived.Test.YtgndgkjefgjamaaGreatY11
import Derived.Test.YtgndgkjefgjamaaGreatY12
import Derived.Test.YtgndgkjefgjamaaGreatY13
import Derived.Test.YtgndgkjefgjamaaGreatY14
import Derived.Test.YtgndgkjefgjamaaGreatY15
import Derived.Test.YtgndgkjefgjamaaGreatY16
import Derived.Test.YtgndgkjefgjamaaGreatY17
import Derived.Test.YtgndgkjefgjamaaGreatY18
import Derived.Test.YtgndgkjefgjamaaGreatY19
import Derived.Test.YtgndgkjefgjamaaGreatY20
set_option linter.unusedVariables false
set_option linter.unusedSimpArgs false
set_option linter.unusedSectionVars false
set_option linter.unnecessarySimpa false
namespace Go.Proofs.YtgndgkjefgjamaaGreat

theorem CInv.spares {sz:List Int} {k:Nat} {s:CSt} (h:CInv sz k s) {n:Nat} (hf:findE s.c.1 n=0):sImage s.c.1 n=s.sn n:=by
  rw [h.c1] at hf ⊢
  obtain ⟨hj,e⟩:=find_num hf
  obtain ⟨h1,_,_⟩:=h.img hj
  rw [e] at h1
  simpa using h1
end Go.Proofs.YtgndgkjefgjamaaGreat
namespace Go.Proofs.YtgndgkjefgjamaaGreat
open Go.RowKit Go.Shelf
attribute [local go_sem] Oper.semAt_some

set_option maxHeartbeats 4000000 in
set_option maxRecDepth 100000 in
theorem spares37_any (A:Option Addr) (c n:Nat) (sz:Int) (es:List CEv) (w:World) (hn:es.length=n) (h0:SlAt encEv w (Bl w.heap.size) A es) (hl:n≤9223372036854775807) (hsz:0≤sz∧sz < 256) :
    Calls Tryz.prog 8 #[.int .u8 sz,.slice A n c] w fun e w'=>e = .returned (.bool true)∧Below w.heap.size w w':=by
  obtain ⟨q,hq⟩:∃ q,smallEv es=q:=⟨_,rfl⟩
  have HSM:=Lib.hid (small37_any A c n es w hn h0 hl q hq)
  have H0:=Lib.hid h0
  have HQ:=Lib.hid hq
  clear hq h0
  go_enter Tryz.func8,Tryz.ntmps8
  go_wp2_with fail
  refine HSM.out.mono ?_
  rintro e w1 ⟨rfl,hw1⟩
  have hw2:=hw1.symm
  clear hw1 HSM
  subst hw2
  cases q with
  | false =>
    go_wp2_with fail
    refine (awake37_any _).mono ?_
    rintro e wz ⟨rfl,hbz⟩
    go_wp2
    go_ret
    exact ⟨rfl,hbz⟩
  | true =>
    obtain ⟨hs1,hs2⟩:=smallEv_iff.1 HQ.out
    have HRN:=Lib.hid (run37_any A c n sz (1+sz % 12) es _ w hn H0.out (by omega) hs1 hsz rfl rfl)
    have hz0:sizesN [1+sz % 12,4]=0:=by
      unfold sizesN
      rw [if_neg (by simp),if_neg]
      simp [badSz]
      omega
    have hlen:lens ([1+sz % 12,4].map zimg)=[1+sz % 12,4]:=by
      simp [lens,lenI,zimg]
      omega
    subst hn
    have HINV:=Lib.hid (cRun_inv (es:=es) hlen hz0 es.length (Nat.le_refl _) (by omega))
    have ha12:1≤1+sz % 12∧1+sz % 12≤12:=by omega
    have hl30:es.length≤30:=hs2
    clear hs1 hs2 HQ hz0 hlen
    go_wp2_with fail
    refine HRN.out.mono ?_
    rintro e w2 ⟨row,A',c',D',d',G',g',B',bc',sa',sc',ca',cc',rfl,hR,hM,hb2⟩
    clear HRN
    -- the run's state is laid into a variable (block xb, world w3)
    obtain ⟨xb,hxb⟩:∃ xb,w2.heap.size=xb:=⟨_,rfl⟩
    obtain ⟨wz,hwz⟩:∃ W,w2.alloc (.cells #[.slice none 0 0,.slice none 0 0,.slice none 0 0,.slice none 0 0,.slice none 0 0,.slice none 0 0,.slice none 0 0,.slice none 0 0,.slice none 0 0,.slice none 0 0,.slice none 0 0,.slice none 0 0,.slice none 0 0,.slice none 0 0,.slice none 0 0,.slice none 0 0,.slice none 0 0,.slice none 0 0,.slice none 0 0,.slice none 0 0,.slice none 0 0,.slice none 0 0,.slice none 0 0,.slice none 0 0,.slice none 0 0,.slice none 0 0,.slice none 0 0,.slice none 0 0,.slice none 0 0,.slice none 0 0,.slice none 0 0,.slice none 0 0,.slice none 0 0,.slice none 0 0,.slice none 0 0,.slice none 0 0,.slice none 0 0,.slice none 0 0,.slice none 0 0,.slice none 0 0,.slice none 0 0,.slice none 0 0,.slice none 0 0,.slice none 0 0,.int .i64 0,.slice none 0 0,.slice none 0 0,.slice none 0 0,.slice none 0 0,.bool false,.bool false,.bool false,.bool false,.bool false] 79)=W:=⟨_,rfl⟩
    have hrz:wz.heap[xb]? = some (.cells #[.slice none 0 0,.slice none 0 0,.slice none 0 0,.slice none 0 0,.slice none 0 0,.slice none 0 0,.slice none 0 0,.slice none 0 0,.slice none 0 0,.slice none 0 0,.slice none 0 0,.slice none 0 0,.slice none 0 0,.slice none 0 0,.slice none 0 0,.slice none 0 0,.slice none 0 0,.slice none 0 0,.slice none 0 0,.slice none 0 0,.slice none 0 0,.slice none 0 0,.slice none 0 0,.slice none 0 0,.slice none 0 0,.slice none 0 0,.slice none 0 0,.slice none 0 0,.slice none 0 0,.slice none 0 0,.slice none 0 0,.slice none 0 0,.slice none 0 0,.slice none 0 0,.slice none 0 0,.slice none 0 0,.slice none 0 0,.slice none 0 0,.slice none 0 0,.slice none 0 0,.slice none 0 0,.slice none 0 0,.slice none 0 0,.slice none 0 0,.int .i64 0,.slice none 0 0,.slice none 0 0,.slice none 0 0,.slice none 0 0,.bool false,.bool false,.bool false,.bool false,.bool false] 79 (0,0)):=by rw [← hwz, ← hxb]; exact heap_alloc_new _ _
    have hbz:Below w.heap.size w wz:=by rw [← hwz]; exact hb2.alloc hb2.size _
    have hkz2:∀ q,q < w2.heap.size→wz.heap[q]? = w2.heap[q]? := by rw [← hwz]; exact fun q hq=>Below.heap_alloc _ _ _ hq
    have hszz:wz.heap.size=xb+1:=by rw [← hwz, ← hxb]; simp
    have HRZ:=Lib.hid hrz
    have HKZ:=Lib.hid hkz2
    have HSZ:=Lib.hid hszz
    have HXW:Hid (w.heap.size≤xb):=by rw [← hxb]; exact hb2.size
    have HRS:=Lib.hid hR
    have HMS:=Lib.hid hM
    have HAL:=Lib.hid (st_all hR)
    clear hrz hkz2 hszz hR hM
    go_upto_region 4 with (first | (refine wpList_store_row rfl 79 _ _ rfl xb row rfl rfl 79 _ HRZ.out HAL.out.2 (st_size HAL.out.2 (by kernel_rfl) (by kernel_rfl)) HAL.out.1 ?_) | fail)
    obtain ⟨w3,hw3⟩:∃ W,wz.setRow xb row=W:=⟨_,rfl⟩
    have HROW3:Hid (w3.heap[xb]? = some (.cells row 79 (0,0))):=by rw [← hw3]; exact setRow_heap wz xb _ row _ _ HRZ.out
    have hB3:Below w.heap.size w w3:=by rw [← hw3]; exact below_setRow hbz HXW.out row
    have hx3:xb < w3.heap.size:=by rw [← hw3,setRow_size,HSZ.out]; omega
    have HM3:Hid (StM (cRun ([1+sz % 12,4].map zimg) es es.length) A' c' D' d' G' g' B' bc' sa' sc' ca' cc' (fun q=>q≠xb∧q < w3.heap.size) w3):=HMS.out.keep (fun q hq=>by
      have h1:q < w2.heap.size:=hq
      rw [← hw3]; exact (setRow_other wz xb q row (by omega)).trans (HKZ.out q h1)) (fun q hq=>by
      have h1:q < w2.heap.size:=hq
      exact ⟨by omega,by rw [← hw3,setRow_size,HSZ.out]; omega⟩)
    rw [hw3]
    clear hw3 HRZ HKZ HSZ hwz hbz HMS hxb hb2
    obtain ⟨s,hs⟩:∃ s,cRun ([1+sz % 12,4].map zimg) es es.length=s:=⟨_,rfl⟩
    rw [hs] at HINV HM3 HRS
    have hlm:=HINV.out.lim ha12 (by omega)
    have hnw:=HINV.out.nw
    have hn0:(0:Int)≤(s.nw:Int):=by omega
    have hn9:(s.nw:Int) < 35:=by omega
    have HC:Hid (∀ W,Below w3.heap.size w3 W→∀ j,j < 40→W.cell? ⟨xb,0,none⟩=some (.slice A' s.c.1.1.length c')∧W.cell? ⟨xb,1,none⟩=some (.slice D' s.c.1.2.length d')∧W.cell? ⟨xb,44,none⟩=some (.int .i64 (s.nw:Nat))∧W.cell? ⟨xb,4+j,none⟩=some (.slice (sa' j) (s.sn j).length (sc' j))):=fun W hb j hj=>by
      have hr:=(hb.block xb hx3).trans HROW3.out
      rw [HRS.out] at hr
      obtain ⟨h0,h1,h2,h3,h4,h5,h6,h7,h8,h9,h10,h11,h12,h13,h14,h15,h16,h17,h18,h19,h20,h21,h22,h23,h24,h25,h26,h27,h28,h29,h30,h31,h32,h33,h34,h35,h36,h37,h38,h39,h40,h41,h42,h43,h44,h45,h46,h47,h48,h49,h50,h51,h52,h53,hf⟩:=blk54 hr
      exact ⟨h0,h1,h44,by rw [cell_of_row W xb (4+j) _ _ _ hr]; exact row_sn hj⟩
    clear hs
    go_wp2_with fail
    go_loopw [7] (fun i wr=>∃ j:Nat,1≤j∧j≤s.nw+1∧i = .int .i64 j∧Below w3.heap.size w3 wr) (fun i _=>s.nw+1 - (intOf i).toNat)
    case atStart=>exact ⟨1,by omega,by omega,rfl,Below.refl _ _⟩
    case round =>
      obtain ⟨wo,rfl⟩:∃ wo:World,wo=wr:=⟨_,rfl⟩
      obtain ⟨j,hj1,hj2,rfl,hB⟩:=hrel
      have hj0:(0:Int)≤(j:Int):=by omega
      have hj40:(j:Int) < 40:=by omega
      obtain ⟨h0,h1,h44,hsn⟩:=HC.out wo hB j (by omega)
      by_cases hlt:j≤s.nw
      · have hji:(j:Int)≤(s.nw:Int):=by omega
        obtain ⟨r,hr⟩:∃ r,sImage s.c.1 (j:Int)=r:=⟨_,rfl⟩
        obtain ⟨f,hf⟩:∃ f,findE s.c.1 (j:Int)=f:=⟨_,rfl⟩
        have hM3:=HM3.out
        have HIG:=Lib.hid (snImage_any A' D' c' d' s.c.1.1.length s.c.1.2.length s.c.1.1 s.c.1.2 (j:Int) wo rfl rfl ((hM3.cls.im.2.2.blk (fun q hq=>hB.block q hq.2)).more (fun q hq=>by have:=hq.2; have:=hB.size; show q < wo.heap.size; omega)) ((hM3.cls.sn.2.2.blk (fun q hq=>hB.block q hq.2)).more (fun q hq=>by have:=hq.2; have:=hB.size; show q < wo.heap.size; omega)) hlm.1.1 hM3.cls.sn.1 r hr f hf)
        have HSP:Hid (f=0→r=s.sn j):=fun h=>by rw [← hr]; exact HINV.out.spares (by rw [hf]; exact h)
        have HIMJ:=Lib.hid (hM3.sns j (by omega))
        have hlj:(s.sn j).length=2:=by
          have:=congrArg List.length (HINV.out.snl j hj1 hlt)
          simpa [lens] using this
        have hlj9:(s.sn j).length≤9223372036854775807:=by omega
        clear hM3 hr hf hlj
        go_wp2_with fail
        refine HIG.out.mono ?_
        rintro e w5 ⟨Bx,vx,rfl,z1,z2,z3,hb5⟩
        have hB5:Below w3.heap.size w3 w5:=ext_trans hB hb5
        have HZ3:=Lib.hid (z3.more (S':=Bl w5.heap.size) (fun g hg=>hg.2))
        clear h0 h1 h44 hsn z3 HIG
        obtain ⟨h0,h1,h44,hsn⟩:=HC.out w5 hB5 j (by omega)
        by_cases hf0:f=0
        · have hfd:(f == 0)=true:=by simp [hf0]
          obtain rfl:r=s.sn j:=HSP.out hf0
          clear hf0
          have HSM:=Lib.hid (sameImg07_any Bx (sa' j) vx (sc' j) _ _ (s.sn j) (s.sn j) w5 HZ3.out ((HIMJ.out.2.2.blk (fun q hq=>hB5.block q hq.2)).more (S':=Bl w5.heap.size) (fun q hq=>by have:=hq.2; have:=hB5.size; show q < w5.heap.size; omega)) hlj9 hlj9)
          rw [beq_self_eq_true] at HSM
          go_wp2_with fail
          refine HSM.out.mono ?_
          rintro e w6 ⟨rfl,hd6⟩
          have hB6:Below w3.heap.size w3 w6:=hB5.trans (hd6.below _)
          clear HSM h0 h1 h44 hsn
          go_wp2_with fail
          go_roundw
          case rel=>exact ⟨j+1,by omega,by omega,by go_num,hB6⟩
          case measure=>simp [intOf]; omega
        · have hfd:(f == 0)=false:=by simp [hf0]
          clear hf0 HSP
          go_wp2_with fail
          go_roundw
          case rel=>exact ⟨j+1,by omega,by omega,by go_num,hB5⟩
          case measure=>simp [intOf]; omega
      · have hji:¬ (j:Int)≤(s.nw:Int):=by omega
        go_wp2_with fail
        refine (awake37_any _).mono ?_
        rintro e wz ⟨rfl,hbz⟩
        go_wp2
        go_ret
        exact ⟨rfl,ext_trans hB3 (ext_trans hB hbz)⟩
end Go.Proofs.YtgndgkjefgjamaaGreat

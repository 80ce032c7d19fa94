/-
  The law's small over events; the law of a run: the images of clones are what they should be.
-/
import Derived.BigQuiet
import Derived.Deep.DeepCutAuto
import Derived.Test.YtgndgkjefgjamaaGreatY01
import Derived.Test.YtgndgkjefgjamaaGreatY02
import Derived.Test.YtgndgkjefgjamaaGreatY03
import Derived.Test.YtgndgkjefgjamaaGreatY04
import Derived.Test.YtgndgkjefgjamaaGreatY05
import Derived.Test.YtgndgkjefgjamaaGreatY06
import Derived.Test.YtgndgkjefgjamaaGreatY07
import Derived.Test.YtgndgkjefgjamaaGreatY08
import Derived.Test.YtgndgkjefgjamaaGreatY09
import Derived.Test.YtgndgkjefgjamaaGreatY10
import Derived.Test.YtgndgkjefgjamaaGreatY11
import Derived.Test.YtgndgkjefgjamaaGreatY12
import Derived.Test.YtgndgkjefgjamaaGreatY13
import Derived.Test.YtgndgkjefgjamaaGreatY14
import Derived.Test.YtgndgkjefgjamaaGreatY15
import Derived.Test.YtgndgkjefgjamaaGreatY16
import Derived.Test.YtgndgkjefgjamaaGreatY17
import Derived.Test.YtgndgkjefgjamaaGreatY18
import Derived.Test.YtgndgkjefgjamaaGreatY19
import Derived.Test.YtgndgkjefgjamaaGreatY20
set_option linter.unusedVariables false
set_option linter.unusedSimpArgs false
set_option linter.unusedSectionVars false
set_option linter.unnecessarySimpa false
namespace Go.Proofs.YtgndgkjefgjamaaGreat
open Go.RowKit Go.Shelf
attribute [local go_sem] Oper.semAt_some

set_option maxHeartbeats 4000000 in
set_option maxRecDepth 100000 in
theorem keeps37_any (A:Option Addr) (c n:Nat) (sz:Int) (es:List CEv) (w:World) (hn:es.length=n) (h0:SlAt encEv w (Bl w.heap.size) A es) (hl:n≤9223372036854775807) (hsz:0≤sz∧sz < 256) :
    Calls Tryz.prog 7 #[.int .u8 sz,.slice A n c] w fun e w'=>e = .returned (.bool true)∧Below w.heap.size w w':=by
  obtain ⟨q,hq⟩:∃ q,smallEv es=q:=⟨_,rfl⟩
  have HSM:=Lib.hid (small37_any A c n es w hn h0 hl q hq)
  have H0:=Lib.hid h0
  have HQ:=Lib.hid hq
  clear hq h0
  go_enter Tryz.func7,Tryz.ntmps7
  go_wp2_with fail
  refine HSM.out.mono ?_
  rintro e w1 ⟨rfl,hw1⟩
  have hw2:=hw1.symm
  clear hw1 HSM
  subst hw2
  cases q with
  | false =>
    go_wp2_with fail
    refine (awake37_any _).mono ?_
    rintro e wz ⟨rfl,hbz⟩
    go_wp2
    go_ret
    exact ⟨rfl,hbz⟩
  | true =>
    obtain ⟨hs1,hs2⟩:=smallEv_iff.1 HQ.out
    have HRN:=Lib.hid (run37_any A c n sz (1+sz % 12) es _ w hn H0.out (by omega) hs1 hsz rfl rfl)
    clear hs1 hs2 HQ
    go_wp2_with fail
    refine HRN.out.mono ?_
    rintro e w2 ⟨row,A',c',D',d',G',g',B',bc',sa',sc',ca',cc',rfl,hR,hM,hb2⟩
    clear HRN
    subst hn
    -- the run's state is laid into a variable (block xb, world w3)
    obtain ⟨xb,hxb⟩:∃ xb,w2.heap.size=xb:=⟨_,rfl⟩
    obtain ⟨wz,hwz⟩:∃ W,w2.alloc (.cells #[.slice none 0 0,.slice none 0 0,.slice none 0 0,.slice none 0 0,.slice none 0 0,.slice none 0 0,.slice none 0 0,.slice none 0 0,.slice none 0 0,.slice none 0 0,.slice none 0 0,.slice none 0 0,.slice none 0 0,.slice none 0 0,.slice none 0 0,.slice none 0 0,.slice none 0 0,.slice none 0 0,.slice none 0 0,.slice none 0 0,.slice none 0 0,.slice none 0 0,.slice none 0 0,.slice none 0 0,.slice none 0 0,.slice none 0 0,.slice none 0 0,.slice none 0 0,.slice none 0 0,.slice none 0 0,.slice none 0 0,.slice none 0 0,.slice none 0 0,.slice none 0 0,.slice none 0 0,.slice none 0 0,.slice none 0 0,.slice none 0 0,.slice none 0 0,.slice none 0 0,.slice none 0 0,.slice none 0 0,.slice none 0 0,.slice none 0 0,.int .i64 0,.slice none 0 0,.slice none 0 0,.slice none 0 0,.slice none 0 0,.bool false,.bool false,.bool false,.bool false,.bool false] 79)=W:=⟨_,rfl⟩
    have hrz:wz.heap[xb]? = some (.cells #[.slice none 0 0,.slice none 0 0,.slice none 0 0,.slice none 0 0,.slice none 0 0,.slice none 0 0,.slice none 0 0,.slice none 0 0,.slice none 0 0,.slice none 0 0,.slice none 0 0,.slice none 0 0,.slice none 0 0,.slice none 0 0,.slice none 0 0,.slice none 0 0,.slice none 0 0,.slice none 0 0,.slice none 0 0,.slice none 0 0,.slice none 0 0,.slice none 0 0,.slice none 0 0,.slice none 0 0,.slice none 0 0,.slice none 0 0,.slice none 0 0,.slice none 0 0,.slice none 0 0,.slice none 0 0,.slice none 0 0,.slice none 0 0,.slice none 0 0,.slice none 0 0,.slice none 0 0,.slice none 0 0,.slice none 0 0,.slice none 0 0,.slice none 0 0,.slice none 0 0,.slice none 0 0,.slice none 0 0,.slice none 0 0,.slice none 0 0,.int .i64 0,.slice none 0 0,.slice none 0 0,.slice none 0 0,.slice none 0 0,.bool false,.bool false,.bool false,.bool false,.bool false] 79 (0,0)):=by rw [← hwz, ← hxb]; exact heap_alloc_new _ _
    have hbz:Below w.heap.size w wz:=by rw [← hwz]; exact hb2.alloc hb2.size _
    have hkz2:∀ q,q < w2.heap.size→wz.heap[q]? = w2.heap[q]? := by rw [← hwz]; exact fun q hq=>Below.heap_alloc _ _ _ hq
    have hszz:wz.heap.size=xb+1:=by rw [← hwz, ← hxb]; simp
    have HRZ:=Lib.hid hrz
    have HKZ:=Lib.hid hkz2
    have HSZ:=Lib.hid hszz
    have HXW:Hid (w.heap.size≤xb):=by rw [← hxb]; exact hb2.size
    have HRS:=Lib.hid hR
    have HMS:=Lib.hid hM
    have HAL:=Lib.hid (st_all hR)
    clear hrz hkz2 hszz hR hM
    go_upto_region 4 with (first | (refine wpList_store_row rfl 79 _ _ rfl xb row rfl rfl 79 _ HRZ.out HAL.out.2 (st_size HAL.out.2 (by kernel_rfl) (by kernel_rfl)) HAL.out.1 ?_) | fail)
    obtain ⟨w3,hw3⟩:∃ W,wz.setRow xb row=W:=⟨_,rfl⟩
    have HROW3:Hid (w3.heap[xb]? = some (.cells row 79 (0,0))):=by rw [← hw3]; exact setRow_heap wz xb _ row _ _ HRZ.out
    have hB3:Below w.heap.size w w3:=by rw [← hw3]; exact below_setRow hbz HXW.out row
    have hx3:xb < w3.heap.size:=by rw [← hw3,setRow_size,HSZ.out]; omega
    have HM3:Hid (StM (cRun ([1+sz % 12,4].map zimg) es es.length) A' c' D' d' G' g' B' bc' sa' sc' ca' cc' (fun q=>q≠xb∧q < w3.heap.size) w3):=HMS.out.keep (fun q hq=>by
      have h1:q < w2.heap.size:=hq
      rw [← hw3]; exact (setRow_other wz xb q row (by omega)).trans (HKZ.out q h1)) (fun q hq=>by
      have h1:q < w2.heap.size:=hq
      exact ⟨by omega,by rw [← hw3,setRow_size,HSZ.out]; omega⟩)
    rw [hw3]
    clear hw3 HRZ HKZ HSZ hwz hbz HMS hxb hb2
    go_wp2_with fail
    refine (awake37_any _).mono ?_
    rintro e wz ⟨rfl,hbz⟩
    go_wp2
    go_ret
    exact ⟨rfl,ext_trans hB3 hbz⟩
end Go.Proofs.YtgndgkjefgjamaaGreat

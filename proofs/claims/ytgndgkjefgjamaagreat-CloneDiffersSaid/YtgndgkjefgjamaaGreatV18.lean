/-
  State.step of a run over clones: a snapshot is dropped.; State.step of a run over clones: a write is replicated.; State.step of a run over clones: any event. Events as a reading; a row read in a drawn region.; The reference's image of zero sectors: the walk.; The reference's Union and Between.; The laws of a run: each item keeps its image; a deletion never makes the cost greater: the walk.; Plain words: what is saved for an item was written between it and the next one. No program in sight.; Plain words: a whole run over clones, and what its laws ask of it. No program in sight.
-/
import Derived.BigQuiet
import Derived.Deep.DeepCutAuto
import Derived.Test.YtgndgkjefgjamaaGreatV01
import Derived.Test.YtgndgkjefgjamaaGreatV02
import Derived.Test.YtgndgkjefgjamaaGreatV03
import Derived.Test.YtgndgkjefgjamaaGreatV04
import Derived.Test.YtgndgkjefgjamaaGreatV05
import Derived.Test.YtgndgkjefgjamaaGreatV06
import Derived.Test.YtgndgkjefgjamaaGreatV07
import Derived.Test.YtgndgkjefgjamaaGreatV08
import Derived.Test.YtgndgkjefgjamaaGreatV09
import Derived.Test.YtgndgkjefgjamaaGreatV10
import Derived.Test.YtgndgkjefgjamaaGreatV11
import Derived.Test.YtgndgkjefgjamaaGreatV12
import Derived.Test.YtgndgkjefgjamaaGreatV13
import Derived.Test.YtgndgkjefgjamaaGreatV14
import Derived.Test.YtgndgkjefgjamaaGreatV15
import Derived.Test.YtgndgkjefgjamaaGreatV16
import Derived.Test.YtgndgkjefgjamaaGreatV17
set_option linter.unusedVariables false
set_option linter.unusedSimpArgs false
set_option linter.unusedSectionVars false
set_option linter.unnecessarySimpa false
namespace Go.Proofs.YtgndgkjefgjamaaGreat
open Go.RowKit Go.Shelf
attribute [local go_sem] Oper.semAt_some

set_option maxHeartbeats 8000000 in
set_option maxRecDepth 100000 in
theorem sstep4_any (a:Int) (k i:Nat) (s:CSt) (A D G B Dw:Option Addr) (c d g bc dw wl:Nat) (sa:Nat→Option Addr) (sc:Nat→Nat) (ca:Nat→Option Addr) (cc:Nat→Nat) (S:Nat→Prop) (row:Array Value) (hR:row=(stl s A c D d G g B bc sa sc ca cc)) (kd wh v st:Int) (data:List Sec) (w:World) (ha:1≤a∧a≤12) (hk:k≤30) (h:CInv [a,4] k s) (hM:StM s A c D d G g B bc sa sc ca cc (fun q=>S q∧q<w.heap.size) w)
  (hkd:0≤kd∧kd<256) (hwh:0≤wh∧wh<256) (hi:wh % 4=i) (hwl:data.length=wl) (h4:SlAt encSec w (Bl w.heap.size) Dw data) (hvs:I64 v∧I64 st) (hdl:wl≤1000) (hdc:wl≤dw∧dw≤maxLen) (hk3:kd % 6=4) :
  Calls Tryz.prog 89 #[.agg row,.agg #[.int .u8 kd,.int .u8 wh,.int .i64 v,.int .i64 st,.slice Dw wl dw]] w (StRet S (cStep s (kd,wh,(v,st,data))) w):=by
 have hk0:k≤1000:=by omega
 obtain⟨sb,hsb⟩:∃ sb,w.heap.size=sb:=⟨_,rfl⟩
 obtain⟨kr,hkr⟩:∃ kr,kd % 6=kr:=⟨_,rfl⟩
 have hmod6:kd.tmod 6=kr:=by rw [Int.tmod_eq_emod_of_nonneg hkd.1];exact hkr
 obtain⟨W0,hW0⟩:∃ W0,((w.alloc (.cells row 79)).alloc (.cells #[.int .u8 kd,.int .u8 wh,.int .i64 v,.int .i64 st,.slice Dw wl dw] 149)).alloc (.cells #[.slice none 0 0,.slice none 0 0,.slice none 0 0,.slice none 0 0,.slice none 0 0,.slice none 0 0,.slice none 0 0,.slice none 0 0,.slice none 0 0,.slice none 0 0,.slice none 0 0,.slice none 0 0,.slice none 0 0,.slice none 0 0,.slice none 0 0,.slice none 0 0,.slice none 0 0,.slice none 0 0,.slice none 0 0,.slice none 0 0,.slice none 0 0,.slice none 0 0,.slice none 0 0,.slice none 0 0,.slice none 0 0,.slice none 0 0,.slice none 0 0,.slice none 0 0,.slice none 0 0,.slice none 0 0,.slice none 0 0,.slice none 0 0,.slice none 0 0,.slice none 0 0,.slice none 0 0,.slice none 0 0,.slice none 0 0,.slice none 0 0,.slice none 0 0,.slice none 0 0,.slice none 0 0,.slice none 0 0,.slice none 0 0,.slice none 0 0,.int .i64 0,.slice none 0 0,.slice none 0 0,.slice none 0 0,.slice none 0 0,.bool false,.bool false,.bool false,.bool false,.bool false] 79)=W0:=⟨_,rfl⟩
 have hB0:Below w.heap.size w W0:=by rw [← hW0];exact ext_alloc (ext_alloc (ext_alloc (Below.refl _ _)))
 have hz0:sb+1+1<W0.heap.size:=by rw [← hW0, ← hsb];simp
 have hrow:W0.heap[sb]? = some (.cells row 79 (0,0)):=by rw [← hW0, ← hsb];exact (Below.heap_alloc _ _ _ (by simp <;> omega)).trans ((Below.heap_alloc _ _ _ (by simp)).trans (heap_alloc_new _ _))
 have hev:W0.heap[sb+1]? = some (.cells #[.int .u8 kd,.int .u8 wh,.int .i64 v,.int .i64 st,.slice Dw wl dw] 149 (0,0)):=by rw [← hW0, ← hsb];exact (Below.heap_alloc _ _ _ (by simp)).trans (heap_new2 _ _ _)
 have hres:W0.heap[sb+1+1]? = some (.cells #[.slice none 0 0,.slice none 0 0,.slice none 0 0,.slice none 0 0,.slice none 0 0,.slice none 0 0,.slice none 0 0,.slice none 0 0,.slice none 0 0,.slice none 0 0,.slice none 0 0,.slice none 0 0,.slice none 0 0,.slice none 0 0,.slice none 0 0,.slice none 0 0,.slice none 0 0,.slice none 0 0,.slice none 0 0,.slice none 0 0,.slice none 0 0,.slice none 0 0,.slice none 0 0,.slice none 0 0,.slice none 0 0,.slice none 0 0,.slice none 0 0,.slice none 0 0,.slice none 0 0,.slice none 0 0,.slice none 0 0,.slice none 0 0,.slice none 0 0,.slice none 0 0,.slice none 0 0,.slice none 0 0,.slice none 0 0,.slice none 0 0,.slice none 0 0,.slice none 0 0,.slice none 0 0,.slice none 0 0,.slice none 0 0,.slice none 0 0,.int .i64 0,.slice none 0 0,.slice none 0 0,.slice none 0 0,.slice none 0 0,.bool false,.bool false,.bool false,.bool false,.bool false] 79 (0,0)):=by rw [← hW0, ← hsb];exact heap_new3 _ _ _ _
 have HW0:=Lib.hid hW0
 have HSB:=Lib.hid hsb
 have HM0:=Lib.hid hM
 have HROW:=Lib.hid hrow
 have HEV:=Lib.hid hev
 have HRES:=Lib.hid hres
 have hwsb:w.heap.size≤sb∧sb≤w.heap.size:=by omega
 have HC5:Hid (∀ W,Below W0.heap.size W0 W→W.cell? ⟨sb,0,none⟩=some (.slice A s.c.1.1.length c)∧W.cell? ⟨sb,1,none⟩=some (.slice D s.c.1.2.length d)∧W.cell? ⟨sb,2,none⟩=some (.slice G s.c.2.length g)∧W.cell? ⟨sb,44,none⟩=some (.int .i64 (s.nw:Nat))∧W.cell? ⟨sb,3,none⟩=some (.slice B s.cur.length bc)∧W.cell? ⟨sb,53,none⟩=some (.bool true)∧∀ j,W.frozen? ⟨sb,j,none⟩=false):=fun W hb=>by
  have hrow2:=(hb.block sb (by omega)).trans hrow
  rw [hR] at hrow2
  obtain⟨h0,h1,h2,h3,h4,h5,h6,h7,h8,h9,h10,h11,h12,h13,h14,h15,h16,h17,h18,h19,h20,h21,h22,h23,h24,h25,h26,h27,h28,h29,h30,h31,h32,h33,h34,h35,h36,h37,h38,h39,h40,h41,h42,h43,h44,h45,h46,h47,h48,h49,h50,h51,h52,h53,hf⟩:=blk54 hrow2
  exact⟨h0,h1,h2,h44,h3,h53,hf⟩
 have HCL:Hid (∀ W,Below W0.heap.size W0 W→ClAt s.c A c D d G g (Bl W.heap.size) W):=fun W hb=>hM.cls.keep (fun q hq=>(hB0.trans (hb.mono hB0.size)).block q hq.2) (fun q hq=>by have:=hq.2;have:=hB0.size;have:=hb.size;show q<W.heap.size;omega)
 have H4:Hid (∀ W,Below W0.heap.size W0 W→SlAt encSec W (Bl W.heap.size) Dw data):=fun W hb=>h4.fwd (hB0.trans (hb.mono hB0.size))
 have HEC:Hid (∀ W,Below W0.heap.size W0 W→W.cell? ⟨sb+1,2,none⟩=some (.int .i64 v)∧W.cell? ⟨sb+1,3,none⟩=some (.int .i64 st)∧W.cell? ⟨sb+1,4,none⟩=some (.slice Dw wl dw)):=fun W hb=>by
  have h:=(hb.block (sb+1) (by omega)).trans hev
  exact⟨cell_of_row W (sb+1) 2 _ _ _ h,cell_of_row W (sb+1) 3 _ _ _ h,cell_of_row W (sb+1) 4 _ _ _ h⟩
 have HE1:Hid (∀ W,Below W0.heap.size W0 W→W.cell? ⟨sb+1,1,none⟩=some (.int .u8 wh)):=fun W hb=>cell_of_row W (sb+1) 1 _ _ _ ((hb.block (sb+1) (by omega)).trans hev)
 have ev0:W0.cell? ⟨sb+1,0,none⟩=some (.int .u8 kd):=cell_of_row W0 (sb+1) 0 _ _ _ hev
 have ev1:W0.cell? ⟨sb+1,1,none⟩=some (.int .u8 wh):=cell_of_row W0 (sb+1) 1 _ _ _ hev
 have HR:=Lib.hid hR
 clear hrow hres hM hev hR
 go_enter Tryz.func89,Tryz.ntmps89
 go_upto_region 3 with (fail)
 clear hW0 ev0 ev1
 try rw [HW0.out]
 clear HW0
 obtain rfl:kr=4:=by omega
 have hnw:=h.nw
 have hnn0:(0:Int)≤(s.nw:Int):=by omega
 have hnn9:(s.nw:Int)<35:=by omega
 obtain⟨z,hz⟩:∃ z,wh % ((s.nw:Int)+1)=z:=⟨_,rfl⟩
 have hzt:wh.tmod ((s.nw:Int)+1)=z:=by rw [Int.tmod_eq_emod_of_nonneg hwh.1];exact hz
 have hz2:0≤z∧z<256:=by
  rw [← hz]
  have h1:=Int.emod_nonneg wh (show (s.nw:Int)+1≠0 by omega)
  have h2:=Int.emod_lt_of_pos wh (show 0<(s.nw:Int)+1 by omega)
  omega
 obtain⟨x,hx⟩:∃ x,dropS s.c z=x:=⟨_,rfl⟩
 obtain⟨n,hn⟩:∃ n,dropE s.c z=n:=⟨_,rfl⟩
 have HDL:=Lib.hid (fun W (hb:Below W0.heap.size W0 W)=>csDrop h ha hk0 (HCL.out W hb) hx hn)
 have HS0:Hid (cStep s (kd,wh,(v,st,data))=if n=0 then { s with c:=x } else s):=by
  unfold cStep
  simp only
  rw [if_neg (by omega),if_neg (by omega),if_pos (by omega),hz,hx,hn];exact rfl
 have hSw:Below W0.heap.size W0 W0.drew:=(Below.refl _ _).drew
 have HWR:Hid (IntKind.i64.wrap ((s.nw:Int)+1)=(s.nw:Int)+1):=IntWalk.i64_in _ (by omega)
 have HWH:Hid (IntKind.i64.wrap wh=wh):=IntWalk.i64_in _ (by omega)
 have HZT:=Lib.hid hzt
 clear hx hn hnw hz hz2 hzt
 go_upto_region 12 with (fail)
 go_cut [9,10] (fun p f wx=>f = .int .i64 n∧(∃ tz,p = .pointer (some ⟨tz,0,none⟩)∧W0.heap.size≤tz∧∃ A5 c5 D5 d5 G5 g5,ClN W0.heap.size tz x A5 c5 D5 d5 G5 g5 wx)∧Below W0.heap.size W0 wx)
 case first =>
  refine wp_region_U (fun W'=>Below W0.heap.size W0 W') 15 (by kernel_rfl) ?_
  refine wpAnyU_takeD (i:=0) (v := ?_) rfl rfl (by kernel_rfl) (by kernel_rfl) (by kernel_rfl) (by kernel_rfl) (fun _ _ _ h=>h) (by rfl) ?_ hSw ?_
  rotate_left 1
  ·intro W9 hW9
   try dsimp only at hW9
   obtain _:=trivial
   go_simp
   try with_reducible rfl
  try simp only [List.setIfInBounds_toArray,List.set_cons_zero,List.set_cons_succ]
  refine wpAnyU_takeD (i:=1) (v := ?_) rfl rfl (by kernel_rfl) (by kernel_rfl) (by kernel_rfl) (by kernel_rfl) (fun _ _ _ h=>h) (by rfl) ?_ hSw ?_
  rotate_left 1
  ·intro W9 hW9
   try dsimp only at hW9
   obtain⟨q0,q1,q2,q3,q4,q5,q6⟩:=HC5.out W9 hW9
   go_simp
   try with_reducible rfl
  try simp only [List.setIfInBounds_toArray,List.set_cons_zero,List.set_cons_succ]
  refine wpAnyU_takeD (i:=2) (v := ?_) rfl rfl (by kernel_rfl) (by kernel_rfl) (by kernel_rfl) (by kernel_rfl) (fun _ _ _ h=>h) (by rfl) ?_ hSw ?_
  rotate_left 1
  ·intro W9 hW9
   try dsimp only at hW9
   obtain _:=trivial
   go_simp
   try with_reducible rfl
  try simp only [List.setIfInBounds_toArray,List.set_cons_zero,List.set_cons_succ]
  refine wpAnyU_takeD (i:=3) (v := ?_) rfl rfl (by kernel_rfl) (by kernel_rfl) (by kernel_rfl) (by kernel_rfl) (fun _ _ _ h=>h) (by rfl) ?_ hSw ?_
  rotate_left 1
  ·intro W9 hW9
   try dsimp only at hW9
   obtain q0:=HE1.out W9 hW9
   go_simp
   try with_reducible rfl
  try simp only [List.setIfInBounds_toArray,List.set_cons_zero,List.set_cons_succ]
  refine wpAnyU_takeD (i:=4) (v := ?_) rfl rfl (by kernel_rfl) (by kernel_rfl) (by kernel_rfl) (by kernel_rfl) (fun _ _ _ h=>h) (by rfl) ?_ hSw ?_
  rotate_left 1
  ·intro W9 hW9
   try dsimp only at hW9
   obtain _:=trivial
   go_simp
   try with_reducible rfl
  try simp only [List.setIfInBounds_toArray,List.set_cons_zero,List.set_cons_succ]
  refine wpAnyU_takeD (i:=5) (v := ?_) rfl rfl (by kernel_rfl) (by kernel_rfl) (by kernel_rfl) (by kernel_rfl) (fun _ _ _ h=>h) (by rfl) ?_ hSw ?_
  rotate_left 1
  ·intro W9 hW9
   try dsimp only at hW9
   obtain _:=trivial
   go_simp
   try with_reducible rfl
  try simp only [List.setIfInBounds_toArray,List.set_cons_zero,List.set_cons_succ]
  refine wpAnyU_takeD (i:=6) (v := ?_) rfl rfl (by kernel_rfl) (by kernel_rfl) (by kernel_rfl) (by kernel_rfl) (fun _ _ _ h=>h) (by rfl) ?_ hSw ?_
  rotate_left 1
  ·intro W9 hW9
   try dsimp only at hW9
   obtain⟨q0,q1,q2,q3,q4,q5,q6⟩:=HC5.out W9 hW9
   go_simp
   try with_reducible rfl
  try simp only [List.setIfInBounds_toArray,List.set_cons_zero,List.set_cons_succ]
  refine wpAnyU_takeD (i:=7) (v := ?_) rfl rfl (by kernel_rfl) (by kernel_rfl) (by kernel_rfl) (by kernel_rfl) (fun _ _ _ h=>h) (by rfl) ?_ hSw ?_
  rotate_left 1
  ·intro W9 hW9
   try dsimp only at hW9
   obtain _:=trivial
   go_simp
   try with_reducible rfl
  try simp only [List.setIfInBounds_toArray,List.set_cons_zero,List.set_cons_succ]
  refine wpAnyU_takeD (i:=8) (v := .int .i64 z) rfl rfl (by kernel_rfl) (by kernel_rfl) (by kernel_rfl) (by kernel_rfl) (fun _ _ _ h=>h) (by rfl) ?_ hSw ?_
  ·intro W9 hW9
   go_simp
   rw [HWR.out,if_neg (by omega),HWH.out,HZT.out]
  try simp only [List.setIfInBounds_toArray,List.set_cons_zero,List.set_cons_succ]
  refine wpAnyU_two (i:=9) (j:=13) (by kernel_rfl) rfl rfl rfl rfl (fun K hK => ?_) (fun K hK => ?_)
  ·go_wp2_with fail
   refine (HDL.out _ hSw).mono ?_
   rintro e w6 ⟨A5,c5,D5,d5,G5,g5,rfl,hat,hb6⟩
   have hS6:=hSw.trans (hb6.mono hSw.size)
   have hsz:=hSw.size
   refine hK.out _ _ (fun _=>hS6) ?_
   clear hK K
   try simp only [Act.put,List.setIfInBounds_toArray,List.set_cons_zero,List.set_cons_succ]
   clear hSw
   have hSw:=hS6
   refine wpAnyU_takeD (i:=10) (v := ?_) rfl rfl (by kernel_rfl) (by kernel_rfl) (by kernel_rfl) (by kernel_rfl) (fun _ _ _ h=>h) (by rfl) ?_ hSw ?_
   rotate_left 1
   ·intro W9 hW9
    try dsimp only at hW9
    obtain _:=trivial
    go_simp
    try with_reducible rfl
   try simp only [List.setIfInBounds_toArray,List.set_cons_zero,List.set_cons_succ]
   refine wpAnyU_takeD (i:=11) (v := ?_) rfl rfl (by kernel_rfl) (by kernel_rfl) (by kernel_rfl) (by kernel_rfl) (fun _ _ _ h=>h) (by rfl) ?_ hSw ?_
   rotate_left 1
   ·intro W9 hW9
    try dsimp only at hW9
    obtain _:=trivial
    go_simp
    try with_reducible rfl
   try simp only [List.setIfInBounds_toArray,List.set_cons_zero,List.set_cons_succ]
   refine wpAnyU_takeD (i:=12) (v := ?_) rfl rfl (by kernel_rfl) (by kernel_rfl) (by kernel_rfl) (by kernel_rfl) (fun _ _ _ h=>h) (by rfl) ?_ hSw ?_
   rotate_left 1
   ·intro W9 hW9
    try dsimp only at hW9
    obtain _:=trivial
    go_simp
    try with_reducible rfl
   try simp only [List.setIfInBounds_toArray,List.set_cons_zero,List.set_cons_succ]
   have hS7:Below W0.heap.size W0 (w6.alloc (.cells #[.slice none 0 0,.slice none 0 0,.slice none 0 0] 29)):=hS6.alloc hS6.size _
   have hrz:(w6.alloc (.cells #[.slice none 0 0,.slice none 0 0,.slice none 0 0] 29)).heap[w6.heap.size]? = some (.cells #[.slice none 0 0,.slice none 0 0,.slice none 0 0] 29 (0,0)):=heap_alloc_new _ _
   have hatz:=ClN.mk_ hat (fun q hq=>Below.heap_alloc w6 (.cells #[.slice none 0 0,.slice none 0 0,.slice none 0 0] 29) q hq.2) (t:=w6.heap.size) (lo:=W0.heap.size) (fun q hq=>⟨by have:=hq.1;omega,by have:=hq.2;omega,by have:=hq.2;simp;omega⟩)
   have htz:W0.heap.size≤w6.heap.size:=hS6.size
   refine wpAnyU_op (i:=13) (by kernel_rfl) rfl rfl (fun K hK => ?_)
   go_simp
   refine hK.out _ _ (fun _=>hS7) ?_
   clear hK K
   try simp only [Act.put,List.setIfInBounds_toArray,List.set_cons_zero,List.set_cons_succ]
   change wpAnyU _ _ _ _ _ _ _ _ _ (w6.alloc (.cells #[.slice none 0 0,.slice none 0 0,.slice none 0 0] 29))
   generalize w6.alloc (.cells #[.slice none 0 0,.slice none 0 0,.slice none 0 0] 29)=w7 at hS7 hrz hatz ⊢
   generalize w6.heap.size=tz at hrz hatz htz ⊢
   clear hat hb6 hS6 hSw
   obtain⟨v0,v1,v2,vf⟩:=blk3 hrz
   have hSs:=sw3_below hS7 htz (.slice A5 (x).1.1.length c5) (.slice D5 (x).1.2.length d5) (.slice G5 (x).2.length g5)
   have hcl:=ClN.store hatz hrz
   refine wpAnyU_op (i:=14) (by kernel_rfl) rfl rfl (fun K hK => ?_)
   go_simp
   refine hK.out _ _ (fun _=>hSs) ?_
   clear hK K
   try simp only [Act.put,List.setIfInBounds_toArray,List.set_cons_zero,List.set_cons_succ]
   refine wpAnyU_op (i:=15) (by kernel_rfl) rfl rfl (fun K hK => ?_)
   go_simp
   refine hK.out _ _ (fun _=>hSs) ?_
   clear hK K
   try simp only [Act.put,List.setIfInBounds_toArray,List.set_cons_zero,List.set_cons_succ]
   refine wpAnyU_done (by kernel_rfl) ?_ _
   clear v0 v1 v2 vf
   go_wp2
   go_meet
   exact⟨rfl,⟨_,rfl,htz,A5,c5,D5,d5,G5,g5,hcl⟩,hSs⟩
  ·have hS7:Below W0.heap.size W0 (W0.drew.alloc (.cells #[.slice none 0 0,.slice none 0 0,.slice none 0 0] 29)):=hSw.alloc hSw.size _
   have hrz:(W0.drew.alloc (.cells #[.slice none 0 0,.slice none 0 0,.slice none 0 0] 29)).heap[W0.heap.size]? = some (.cells #[.slice none 0 0,.slice none 0 0,.slice none 0 0] 29 (0,0)):=heap_alloc_new W0.drew _
   have htz:W0.heap.size≤W0.heap.size:=hSw.size
   go_simp
   refine hK.out _ _ (fun _=>hS7) ?_
   clear hK K
   try simp only [Act.put,List.setIfInBounds_toArray,List.set_cons_zero,List.set_cons_succ]
   change wpAnyU _ _ _ _ _ _ _ _ _ (W0.drew.alloc (.cells #[.slice none 0 0,.slice none 0 0,.slice none 0 0] 29))
   generalize W0.drew.alloc (.cells #[.slice none 0 0,.slice none 0 0,.slice none 0 0] 29)=w7 at hS7 hrz ⊢
   refine wpAnyU_op (i:=9) (by kernel_rfl) rfl rfl (fun K hK => ?_)
   go_wp2_with fail
   refine (HDL.out _ hS7).mono ?_
   rintro e w8 ⟨A5,c5,D5,d5,G5,g5,rfl,hat,hb8⟩
   have hl7:=(Array.getElem?_eq_some_iff.1 hrz).1
   have hS8:=hS7.trans (hb8.mono hS7.size)
   replace hrz:=(hb8.block _ hl7).trans hrz
   have hatz:=ClN.mk_ hat (fun q _=>rfl) (t:=W0.heap.size) (lo:=W0.heap.size) (fun q hq=>⟨by have:=hq.1;omega,by have:=hq.1;omega,hq.2⟩)
   refine hK.out _ _ (fun _=>hS8) ?_
   clear hK K
   try simp only [Act.put,List.setIfInBounds_toArray,List.set_cons_zero,List.set_cons_succ]
   clear hSw hS7 hl7 hat hb8
   have hSw:=hS8
   refine wpAnyU_takeD (i:=10) (v := ?_) rfl rfl (by kernel_rfl) (by kernel_rfl) (by kernel_rfl) (by kernel_rfl) (fun _ _ _ h=>h) (by rfl) ?_ hSw ?_
   rotate_left 1
   ·intro W9 hW9
    try dsimp only at hW9
    obtain _:=trivial
    go_simp
    try with_reducible rfl
   try simp only [List.setIfInBounds_toArray,List.set_cons_zero,List.set_cons_succ]
   refine wpAnyU_takeD (i:=11) (v := ?_) rfl rfl (by kernel_rfl) (by kernel_rfl) (by kernel_rfl) (by kernel_rfl) (fun _ _ _ h=>h) (by rfl) ?_ hSw ?_
   rotate_left 1
   ·intro W9 hW9
    try dsimp only at hW9
    obtain _:=trivial
    go_simp
    try with_reducible rfl
   try simp only [List.setIfInBounds_toArray,List.set_cons_zero,List.set_cons_succ]
   refine wpAnyU_takeD (i:=12) (v := ?_) rfl rfl (by kernel_rfl) (by kernel_rfl) (by kernel_rfl) (by kernel_rfl) (fun _ _ _ h=>h) (by rfl) ?_ hSw ?_
   rotate_left 1
   ·intro W9 hW9
    try dsimp only at hW9
    obtain _:=trivial
    go_simp
    try with_reducible rfl
   try simp only [List.setIfInBounds_toArray,List.set_cons_zero,List.set_cons_succ]
   clear hSw
   obtain⟨v0,v1,v2,vf⟩:=blk3 hrz
   have hSs:=sw3_below hS8 htz (.slice A5 (x).1.1.length c5) (.slice D5 (x).1.2.length d5) (.slice G5 (x).2.length g5)
   have hcl:=ClN.store hatz hrz
   refine wpAnyU_op (i:=14) (by kernel_rfl) rfl rfl (fun K hK => ?_)
   go_simp
   refine hK.out _ _ (fun _=>hSs) ?_
   clear hK K
   try simp only [Act.put,List.setIfInBounds_toArray,List.set_cons_zero,List.set_cons_succ]
   refine wpAnyU_op (i:=15) (by kernel_rfl) rfl rfl (fun K hK => ?_)
   go_simp
   refine hK.out _ _ (fun _=>hSs) ?_
   clear hK K
   try simp only [Act.put,List.setIfInBounds_toArray,List.set_cons_zero,List.set_cons_succ]
   refine wpAnyU_done (by kernel_rfl) ?_ _
   clear v0 v1 v2 vf
   go_wp2
   go_meet
   exact⟨rfl,⟨_,rfl,htz,A5,c5,D5,d5,G5,g5,hcl⟩,hSs⟩
 case rest =>
  obtain⟨rfl,⟨tz,rfl,htz,A5,c5,D5,d5,G5,g5,hcl⟩,hbx⟩:=hcut
  have hrw:=(hbx.block sb (by omega)).trans HROW.out
  have hrr:=(hbx.block (sb+1+1) (by omega)).trans HRES.out
  obtain⟨v0,v1,v2,vf⟩:=blk3 hcl.row
  obtain⟨h0,h1,h2,h44,h3,h53,hf⟩:=HC5.out wc hbx
  have HRW:=Lib.hid hrw
  have HRR:=Lib.hid hrr
  have hbw:Below w.heap.size w wc:=hB0.trans (hbx.mono hB0.size)
  clear hrw hrr
  by_cases hn0:n=0
  case neg =>
   have hne:(n==0)=false:=by simp [hn0]
   have HS:Hid (cStep s (kd,wh,(v,st,data))=s):=HS0.out.trans (if_neg hn0)
   have HMN:=Lib.hid (StM.mk2 (s':=s) (rb:=sb+1+1) HM0.out (HM0.out.cls.keep (fun q hq=>hbw.block q hq.2) (fun q hq=>⟨Or.inl hq.1,by have:=hbw.size;have:=hq.2;omega,by have:=hq.2;omega⟩)) hbw (fun q hq=>by omega) rfl rfl rfl)
   have HAL:=Lib.hid (st_all (s':=s) (B':=B) (bc':=bc) (sa':=sa) (sc':=sc) (ca':=ca) (cc':=cc) HR.out)
   clear h0 h1 h2 h44 h3 h53 hf v0 v1 v2 vf hcl hn0 HS0
   -- the state's row is loaded whole and stored into the result
   go_wp2_with (first | (refine wpList_load_row rfl 79 _ rfl sb rfl 79 row (0,0) _ HRW.out Tryz.underlying79 rfl HAL.out.2 ?_) | (refine wpList_store_row rfl 79 _ _ rfl (sb+1+1) row rfl rfl 79 _ HRR.out HAL.out.2 (st_size HAL.out.2 (by kernel_rfl) (by kernel_rfl)) HAL.out.1 ?_))
   have hz:=setRow_heap wc (sb+1+1) _ row _ _ HRR.out
   have hret:=st_ret (S:=S) (w:=w) (rb:=sb+1+1) (row:=row) HR.out (by omega) hbw HMN.out
   generalize wc.setRow (sb+1+1) row=W3 at hz hret ⊢
   refine bodyPost_ret (v := .agg row) (results_cell_row (p:=4) (ty:=79) rfl _ _ (sb+1+1) _ row (0,0) _ rfl hz Tryz.underlying79 rfl HAL.out.2) rfl ?_
   rw [HS.out];exact hret
  subst hn0
  have HS:Hid (cStep s (kd,wh,(v,st,data))={ s with c:=x }):=HS0.out.trans (if_pos rfl)
  obtain⟨Wn,hWn⟩:∃ W,((wc.setCell ⟨sb,0,none⟩ (.slice A5 x.1.1.length c5)).setCell ⟨sb,1,none⟩ (.slice D5 x.1.2.length d5)).setCell ⟨sb,2,none⟩ (.slice G5 x.2.length g5)=W:=⟨_,rfl⟩
  have r5:=row_set (row_set (row_set HRW.out 0 (.slice A5 x.1.1.length c5)) 1 (.slice D5 x.1.2.length d5)) 2 (.slice G5 x.2.length g5)
  obtain⟨row',hrow'⟩:∃ r,((row.setIfInBounds 0 (.slice A5 x.1.1.length c5)).setIfInBounds 1 (.slice D5 x.1.2.length d5)).setIfInBounds 2 (.slice G5 x.2.length g5)=r:=⟨_,rfl⟩
  rw [hrow',hWn] at r5
  have HRQ:=Lib.hid (((congrArg (fun r:Array Value=>((r.setIfInBounds 0 (.slice A5 x.1.1.length c5)).setIfInBounds 1 (.slice D5 x.1.2.length d5)).setIfInBounds 2 (.slice G5 x.2.length g5)) HR.out).symm.trans hrow').symm.trans (row_drp (s':={ s with c:=x }) rfl))
  clear hrow'
  have hkN:∀ b,b≠sb→Wn.heap[b]? = wc.heap[b]? := fun b hb=>by
   rw [← hWn]
   exact (heap_setCell_other _ _ _ _ hb).trans ((heap_setCell_other _ _ _ _ hb).trans (heap_setCell_other _ _ _ _ hb))
  have hzN:Wn.heap.size=wc.heap.size:=by rw [← hWn];simp [World.setCell]
  have hbN:Below w.heap.size w Wn:=by rw [← hWn];exact ((hbw.setCell (p:=⟨sb,0,none⟩) hwsb.1 _).setCell (p:=⟨sb,1,none⟩) hwsb.1 _).setCell (p:=⟨sb,2,none⟩) hwsb.1 _
  have HWN:=Lib.hid hWn
  have R5:=Lib.hid r5
  clear hWn r5
  go_upto_region 15 with (fail)
  rw [HWN.out]
  clear HWN h0 h1 h2 h44 h3 h53 hf v0 v1 v2 vf
  have hrN:=(hkN (sb+1+1) (by omega)).trans HRR.out
  have hMN:StM { s with c:=x } A5 c5 D5 d5 G5 g5 B bc sa sc ca cc (fun q=>(S q∨w.heap.size≤q)∧q<Wn.heap.size∧q≠sb+1+1) Wn :=
   StM.mk2 (s':={ s with c:=x }) HM0.out (hcl.at_.keep (fun q hq=>hkN q (by have:=hq.1;omega)) (fun q hq=>⟨Or.inr (by have:=hq.1;omega),by rw [hzN];exact hq.2.2,by have:=hq.1;omega⟩)) hbN (fun q hq=>by omega) rfl rfl rfl
  have HMN:=Lib.hid hMN
  have HRN:=Lib.hid hrN
  clear hMN hrN hkN hcl
  have HAL:=Lib.hid (st_all (s':={ s with c:=x }) (B':=B) (bc':=bc) (sa':=sa) (sc':=sc) (ca':=ca) (cc':=cc) HRQ.out)
  -- the state's row is loaded whole and stored into the result
  go_wp2_with (first | (refine wpList_load_row rfl 79 _ rfl sb rfl 79 row' (0,0) _ R5.out Tryz.underlying79 rfl HAL.out.2 ?_) | (refine wpList_store_row rfl 79 _ _ rfl (sb+1+1) row' rfl rfl 79 _ HRN.out HAL.out.2 (st_size HAL.out.2 (by kernel_rfl) (by kernel_rfl)) HAL.out.1 ?_))
  have hz:=setRow_heap Wn (sb+1+1) _ row' _ _ HRN.out
  have hret:=st_ret (S:=S) (w:=w) (rb:=sb+1+1) (row:=row') HRQ.out (by omega) hbN HMN.out
  generalize Wn.setRow (sb+1+1) row'=W3 at hz hret ⊢
  refine bodyPost_ret (v := .agg row') (results_cell_row (p:=4) (ty:=79) rfl _ _ (sb+1+1) _ row' (0,0) _ rfl hz Tryz.underlying79 rfl HAL.out.2) rfl ?_
  rw [HS.out];exact hret
end Go.Proofs.YtgndgkjefgjamaaGreat
namespace Go.Proofs.YtgndgkjefgjamaaGreat
open Go.RowKit Go.Shelf
attribute [local go_sem] Oper.semAt_some

set_option maxHeartbeats 8000000 in
set_option maxRecDepth 100000 in
theorem sstep2_any (a:Int) (k i:Nat) (s:CSt) (A D G B Dw:Option Addr) (c d g bc dw wl:Nat) (sa:Nat→Option Addr) (sc:Nat→Nat) (ca:Nat→Option Addr) (cc:Nat→Nat) (S:Nat→Prop) (row:Array Value) (hR:row=(stl s A c D d G g B bc sa sc ca cc)) (kd wh v st:Int) (data:List Sec) (w:World) (ha:1≤a∧a≤12) (hk:k≤30) (h:CInv [a,4] k s) (hM:StM s A c D d G g B bc sa sc ca cc (fun q=>S q∧q<w.heap.size) w)
  (hkd:0≤kd∧kd<256) (hwh:0≤wh∧wh<256) (hi:wh % 4=i) (hwl:data.length=wl) (h4:SlAt encSec w (Bl w.heap.size) Dw data) (hvs:I64 v∧I64 st) (hdl:wl≤1000) (hdc:wl≤dw∧dw≤maxLen) (hk3:kd % 6=2) :
  Calls Tryz.prog 89 #[.agg row,.agg #[.int .u8 kd,.int .u8 wh,.int .i64 v,.int .i64 st,.slice Dw wl dw]] w (StRet S (cStep s (kd,wh,(v,st,data))) w):=by
 have hk0:k≤1000:=by omega
 obtain⟨sb,hsb⟩:∃ sb,w.heap.size=sb:=⟨_,rfl⟩
 obtain⟨kr,hkr⟩:∃ kr,kd % 6=kr:=⟨_,rfl⟩
 have hmod6:kd.tmod 6=kr:=by rw [Int.tmod_eq_emod_of_nonneg hkd.1];exact hkr
 obtain⟨W0,hW0⟩:∃ W0,((w.alloc (.cells row 79)).alloc (.cells #[.int .u8 kd,.int .u8 wh,.int .i64 v,.int .i64 st,.slice Dw wl dw] 149)).alloc (.cells #[.slice none 0 0,.slice none 0 0,.slice none 0 0,.slice none 0 0,.slice none 0 0,.slice none 0 0,.slice none 0 0,.slice none 0 0,.slice none 0 0,.slice none 0 0,.slice none 0 0,.slice none 0 0,.slice none 0 0,.slice none 0 0,.slice none 0 0,.slice none 0 0,.slice none 0 0,.slice none 0 0,.slice none 0 0,.slice none 0 0,.slice none 0 0,.slice none 0 0,.slice none 0 0,.slice none 0 0,.slice none 0 0,.slice none 0 0,.slice none 0 0,.slice none 0 0,.slice none 0 0,.slice none 0 0,.slice none 0 0,.slice none 0 0,.slice none 0 0,.slice none 0 0,.slice none 0 0,.slice none 0 0,.slice none 0 0,.slice none 0 0,.slice none 0 0,.slice none 0 0,.slice none 0 0,.slice none 0 0,.slice none 0 0,.slice none 0 0,.int .i64 0,.slice none 0 0,.slice none 0 0,.slice none 0 0,.slice none 0 0,.bool false,.bool false,.bool false,.bool false,.bool false] 79)=W0:=⟨_,rfl⟩
 have hB0:Below w.heap.size w W0:=by rw [← hW0];exact ext_alloc (ext_alloc (ext_alloc (Below.refl _ _)))
 have hz0:sb+1+1<W0.heap.size:=by rw [← hW0, ← hsb];simp
 have hrow:W0.heap[sb]? = some (.cells row 79 (0,0)):=by rw [← hW0, ← hsb];exact (Below.heap_alloc _ _ _ (by simp <;> omega)).trans ((Below.heap_alloc _ _ _ (by simp)).trans (heap_alloc_new _ _))
 have hev:W0.heap[sb+1]? = some (.cells #[.int .u8 kd,.int .u8 wh,.int .i64 v,.int .i64 st,.slice Dw wl dw] 149 (0,0)):=by rw [← hW0, ← hsb];exact (Below.heap_alloc _ _ _ (by simp)).trans (heap_new2 _ _ _)
 have hres:W0.heap[sb+1+1]? = some (.cells #[.slice none 0 0,.slice none 0 0,.slice none 0 0,.slice none 0 0,.slice none 0 0,.slice none 0 0,.slice none 0 0,.slice none 0 0,.slice none 0 0,.slice none 0 0,.slice none 0 0,.slice none 0 0,.slice none 0 0,.slice none 0 0,.slice none 0 0,.slice none 0 0,.slice none 0 0,.slice none 0 0,.slice none 0 0,.slice none 0 0,.slice none 0 0,.slice none 0 0,.slice none 0 0,.slice none 0 0,.slice none 0 0,.slice none 0 0,.slice none 0 0,.slice none 0 0,.slice none 0 0,.slice none 0 0,.slice none 0 0,.slice none 0 0,.slice none 0 0,.slice none 0 0,.slice none 0 0,.slice none 0 0,.slice none 0 0,.slice none 0 0,.slice none 0 0,.slice none 0 0,.slice none 0 0,.slice none 0 0,.slice none 0 0,.slice none 0 0,.int .i64 0,.slice none 0 0,.slice none 0 0,.slice none 0 0,.slice none 0 0,.bool false,.bool false,.bool false,.bool false,.bool false] 79 (0,0)):=by rw [← hW0, ← hsb];exact heap_new3 _ _ _ _
 have HW0:=Lib.hid hW0
 have HSB:=Lib.hid hsb
 have HM0:=Lib.hid hM
 have HROW:=Lib.hid hrow
 have HEV:=Lib.hid hev
 have HRES:=Lib.hid hres
 have hwsb:w.heap.size≤sb∧sb≤w.heap.size:=by omega
 have HC5:Hid (∀ W,Below W0.heap.size W0 W→W.cell? ⟨sb,0,none⟩=some (.slice A s.c.1.1.length c)∧W.cell? ⟨sb,1,none⟩=some (.slice D s.c.1.2.length d)∧W.cell? ⟨sb,2,none⟩=some (.slice G s.c.2.length g)∧W.cell? ⟨sb,44,none⟩=some (.int .i64 (s.nw:Nat))∧W.cell? ⟨sb,3,none⟩=some (.slice B s.cur.length bc)∧W.cell? ⟨sb,53,none⟩=some (.bool true)∧∀ j,W.frozen? ⟨sb,j,none⟩=false):=fun W hb=>by
  have hrow2:=(hb.block sb (by omega)).trans hrow
  rw [hR] at hrow2
  obtain⟨h0,h1,h2,h3,h4,h5,h6,h7,h8,h9,h10,h11,h12,h13,h14,h15,h16,h17,h18,h19,h20,h21,h22,h23,h24,h25,h26,h27,h28,h29,h30,h31,h32,h33,h34,h35,h36,h37,h38,h39,h40,h41,h42,h43,h44,h45,h46,h47,h48,h49,h50,h51,h52,h53,hf⟩:=blk54 hrow2
  exact⟨h0,h1,h2,h44,h3,h53,hf⟩
 have HCL:Hid (∀ W,Below W0.heap.size W0 W→ClAt s.c A c D d G g (Bl W.heap.size) W):=fun W hb=>hM.cls.keep (fun q hq=>(hB0.trans (hb.mono hB0.size)).block q hq.2) (fun q hq=>by have:=hq.2;have:=hB0.size;have:=hb.size;show q<W.heap.size;omega)
 have H4:Hid (∀ W,Below W0.heap.size W0 W→SlAt encSec W (Bl W.heap.size) Dw data):=fun W hb=>h4.fwd (hB0.trans (hb.mono hB0.size))
 have HEC:Hid (∀ W,Below W0.heap.size W0 W→W.cell? ⟨sb+1,2,none⟩=some (.int .i64 v)∧W.cell? ⟨sb+1,3,none⟩=some (.int .i64 st)∧W.cell? ⟨sb+1,4,none⟩=some (.slice Dw wl dw)):=fun W hb=>by
  have h:=(hb.block (sb+1) (by omega)).trans hev
  exact⟨cell_of_row W (sb+1) 2 _ _ _ h,cell_of_row W (sb+1) 3 _ _ _ h,cell_of_row W (sb+1) 4 _ _ _ h⟩
 have HE1:Hid (∀ W,Below W0.heap.size W0 W→W.cell? ⟨sb+1,1,none⟩=some (.int .u8 wh)):=fun W hb=>cell_of_row W (sb+1) 1 _ _ _ ((hb.block (sb+1) (by omega)).trans hev)
 have ev0:W0.cell? ⟨sb+1,0,none⟩=some (.int .u8 kd):=cell_of_row W0 (sb+1) 0 _ _ _ hev
 have ev1:W0.cell? ⟨sb+1,1,none⟩=some (.int .u8 wh):=cell_of_row W0 (sb+1) 1 _ _ _ hev
 have HR:=Lib.hid hR
 clear hrow hres hM hev hR
 go_enter Tryz.func89,Tryz.ntmps89
 go_upto_region 3 with (fail)
 clear hW0 ev0 ev1
 try rw [HW0.out]
 clear HW0
 obtain rfl:kr=2:=by omega
 have hcur:=HM0.out.cur
 have hl2:=(h.lim ha hk0).2.2
 have HFT:=Lib.hid (refFits07_any B bc s.cur.length wl s.cur v st Dw dw data (fitsN (lens s.cur) (v,st,data)) W0 rfl hwl ((hcur.2.2.blk (fun q hq=>hB0.block q hq.2)).more (fun q hq=>by have:=hq.2;have:=hB0.size;show q<W0.heap.size;omega)) (by omega) (by omega) hvs.1 hvs.2 (snE_ok h.sn_ok).1 rfl)
 obtain⟨fe,hfe⟩:∃ fe,fitsN (lens s.cur) (v,st,data)=fe:=⟨_,rfl⟩
 obtain⟨h0,h1,h2,h44,h3,h53,hf⟩:=HC5.out W0 (Below.refl _ _)
 obtain⟨e2,e3,e4⟩:=HEC.out W0 (Below.refl _ _)
 rw [hfe] at HFT
 have HFE:=Lib.hid hfe
 clear hfe hcur hl2
 go_wp2_with fail
 refine HFT.out.mono ?_
 rintro e w6 ⟨rfl,hb6⟩
 clear HFT h0 h1 h2 h44 h3 h53 hf e2 e3 e4
 obtain⟨h0,h1,h2,h44,h3,h53,hf⟩:=HC5.out w6 hb6
 obtain⟨e2,e3,e4⟩:=HEC.out w6 hb6
 have hbw:Below w.heap.size w w6:=hB0.trans (hb6.mono hB0.size)
 have hrw:=(hb6.block sb (by omega)).trans HROW.out
 have hrr:=(hb6.block (sb+1+1) (by omega)).trans HRES.out
 by_cases hn0:fe=0
 case neg =>
  have hne:(fe==0)=false:=by simp [hn0]
  have HS:Hid (cStep s (kd,wh,(v,st,data))=s):=by
   unfold cStep
   simp only
   rw [if_pos (by omega),if_neg (by rw [HFE.out];exact hn0)];exact rfl
  have HRW:=Lib.hid hrw
  have HRR:=Lib.hid hrr
  have HMN:=Lib.hid (StM.mk2 (s':=s) (rb:=sb+1+1) HM0.out (HM0.out.cls.keep (fun q hq=>hbw.block q hq.2) (fun q hq=>⟨Or.inl hq.1,by have:=hbw.size;have:=hq.2;omega,by have:=hq.2;omega⟩)) hbw (fun q hq=>by omega) rfl rfl rfl)
  have HAL:=Lib.hid (st_all (s':=s) (B':=B) (bc':=bc) (sa':=sa) (sc':=sc) (ca':=ca) (cc':=cc) HR.out)
  clear hrw hrr h0 h1 h2 h44 h3 h53 hf e2 e3 e4 hn0
  -- the state's row is loaded whole and stored into the result
  go_wp2_with (first | (refine wpList_load_row rfl 79 _ rfl sb rfl 79 row (0,0) _ HRW.out Tryz.underlying79 rfl HAL.out.2 ?_) | (refine wpList_store_row rfl 79 _ _ rfl (sb+1+1) row rfl rfl 79 _ HRR.out HAL.out.2 (st_size HAL.out.2 (by kernel_rfl) (by kernel_rfl)) HAL.out.1 ?_))
  have hz:=setRow_heap w6 (sb+1+1) _ row _ _ HRR.out
  have hret:=st_ret (S:=S) (w:=w) (rb:=sb+1+1) (row:=row) HR.out (by omega) hbw HMN.out
  generalize w6.setRow (sb+1+1) row=W3 at hz hret ⊢
  refine bodyPost_ret (v := .agg row) (results_cell_row (p:=4) (ty:=79) rfl _ _ (sb+1+1) _ row (0,0) _ rfl hz Tryz.underlying79 rfl HAL.out.2) rfl ?_
  rw [HS.out];exact hret
 subst hn0
 obtain⟨x,hx⟩:∃ x,repS s.c [(v,st,data)]=x:=⟨_,rfl⟩
 obtain⟨r,hr⟩:∃ r,putAll s.cur [(v,st,data)]=r:=⟨_,rfl⟩
 obtain⟨p1,p2,p3⟩:=h.rep HFE.out
 have HS:Hid (cStep s (kd,wh,(v,st,data))={ s with c:=x,cur:=r }):=by
  unfold cStep
  simp only
  rw [if_pos (by omega),if_pos HFE.out,hx,hr];exact rfl
 obtain⟨lb,hlb⟩:∃ lb,w6.heap.size=lb:=⟨_,rfl⟩
 obtain⟨W7,hW7⟩:∃ W,w6.alloc (.cells #[.int .i64 v,.int .i64 st,.slice Dw wl dw] 45)=W:=⟨_,rfl⟩
 have hb67:Below w6.heap.size w6 W7:=by rw [← hW7];exact ext_alloc (Below.refl _ _)
 have hb7:Below W0.heap.size W0 W7:=hb6.trans (hb67.mono hb6.size)
 have hlr:W7.heap[lb]? = some (.cells #[.int .i64 v,.int .i64 st,.slice Dw wl dw] 45 (0,0)):=by rw [← hW7, ← hlb];exact heap_alloc_new _ _
 have hll:=(Array.getElem?_eq_some_iff.1 hlr).1
 have hwm:=wr_mk (x:=(v,st,data)) hvs.1 hvs.2 (show data.length≤dw by omega) hdc.2 ((H4.out w6 hb6).below hb67)
 rw [show ((v,st,data):Wr).2.2.length=wl from hwl] at hwm
 have hsl:SlAt encWr W7 (Bl W7.heap.size) (some ⟨lb,0,none⟩) [(v,st,data)]:=litS (E:=encWr) (S0:=Bl w6.heap.size) (css:=[[.int .i64 v,.int .i64 st,.slice Dw wl dw]]) hlr rfl ⟨hwm,trivial⟩ (fun q hq=>by have:q<w6.heap.size:=hq;have:=hb67.size;show q<W7.heap.size;omega) hll (fun hh=>by have:lb<w6.heap.size:=hh;omega)
 have HRP:=Lib.hid (csReplicate (lc:=1) (q:=1) h ha hk0 (HCL.out W7 hb7) rfl hsl (by decide) hx p1)
 have HW7:=Lib.hid hW7
 have HLB:=Lib.hid hlb
 clear hx p1 p2 p3 hsl hlr hll
 go_wp2_with fail
 refine HRP.out.mono ?_
 rintro e w8 ⟨A5,c5,D5,d5,G5,g5,rfl,hat,hb8⟩
 clear HRP h0 h1 h2 h44 h3 h53 hf e2 e3 e4 hW7 hlb
 have HCN0:=Lib.hid (ClN.made hat)
 have hb8':Below W0.heap.size W0 w8:=hb7.trans (hb8.mono hb7.size)
 obtain⟨W9,hW9⟩:∃ W,w8.alloc (.cells #[.slice A5 x.1.1.length c5,.slice D5 x.1.2.length d5,.slice G5 x.2.length g5] 29)=W:=⟨_,rfl⟩
 have hb9:Below W0.heap.size W0 W9:=by rw [← hW9];exact hb8'.alloc hb8'.size _
 rw [hW9] at HCN0
 obtain⟨tz,htz⟩:∃ tz,w8.heap.size=tz:=⟨_,rfl⟩
 have hzl:W0.heap.size≤tz:=by rw [← htz];exact hb8'.size
 rw [htz] at HCN0
 have hrw9:=(hb9.block sb (by omega)).trans HROW.out
 have hrr9:=(hb9.block (sb+1+1) (by omega)).trans HRES.out
 have HRW:=Lib.hid hrw9
 have HRR:=Lib.hid hrr9
 have hbw9:Below w.heap.size w W9:=hB0.trans (hb9.mono hB0.size)
 have hcur:=HM0.out.cur
 have hl2:=(h.lim ha hk0).2.2
 have HAP:=Lib.hid (fun W (hb:Below W9.heap.size W9 W)=>apply37_any B Dw bc s.cur.length dw wl s.cur r v st data W rfl hwl ((hcur.2.2.blk (fun q hq=>(ext_trans hbw9 hb).block q hq.2)).more (fun q hq=>by have:=hq.2;have:=(ext_trans hbw9 hb).size;show q<W.heap.size;omega)) (H4.out W (hb9.trans (hb.mono hb9.size))) hvs hdc (by omega) (snE_ok h.sn_ok).1 HFE.out hr)
 have HSB:Hid (∀ W,Below W9.heap.size W9 W→SRp tz sb (.slice A5 x.1.1.length c5) (.slice D5 x.1.2.length d5) (.slice G5 x.2.length g5) (.slice B s.cur.length bc) (.int .i64 v) (.int .i64 st) (.slice Dw wl dw) W):=fun W hb=>by
  have hbW:=hb9.trans (hb.mono hb9.size)
  obtain⟨t0,t1,t2,_⟩:=blk3 (HCN0.out.below hb).row
  obtain⟨_,_,_,_,g3,g53,_⟩:=HC5.out W hbW
  exact⟨⟨t0,t1,t2⟩,⟨g53,g3⟩,HEC.out W hbW⟩
 have hts:tz≠sb:=by omega
 have hSw:=HSB.out W9.drew (Below.refl _ _).drew
 obtain⟨W9n,hW9n⟩:∃ n,W9.heap.size=n:=⟨_,rfl⟩
 have HW9:=Lib.hid hW9
 have hl7:=hb7.size
 clear hcur hl2 hat hb8 hb8' hr hbw hrw hrr hrw9 hrr9 hW9n hb6 hb67 hb7
 go_upto_region 6 with (fail)
 clear hW9 htz
 refine wp_region_U (SRp tz sb (.slice A5 x.1.1.length c5) (.slice D5 x.1.2.length d5) (.slice G5 x.2.length g5) (.slice B s.cur.length bc) (.int .i64 v) (.int .i64 st) (.slice Dw wl dw)) 17 (by kernel_rfl) ?_
 refine wpAnyU_takeD (i:=0) (v := ?_) rfl rfl (by kernel_rfl) (by kernel_rfl) (by kernel_rfl) (by kernel_rfl) (fun _ _ _ h=>h) (by rfl) ?_ hSw ?_
 rotate_left 1
 ·intro W9 hW9
  try dsimp only at hW9
  obtain⟨⟨q0,q1,q2⟩,⟨q3,q4⟩,q5,q6,q7⟩:=hW9
  go_simp
  try with_reducible rfl
 try simp only [List.setIfInBounds_toArray,List.set_cons_zero,List.set_cons_succ]
 refine wpAnyU_takeD (i:=1) (v := ?_) rfl rfl (by kernel_rfl) (by kernel_rfl) (by kernel_rfl) (by kernel_rfl) (fun _ _ _ h=>h) (by rfl) ?_ hSw ?_
 rotate_left 1
 ·intro W9 hW9
  try dsimp only at hW9
  obtain _:=trivial
  go_simp
  try with_reducible rfl
 try simp only [List.setIfInBounds_toArray,List.set_cons_zero,List.set_cons_succ]
 refine wpAnyU_takeD (i:=2) (v := ?_) rfl rfl (by kernel_rfl) (by kernel_rfl) (by kernel_rfl) (by kernel_rfl) (fun _ _ _ h=>h) (by rfl) ?_ hSw ?_
 rotate_left 1
 ·intro W9 hW9
  try dsimp only at hW9
  obtain⟨⟨q0,q1,q2⟩,⟨q3,q4⟩,q5,q6,q7⟩:=hW9
  go_simp
  try with_reducible rfl
 try simp only [List.setIfInBounds_toArray,List.set_cons_zero,List.set_cons_succ]
 refine wpAnyU_takeD (i:=3) (v := ?_) rfl rfl (by kernel_rfl) (by kernel_rfl) (by kernel_rfl) (by kernel_rfl) (fun _ _ _ h=>h) (by rfl) ?_ hSw ?_
 rotate_left 1
 ·intro W9 hW9
  try dsimp only at hW9
  obtain _:=trivial
  go_simp
  try with_reducible rfl
 try simp only [List.setIfInBounds_toArray,List.set_cons_zero,List.set_cons_succ]
 refine wpAnyU_takeD (i:=4) (v := ?_) rfl rfl (by kernel_rfl) (by kernel_rfl) (by kernel_rfl) (by kernel_rfl) (fun _ _ _ h=>h) (by rfl) ?_ hSw ?_
 rotate_left 1
 ·intro W9 hW9
  try dsimp only at hW9
  obtain _:=trivial
  go_simp
  try with_reducible rfl
 try simp only [List.setIfInBounds_toArray,List.set_cons_zero,List.set_cons_succ]
 refine wpAnyU_takeD (i:=5) (v := ?_) rfl rfl (by kernel_rfl) (by kernel_rfl) (by kernel_rfl) (by kernel_rfl) (fun _ _ _ h=>h) (by rfl) ?_ hSw ?_
 rotate_left 1
 ·intro W9 hW9
  try dsimp only at hW9
  obtain _:=trivial
  go_simp
  try with_reducible rfl
 try simp only [List.setIfInBounds_toArray,List.set_cons_zero,List.set_cons_succ]
 refine wpAnyU_takeD (i:=6) (v := ?_) rfl rfl (by kernel_rfl) (by kernel_rfl) (by kernel_rfl) (by kernel_rfl) (fun _ _ _ h=>h) (by rfl) ?_ hSw ?_
 rotate_left 1
 ·intro W9 hW9
  try dsimp only at hW9
  obtain _:=trivial
  go_simp
  try with_reducible rfl
 try simp only [List.setIfInBounds_toArray,List.set_cons_zero,List.set_cons_succ]
 refine wpAnyU_takeD (i:=7) (v := ?_) rfl rfl (by kernel_rfl) (by kernel_rfl) (by kernel_rfl) (by kernel_rfl) (fun _ _ _ h=>h) (by rfl) ?_ hSw ?_
 rotate_left 1
 ·intro W9 hW9
  try dsimp only at hW9
  obtain _:=trivial
  go_simp
  try with_reducible rfl
 try simp only [List.setIfInBounds_toArray,List.set_cons_zero,List.set_cons_succ]
 refine wpAnyU_takeD (i:=8) (v := ?_) rfl rfl (by kernel_rfl) (by kernel_rfl) (by kernel_rfl) (by kernel_rfl) (fun _ _ _ h=>h) (by rfl) ?_ hSw ?_
 rotate_left 1
 ·intro W9 hW9
  try dsimp only at hW9
  obtain⟨⟨q0,q1,q2⟩,⟨q3,q4⟩,q5,q6,q7⟩:=hW9
  go_simp
  try with_reducible rfl
 try simp only [List.setIfInBounds_toArray,List.set_cons_zero,List.set_cons_succ]
 refine wpAnyU_takeD (i:=9) (v := ?_) rfl rfl (by kernel_rfl) (by kernel_rfl) (by kernel_rfl) (by kernel_rfl) (fun _ _ _ h=>h) (by rfl) ?_ hSw ?_
 rotate_left 1
 ·intro W9 hW9
  try dsimp only at hW9
  obtain _:=trivial
  go_simp
  try with_reducible rfl
 try simp only [List.setIfInBounds_toArray,List.set_cons_zero,List.set_cons_succ]
 refine wpAnyU_takeD (i:=10) (v := ?_) rfl rfl (by kernel_rfl) (by kernel_rfl) (by kernel_rfl) (by kernel_rfl) (fun _ _ _ h=>h) (by rfl) ?_ hSw ?_
 rotate_left 1
 ·intro W9 hW9
  try dsimp only at hW9
  obtain⟨⟨q0,q1,q2⟩,⟨q3,q4⟩,q5,q6,q7⟩:=hW9
  go_simp
  try with_reducible rfl
 try simp only [List.setIfInBounds_toArray,List.set_cons_zero,List.set_cons_succ]
 refine wpAnyU_takeD (i:=12) (v := ?_) rfl rfl (by kernel_rfl) (by kernel_rfl) (by kernel_rfl) (by kernel_rfl) (fun _ _ _ h=>h) (by rfl) ?_ hSw ?_
 rotate_left 1
 ·intro W9 hW9
  try dsimp only at hW9
  obtain _:=trivial
  go_simp
  try with_reducible rfl
 try simp only [List.setIfInBounds_toArray,List.set_cons_zero,List.set_cons_succ]
 refine wpAnyU_op (i:=11) (by kernel_rfl) rfl rfl (fun K hK => ?_)
 go_wp2_with fail
 refine ((HAP.out W9.drew (Below.refl _ _).drew)).mono ?_
 rintro e w7 ⟨A7,c7,rfl,a1,a2,a3,hb7⟩
 refine hK.out _ _ (fun _=>(HSB.out w7 (ext_trans (Below.refl _ _).drew hb7))) ?_
 clear hK K
 try simp only [Act.put,List.setIfInBounds_toArray,List.set_cons_zero,List.set_cons_succ]
 have hb97:Below W9.heap.size W9 w7:=ext_trans (Below.refl _ _).drew hb7
 have hS7:=HSB.out w7 hb97
 have hS8:=((hS7.set hts 0 (.slice A5 x.1.1.length c5) (by omega) (by omega)).set hts 1 (.slice D5 x.1.2.length d5) (by omega) (by omega)).set hts 2 (.slice G5 x.2.length g5) (by omega) (by omega)
 obtain⟨h0,h1,h2,h44,h3,h53,hf⟩:=HC5.out w7 (hb9.trans (hb97.mono hb9.size))
 clear hSw hS7
 refine wpAnyU_op (i:=13) (by kernel_rfl) rfl rfl (fun K hK => ?_)
 go_simp
 refine hK.out _ _ (fun _=>hS8) ?_
 clear hK K
 try simp only [Act.put,List.setIfInBounds_toArray,List.set_cons_zero,List.set_cons_succ]
 refine wpAnyU_op (i:=14) (by kernel_rfl) rfl rfl (fun K hK => ?_)
 go_simp
 refine hK.out _ _ (fun _=>hS8) ?_
 clear hK K
 try simp only [Act.put,List.setIfInBounds_toArray,List.set_cons_zero,List.set_cons_succ]
 have hS9:=hS8.set53 hts
 refine wpAnyU_op (i:=15) (by kernel_rfl) rfl rfl (fun K hK => ?_)
 go_simp
 refine hK.out _ _ (fun _=>hS9) ?_
 clear hK K
 try simp only [Act.put,List.setIfInBounds_toArray,List.set_cons_zero,List.set_cons_succ]
 refine wpAnyU_op (i:=16) (by kernel_rfl) rfl rfl (fun K hK => ?_)
 go_simp
 refine hK.out _ _ (fun _=>hS9) ?_
 clear hK K
 try simp only [Act.put,List.setIfInBounds_toArray,List.set_cons_zero,List.set_cons_succ]
 refine wpAnyU_op (i:=17) (by kernel_rfl) rfl rfl (fun K hK => ?_)
 go_simp
 refine hK.out _ _ (fun h=>absurd rfl h) ?_
 clear hK K
 refine wpAnyU_done (by kernel_rfl) ?_ _
 have hbw7:Below w.heap.size w w7:=ext_trans hbw9 hb97
 have hrw7:=(hb97.block sb (by have:=hb9.size;omega)).trans HRW.out
 have hrr7:=(hb97.block (sb+1+1) (by have:=hb9.size;omega)).trans HRR.out
 have hcn7:=HCN0.out.below hb97
 obtain⟨Wn,hWn⟩:∃ W,(((((w7.setCell ⟨sb,0,none⟩ (.slice A5 x.1.1.length c5)).setCell ⟨sb,1,none⟩ (.slice D5 x.1.2.length d5)).setCell ⟨sb,2,none⟩ (.slice G5 x.2.length g5)).setCell ⟨sb,53,none⟩ (.bool true)).setCell ⟨sb,3,none⟩ (.slice A7 r.length c7))=W:=⟨_,rfl⟩
 have r4:=row_set (row_set (row_set (row_set (row_set hrw7 0 (.slice A5 x.1.1.length c5)) 1 (.slice D5 x.1.2.length d5)) 2 (.slice G5 x.2.length g5)) 53 (.bool true)) 3 (.slice A7 r.length c7)
 obtain⟨row',hrow'⟩:∃ rr,((((row.setIfInBounds 0 (.slice A5 x.1.1.length c5)).setIfInBounds 1 (.slice D5 x.1.2.length d5)).setIfInBounds 2 (.slice G5 x.2.length g5)).setIfInBounds 53 (.bool true)).setIfInBounds 3 (.slice A7 r.length c7)=rr:=⟨_,rfl⟩
 rw [hrow'] at r4
 have r5:Wn.heap[sb]? = some (.cells row' 79 (0,0)):=by rw [← hWn];exact r4
 clear r4
 have HRQ:=Lib.hid (((congrArg (fun rr:Array Value=>((((rr.setIfInBounds 0 (.slice A5 x.1.1.length c5)).setIfInBounds 1 (.slice D5 x.1.2.length d5)).setIfInBounds 2 (.slice G5 x.2.length g5)).setIfInBounds 53 (.bool true)).setIfInBounds 3 (.slice A7 r.length c7)) HR.out).symm.trans hrow').symm.trans (row_rep (s':={ s with c:=x,cur:=r }) rfl))
 clear hrow'
 have hkN:∀ b,b≠sb→Wn.heap[b]? = w7.heap[b]? := fun b hb=>by
  rw [← hWn]
  exact (heap_setCell_other _ _ _ _ hb).trans ((heap_setCell_other _ _ _ _ hb).trans ((heap_setCell_other _ _ _ _ hb).trans ((heap_setCell_other _ _ _ _ hb).trans (heap_setCell_other _ _ _ _ hb))))
 have hzN:Wn.heap.size=w7.heap.size:=by rw [← hWn];simp [World.setCell]
 have hbN:Below w.heap.size w Wn:=by rw [← hWn];exact (((((hbw7.setCell (p:=⟨sb,0,none⟩) hwsb.1 _).setCell (p:=⟨sb,1,none⟩) hwsb.1 _).setCell (p:=⟨sb,2,none⟩) hwsb.1 _).setCell (p:=⟨sb,53,none⟩) hwsb.1 _).setCell (p:=⟨sb,3,none⟩) hwsb.1 _)
 have HWN:=Lib.hid hWn
 have R5:=Lib.hid r5
 clear hWn r5
 rw [HWN.out]
 clear HWN
 go_upto_region 15 with (fail)
 have hrN:=(hkN (sb+1+1) (by omega)).trans hrr7
 have hkW:∀ q,(S q∧q<w.heap.size)→Wn.heap[q]? = w.heap[q]? := fun q hq=>hbN.block q hq.2
 have hSW:∀ q,(S q∧q<w.heap.size)→(S q∨w.heap.size≤q)∧q<Wn.heap.size∧q≠sb+1+1:=fun q hq=>⟨Or.inl hq.1,by have:=hbN.size;have:=hq.2;omega,by have:=hq.2;omega⟩
 have hlo:sb+1+1<W9.heap.size:=by have:=hb9.size;omega
 have hwlo:w.heap.size≤W9.heap.size:=hbw9.size
 have hMN:StM { s with c:=x,cur:=r } A5 c5 D5 d5 G5 g5 A7 c7 sa sc ca cc (fun q=>(S q∨w.heap.size≤q)∧q<Wn.heap.size∧q≠sb+1+1) Wn :=
  ⟨hcn7.at_.keep (fun q hq=>hkN q (by have:=hq.1;omega)) (fun q hq=>⟨Or.inr (by have:=hq.1;omega),by rw [hzN];exact hq.2.2,by have:=hq.1;omega⟩),
   ⟨a1,a2,(a3.blk (fun q hq=>hkN q (by have h1:W9.heap.size≤q:=hq.1;omega))).more (fun q hq=>⟨Or.inr (by have h1:W9.heap.size≤q:=hq.1;omega),by rw [hzN];exact hq.2,by have h1:W9.heap.size≤q:=hq.1;omega⟩)⟩,
   fun j hj=>(HM0.out.sns j hj).keep hkW hSW,fun j hj=>(HM0.out.cli j hj).keep hkW hSW⟩
 have HMN:=Lib.hid hMN
 have HRN:=Lib.hid hrN
 clear hMN hrN hkN hkW hSW hcn7
 have HAL:=Lib.hid (st_all (s':={ s with c:=x,cur:=r }) (B':=A7) (bc':=c7) (sa':=sa) (sc':=sc) (ca':=ca) (cc':=cc) HRQ.out)
 -- the state's row is loaded whole and stored into the result
 go_wp2_with (first | (refine wpList_load_row rfl 79 _ rfl sb rfl 79 row' (0,0) _ R5.out Tryz.underlying79 rfl HAL.out.2 ?_) | (refine wpList_store_row rfl 79 _ _ rfl (sb+1+1) row' rfl rfl 79 _ HRN.out HAL.out.2 (st_size HAL.out.2 (by kernel_rfl) (by kernel_rfl)) HAL.out.1 ?_))
 have hz:=setRow_heap Wn (sb+1+1) _ row' _ _ HRN.out
 have hret:=st_ret (S:=S) (w:=w) (rb:=sb+1+1) (row:=row') HRQ.out (by omega) hbN HMN.out
 generalize Wn.setRow (sb+1+1) row'=W3 at hz hret ⊢
 refine bodyPost_ret (v := .agg row') (results_cell_row (p:=4) (ty:=79) rfl _ _ (sb+1+1) _ row' (0,0) _ rfl hz Tryz.underlying79 rfl HAL.out.2) rfl ?_
 rw [HS.out];exact hret
end Go.Proofs.YtgndgkjefgjamaaGreat
namespace Go.Proofs.YtgndgkjefgjamaaGreat
open Go.RowKit Go.Shelf

theorem sstep_any (a:Int) (k i:Nat) (s:CSt) (A D G B Dw:Option Addr) (c d g bc dw wl:Nat) (sa:Nat→Option Addr) (sc:Nat→Nat) (ca:Nat→Option Addr) (cc:Nat→Nat) (S:Nat→Prop) (row:Array Value) (hR:row=(stl s A c D d G g B bc sa sc ca cc)) (kd wh v st:Int) (data:List Sec) (w:World) (ha:1≤a∧a≤12) (hk:k≤30) (h:CInv [a,4] k s) (hM:StM s A c D d G g B bc sa sc ca cc (fun q=>S q∧q<w.heap.size) w)
  (hkd:0≤kd∧kd<256) (hwh:0≤wh∧wh<256) (hi:wh % 4=i) (hwl:data.length=wl) (h4:SlAt encSec w (Bl w.heap.size) Dw data) (hvs:I64 v∧I64 st) (hdl:wl≤1000) (hdc:wl≤dw∧dw≤maxLen) :
  Calls Tryz.prog 89 #[.agg row,.agg #[.int .u8 kd,.int .u8 wh,.int .i64 v,.int .i64 st,.slice Dw wl dw]] w (StRet S (cStep s (kd,wh,(v,st,data))) w):=by
 by_cases h2:kd % 6=2
 ·exact sstep2_any a k i s A D G B Dw c d g bc dw wl sa sc ca cc S row hR kd wh v st data w ha hk h hM hkd hwh hi hwl h4 hvs hdl hdc h2
 by_cases h3:kd % 6=3
 ·exact sstep3_any a k i s A D G B Dw c d g bc dw wl sa sc ca cc S row hR kd wh v st data w ha hk h hM hkd hwh hi hwl h4 hvs hdl hdc h3
 by_cases h4':kd % 6=4
 ·exact sstep4_any a k i s A D G B Dw c d g bc dw wl sa sc ca cc S row hR kd wh v st data w ha hk h hM hkd hwh hi hwl h4 hvs hdl hdc h4'
 ·exact sstep0_any a k i s A D G B Dw c d g bc dw wl sa sc ca cc S row hR kd wh v st data w ha hk h hM hkd hwh hi hwl h4 hvs hdl hdc h2 h3 h4'
def encEv:Enc CEv:=encPair encU8 (encPair encU8 encWr)
theorem SlAt.ev {w:World} {S:Nat→Prop} {A:Option Addr} {l:List CEv} {k:Nat} (h:SlAt encEv w S A l) (hk:k<l.length) :
  ∃ b off D c,A=some ⟨b,off,none⟩∧S b∧w.cell? ⟨b,off+k * 5,none⟩=some (.int .u8 l[k].1)∧w.cell? ⟨b,off+k * 5+1,none⟩=some (.int .u8 l[k].2.1)∧w.cell? ⟨b,off+k * 5+2,none⟩=some (.int .i64 l[k].2.2.1)∧w.cell? ⟨b,off+k * 5+3,none⟩=some (.int .i64 l[k].2.2.2.1)∧w.cell? ⟨b,off+k * 5+4,none⟩=some (.slice D l[k].2.2.2.2.length c) ∧
    (0≤l[k].1∧l[k].1<256)∧(0≤l[k].2.1∧l[k].2.1<256)∧I64 l[k].2.2.1∧I64 l[k].2.2.2.1∧l[k].2.2.2.2.length≤c∧c≤maxLen∧SlAt encSec w S D l[k].2.2.2.2:=by
 obtain⟨b,off,cs,e,hb,hs,hr⟩:=h.at_ hk
 obtain⟨c1,_,rfl,⟨rfl,h1⟩,c2,_,rfl,⟨rfl,h2⟩,hw⟩:=hr
 obtain⟨c3,_,rfl,⟨rfl,h3⟩,c4,_,rfl,⟨rfl,h4⟩,⟨D,c,rfl,h5,h6,h7⟩⟩:=hw
 exact⟨b,off,D,c,e,hb,hs 0 _ rfl,hs 1 _ rfl,hs 2 _ rfl,hs 3 _ rfl,hs 4 _ rfl,h1,h2,h3,h4,h5,h6,h7⟩
theorem exec_load_row {P:Program} {o:Oper} {a:Act} {w:World} (ty:TypeId) (x:Operand) (ho:o.op = .load ty x)
  (g:Nat) (hx:a.eval x = .pointer (some ⟨g,0,none⟩)) (t:TypeId) (cs:Array Value) (fr:Nat × Nat) (d:TypeDesc) (hg:w.heap[g]? = some (.cells cs t fr))
  (hu:P.underlying ty=some d) (hd:(match d with | .struct _ | .array _ _=>true | _=>false)=true) (hi:(P.info? ty).map (·.size)=some cs.size) :
  (execOp a.eval o).run P w = .ok (.value (.agg cs)) w:=by
 unfold execOp
 simp only [ho,hx,Instr.loadAt,Instr.sureAddr,Sem.run_bind,Sem.run_pure,Result.andThen_ok,run_loadVar_row w g t ty cs fr d hg hu hd hi]
end Go.Proofs.YtgndgkjefgjamaaGreat
namespace Go.Proofs.YtgndgkjefgjamaaGreat
open Go.RowKit Go.Shelf
attribute [local go_sem] Oper.semAt_some

set_option maxHeartbeats 2000000 in
set_option maxRecDepth 100000 in
theorem refNew07_any (A:Option Addr) (c n:Nat) (sz:List Int) (w:World) (hn:sz.length=n) (h1:SlAt encInt w (Bl w.heap.size) A sz) (hz:sizesN sz=0) :
  Calls Tryz.prog 88 #[.slice A n c] w (RetSlN (encSl encSec) (sz.map zimg) 0 w):=by
 subst hn
 obtain⟨z1,z2⟩:=sizes_range hz
 have hsz:=sizes_any A c _ sz w h1 (by omega)
 rw [hz] at hsz
 have HSZ:=Lib.hid hsz
 have HZ2:=Lib.hid z2
 have H1:Hid (∀ w',Below w.heap.size w w'→SlAt encInt w' (Bl w.heap.size) A sz):=fun w' hb=>h1.below hb
 clear hsz z2 h1
 go_enter Tryz.func88,Tryz.ntmps88
 go_wp2_with fail
 refine HSZ.out.mono ?_
 rintro e w2 ⟨rfl,hw2⟩
 have hw3:=hw2.symm
 clear hw2
 subst hw3
 go_wp2
 go_loopw [5,6] (fun v i wr=>∃ (k:Nat) (B:Option Addr) (vc:Nat) (out:List _),k≤sz.length∧i = .int .i64 k∧v = .slice B out.length vc∧Below w.heap.size w wr∧Hid (out=(sz.take k).map zimg)∧Hid (OwnW (encSl encSec) wr w.heap.size w.heap.size 43 (.slice B out.length vc) out)) (fun _ i _=>sz.length - (intOf i).toNat)
 case atStart=>exact⟨0,none,0,[],by omega,rfl,rfl,Below.refl _ _,by simp [Hid],Own.nil_⟩
 case round =>
  obtain⟨k,B,vc,out,hk,rfl,rfl,hB,hout,hown⟩:=hrel
  by_cases hlt:k<sz.length
  ·have hnn:(0:Int)≤k:=by omega
   have hki:(k:Int)<sz.length:=by omega
   have hol:out.length≤k:=by rw [hout.out];simp;omega
   have hszr:=hB.size
   obtain⟨b,off,rfl,hb,g0,hi1,hi2⟩:=(H1.out wr hB).int hlt
   obtain⟨hx0,hx1⟩:=HZ2.out _ (List.getElem_mem hlt)
   obtain⟨m,hm⟩:∃ m:Nat,sz[k]=(m:Int):=⟨sz[k].toNat,by omega⟩
   have HZM:Hid (zimg sz[k]=List.replicate m zsec):=by unfold zimg;rw [hm];rfl
   have HM:=Lib.hid hm
   rw [hm] at g0 hx0 hx1
   clear hm hi1 hi2
   obtain⟨cur,hcs,hcz,hmk⟩:=makeSecs m (by omega) wr
   have HCZ:=Lib.hid hcz
   obtain⟨w1,hw1⟩:∃ W,wr.alloc (.cells cur 95)=W:=⟨_,rfl⟩
   have hb1:Below wr.heap.size wr w1:=by rw [← hw1];exact ext_alloc (Below.refl _ _)
   have hsz1:=hb1.size
   have hB1:Below w.heap.size w w1:=ext_trans hB hb1
   have HO1:=Lib.hid (hown.out.below hb1)
   have hlt1:∀ g,(Value.slice B out.length vc).ownBlock=some g→g<wr.heap.size:=fun g hg=>(hown.out.lt g hg).2
   have HLT1:=Lib.hid hlt1
   obtain⟨mb,hmb⟩:∃ mb,wr.heap.size=mb:=⟨_,rfl⟩
   have hrow:w1.heap[mb]? = some (.cells cur 95 (0,0)):=by rw [← hw1, ← hmb];exact heap_alloc_new _ _
   have hml:=(Array.getElem?_eq_some_iff.1 hrow).1
   have r3:SlAt encSec w1 (Nw mb w1.heap.size) (some ⟨mb,0,none⟩) (List.replicate m zsec):=zsecs_at hrow ⟨Nat.le_refl _,hml⟩ HCZ.out
   have HO2:=Lib.hid (Own.alloc HO1.out (fun _ h=>h.1.2) (.cells #[.slice (some ⟨mb,0,none⟩) m m] 43))
   have HRD:Hid ((encSl encSec).rd (w1.alloc (.cells #[.slice (some ⟨mb,0,none⟩) m m] 43)) (fun b=>Nw w.heap.size w1.heap.size b∧(Value.slice B out.length vc).ownBlock≠some b) [.slice (some ⟨mb,0,none⟩) m m] (List.replicate m zsec)) :=
    ⟨some ⟨mb,0,none⟩,m,by rw [List.length_replicate],by rw [List.length_replicate];omega,by unfold maxLen;omega,SlAt.blk (OwnW.since (v := .slice B out.length vc) (lo:=w.heap.size) (by rw [← hmb] at r3;rw [← hmb];exact r3) hszr (HLT1.out)) (fun g hg=>Below.heap_alloc _ _ _ hg.1.2)⟩
   have HW1:=Lib.hid hw1
   have HMB:=Lib.hid hmb
   clear hcs hcz hlt1 r3 hrow
   have hl1:out.length+1≤maxLen:=by unfold maxLen;omega
   have hl2:(out.length+1) * 24≤140737488355328:=by omega
   go_upto_region 8 with (fail)
   go_wp2_with (at_builtin;refine Hid.out ?_)
   change wpList _ _ _ _ _ _
   refine wpList_app1 (E:=encSl encSec) (base:=w.heap.size) tyImage rfl _ _ rfl rfl HO2.out (List.replicate m zsec) [.slice (some ⟨mb,0,none⟩) m m] rfl HRD.out (heap_alloc_new _ _) (fun _ h=>by simp;have:=h.1.2;omega) (by simp;have:=hB1.size;omega) hl1 hl2 ?_
   intro A' c' w5 hown5 hg5 hat5
   have hok5:=Lib.hid (OwnW.app (hown5.more (S':=fun b=>Nw w.heap.size (w1.alloc (.cells #[.slice (some ⟨mb,0,none⟩) m m] 43)).heap.size b∧(Value.slice B out.length vc).ownBlock≠some b) (fun b hb=>⟨hb.1.mono (Nat.le_refl _) (by simp),hb.2⟩) (OwnW_new hown5 hat5 (fun g hg=>by have:=HLT1.out g hg;have:=hb1.size;omega) (by simp;have:=hB1.size;omega))) hg5 hat5)
   have hB5:=Lib.hid ((ext_alloc (o := .cells #[.slice (some ⟨mb,0,none⟩) m m] 43) hB1).grown hg5 (by simp;have:=hB1.size;omega) (fun g h=>(hown.out.lt g h).1))
   clear hown5 hg5 hat5 hmk hw1
   go_wp2
   go_roundw
   case rel =>
    refine⟨k+1,A',c',out++[List.replicate m zsec],hlt,by go_num,by simp,hB5.out, ?_, ?_⟩
    ·rw [List.take_succ_eq_append_getElem hlt,List.map_append, ← hout.out,List.map_cons,HZM.out];exact rfl
    ·have:=hok5.out;simpa [Hid] using this
   case measure=>simp [intOf];omega
  ·have hkk:k=sz.length:=by omega
   subst hkk
   go_wp2
   go_ret2
   have e:=hout.out
   rw [List.take_length] at e
   rw [← e]
   obtain⟨_,p1,p2,p3⟩:=hown.out.parts
   exact⟨B,vc,rfl,p1,p2,p3,hB⟩
end Go.Proofs.YtgndgkjefgjamaaGreat
namespace Go.Proofs.YtgndgkjefgjamaaGreat
open Go.RowKit Go.Shelf
attribute [local go_sem] Oper.semAt_some

theorem flt_len (p:Nat→Bool) (n:Nat):((List.range n).filter p).length≤n:=by
 have:=List.length_filter_le p (List.range n)
 rwa [List.length_range] at this
theorem secs_len (l:List Wr) (v:Int):(runsL (secsOf l v)).length≤4096:=by
 have h:=(runsL_bound 4096 (secsOf l v) (secsOf_mem l v)).2
 have h2:(secsOf l v).length≤4096:=by
  unfold secsOf
  rw [List.length_map]
  exact flt_len _ 4096
 omega
end Go.Proofs.YtgndgkjefgjamaaGreat

namespace Go.Proofs.YtgndgkjefgjamaaGreat
open Go.RowKit Go.Shelf
attribute [local go_sem] Oper.semAt_some

end Go.Proofs.YtgndgkjefgjamaaGreat

namespace Go.Proofs.YtgndgkjefgjamaaGreat
open Go.RowKit Go.Shelf
attribute [local go_sem] Oper.semAt_some

def ExRow (w:World) (g lo:Nat) (l:List (List Ext)):Prop :=
 ∃ cur:Array Value,w.heap[g]? = some (.cells cur 93 (0,0))∧∀ v (h:v<l.length),∃ A c,cur[v]? = some (.slice A l[v].length c)∧l[v].length≤c∧c≤maxLen∧SlAt encExt w (fun b=>Nw lo w.heap.size b∧b≠g) A l[v]
theorem ExRow.lt {w:World} {g lo:Nat} {l:List (List Ext)} (h:ExRow w g lo l):g<w.heap.size:=by
 obtain⟨_,h,_⟩:=h;exact (Array.getElem?_eq_some_iff.1 h).1
theorem ExRow.at_ {w:World} {g lo:Nat} {l:List (List Ext)} (h:ExRow w g lo l) {v:Nat} (hv:v<l.length):∃ A c,w.cell? ⟨g,v,none⟩=some (.slice A l[v].length c)∧l[v].length≤c∧c≤maxLen∧SlAt encExt w (fun b=>Nw lo w.heap.size b∧b≠g) A l[v]:=by
 obtain⟨cur,h1,h2⟩:=h
 obtain⟨A,c,h3,h4⟩:=h2 v hv
 exact⟨A,c,by rw [cell_of_row w g v _ _ _ h1];exact h3,h4⟩
theorem ExRow.frozen {w:World} {g lo:Nat} {l:List (List Ext)} (h:ExRow w g lo l) (v:Nat):w.frozen? ⟨g,v,none⟩=false:=by
 obtain⟨cur,h1,_⟩:=h
 simp [World.frozen?,h1]
theorem ExRow.below {w w':World} {g lo:Nat} {l:List (List Ext)} (h:ExRow w g lo l) (hb:Below w.heap.size w w'):ExRow w' g lo l:=by
 have hlt:=h.lt
 obtain⟨cur,h1,h2⟩:=h
 refine⟨cur,(hb.block g hlt).trans h1,fun v hv => ?_⟩
 obtain⟨A,c,h3,h4,h5,h6⟩:=h2 v hv
 exact⟨A,c,h3,h4,h5,(h6.blk (fun b hb'=>hb.block b hb'.1.2)).more (fun b hb'=>⟨⟨hb'.1.1,by have:=hb'.1.2;have:=hb.size;omega⟩,hb'.2⟩)⟩
theorem ExRow.put {w:World} {g lo:Nat} {l:List (List Ext)} (h:ExRow w g lo l) {v:Nat} (hv:v<l.length) {r:List Ext} {A:Option Addr} {c:Nat} (h3:r.length≤c) (h4:c≤maxLen) (hs:SlAt encExt w (fun b=>Nw lo w.heap.size b∧b≠g) A r):ExRow (w.setCell ⟨g,v,none⟩ (.slice A r.length c)) g lo (l.set v r):=by
 have hz:(w.setCell ⟨g,v,none⟩ (.slice A r.length c)).heap.size=w.heap.size:=by simp [World.setCell]
 have hk:∀ b,b≠g→(w.setCell ⟨g,v,none⟩ (.slice A r.length c)).heap[b]? = w.heap[b]? := fun b hb=>heap_setCell_other w ⟨g,v,none⟩ b _ hb
 obtain⟨cur,h1,h2⟩:=h
 have hsz:v<cur.size:=by
  obtain⟨_,_,h3,_⟩:=h2 v hv
  exact (Array.getElem?_eq_some_iff.1 h3).1
 refine⟨cur.set! v (.slice A r.length c), ?_,fun u hu => ?_⟩
 ·simp [World.setCell,Array.getElem?_modify,h1]
 ·rw [List.length_set] at hu
  by_cases e:v=u
  ·subst e
   refine⟨A,c, ?_, ?_⟩
   ·simp [hsz]
   ·simp only [List.getElem_set_self]
    exact⟨h3,h4,(hs.blk (fun b hb=>hk b hb.2)).more (fun b hb=>by rw [hz];exact hb)⟩
  ·obtain⟨A',c',k1,k2,k3,k4⟩:=h2 u hu
   refine⟨A',c', ?_, ?_⟩
   ·simp only [List.getElem_set_ne e]
    rw [← k1];simp [Array.getElem?_setIfInBounds,e]
   ·simp only [List.getElem_set_ne e]
    exact⟨k2,k3,(k4.blk (fun b hb=>hk b hb.2)).more (fun b hb=>by rw [hz];exact hb)⟩
theorem ExRow.sl {w:World} {g lo:Nat} {l:List (List Ext)} (h:ExRow w g lo l) (hg:lo≤g):SlAt (encSl encExt) w (Nw lo w.heap.size) (some ⟨g,0,none⟩) l:=by
 have hlt:=h.lt
 refine fun _=>⟨g,0,rfl,⟨hg,hlt⟩,fun i x hx => ?_⟩
 obtain⟨hi,rfl⟩:=List.getElem?_eq_some_iff.1 hx
 obtain⟨A,c,h1,h2,h3,h4⟩:=h.at_ hi
 refine⟨[.slice A l[i].length c],fun j v hv => ?_,A,c,rfl,h2,h3,h4.more (fun b hb=>hb.1)⟩
 cases j with
 | zero =>
   simp at hv
   rw [← hv, ← h1]
   congr 2
   show 0+i * 1+0=i
   omega
 | succ j=>simp at hv
theorem ExRow.made {w:World} {n lo:Nat} {cur:Array Value} (hc:∀ j,j<n→cur[j]? = some (.slice none 0 0)):ExRow (w.alloc (.cells cur 93)) w.heap.size lo (List.replicate n []):=by
 refine⟨cur,heap_alloc_new _ _,fun v hv => ?_⟩
 rw [List.length_replicate] at hv
 exact⟨none,0,by simp [hc v hv],by simp,by simp,by simp only [List.getElem_replicate];exact SlAt.nil_⟩
end Go.Proofs.YtgndgkjefgjamaaGreat
namespace Go.Proofs.YtgndgkjefgjamaaGreat
open Go.RowKit Go.Shelf
attribute [local go_sem] Oper.semAt_some

theorem RInv.at_ {k:Nat} {im:Img} {l:List Snp} {all:List Kpt} (h:RInv k im l all) {j:Nat} (hj:j<all.length) (hjl:j<l.length) :
  l[j].1=all[j].1∧l[j].2.1=all[j].2.2∧findE (im,l) all[j].1=0∧findN (im,l) all[j].1=j∧atL im (l.drop j)=all[j].2.1:=by
 have hk:l[j].1=all[j].1:=by
  have:=congrArg (fun m=>(m[j]?).map (·.1)) h.key
  simpa [keyS,hj,hjl] using this
 have hk2:l[j].2.1=all[j].2.2:=by
  have:=congrArg (fun m=>(m[j]?).map (·.2)) h.key
  simpa [keyS,hj,hjl] using this
 obtain⟨f1,f2⟩:=find_at h.ok hjl
 rw [hk] at f1 f2
 refine⟨hk,hk2,f1,f2, ?_⟩
 have h1:=imgs_at (im:=im) hjl
 rw [h.ims] at h1
 simpa [hj] using h1.symm
theorem RInv.image {k:Nat} {im:Img} {l:List Snp} {all:List Kpt} (h:RInv k im l all) {j:Nat} (hj:j<all.length) :
  findE (im,l) all[j].1=0∧sImage (im,l) all[j].1=all[j].2.1:=by
 have hjl:j<l.length:=by rw [h.len2];exact hj
 obtain⟨_,_,h3,h4,h5⟩:=h.at_ hj hjl
 exact⟨h3,by unfold sImage;rw [if_pos h3,h4];exact h5⟩
theorem RInv.check {k:Nat} {im:Img} {l:List Snp} {all:List Kpt} (h:RInv k im l all):snE (im,l)=0:=h.ok
end Go.Proofs.YtgndgkjefgjamaaGreat
namespace Go.Proofs.YtgndgkjefgjamaaGreat

def wroteAt (xs:List Stp) (q v i:Nat):Prop:=(xs.getD q (0,0,0,0,0)).1 % 8<4∧hits (dataW (xs.getD q (0,0,0,0,0))) v i
def PW (xs:List Stp) (x:Snp) (t:Int):Prop:=∀ v i:Nat,(look x.2.2 v i).isSome=true→∃ q:Nat,x.2.1≤q∧(q:Int)<t∧wroteAt xs q v i
def nxt:List Snp→Int→Int
 | [],t=>t
 | y :: _,_=>y.2.1
def WI (xs:List Stp):List Snp→Int→Prop
 | [],_=>True
 | x :: r,t=>PW xs x (nxt r t)∧WI xs r t
theorem nxt_app (p m:List Snp) (t:Int):nxt (p++m) t=nxt p (nxt m t):=by cases p <;> rfl
theorem WI_app {xs:List Stp}:∀ {p m:List Snp} {t:Int},WI xs (p++m) t↔WI xs p (nxt m t)∧WI xs m t
 | [],m,t=>by simp [WI]
 | x :: p,m,t=>by
   show PW xs x (nxt (p++m) t)∧WI xs (p++m) t↔(PW xs x (nxt p (nxt m t))∧WI xs p (nxt m t))∧WI xs m t
   rw [WI_app,nxt_app,and_assoc]
theorem PW.mono {xs:List Stp} {x:Snp} {t t':Int} (h:PW xs x t) (ht:t≤t'):PW xs x t':=fun v i hl=>by
 obtain⟨q,h1,h2,h3⟩:=h v i hl
 exact⟨q,h1,by omega,h3⟩
theorem PW_nil {xs:List Stp} {a b t:Int}:PW xs (a,b,[]) t:=fun v i h=>by simp [look_nil] at h
theorem WI.mono {xs:List Stp}:∀ {l:List Snp} {t t':Int},WI xs l t→t≤t'→WI xs l t'
 | [],_,_,_,_=>trivial
 | [x],t,t',h,ht=>⟨PW.mono (t:=t) h.1 ht,trivial⟩
 | x :: y :: r,t,t',h,ht=>⟨h.1,WI.mono (l:=y :: r) h.2 ht⟩
theorem look_one {x:Wr} {v i:Int} (h:(look [x] v i).isSome=true):hits x v i:=by
 have e:look [x] v i=if hits x v i then some (datum x i) else none:=by simp [look]
 rw [e] at h
 by_cases hh:hits x v i
 ·exact hh
 ·rw [if_neg hh] at h;simp at h
theorem look_foldL_some {im:Img} (hz:sizesN (lens im)=0) {l:List Wr} (h:∀ x∈l,fitsN (lens im) x=0) (v i:Int):look (foldL l) v i=look l v i:=by
 have hp:∀ x∈l,placedN x=0:=fun x hx=>fits_placed1 hz (h x hx)
 rw [foldL_ok hp,look_fold hp]
theorem or_some {α:Type} {a b:Option α} (h:(a.or b).isSome=true):a.isSome=true∨b.isSome=true:=by
 cases a <;> simp_all
theorem WI.step {xs:List Stp} {k:Nat} {x:Stp} {t:Run} (hinv:RInv k t.1 t.2.1 t.2.2) (hx:OkStp x) (he:xs.getD k (0,0,0,0,0)=x) (h:WI xs t.2.1 (k:Int)):WI xs (runS k x t).2.1 ((k+1:Nat):Int):=by
 obtain⟨im,l,all⟩:=t
 simp only at hinv h
 obtain⟨hz,hlen,hok⟩:=snE_iff.1 hinv.ok
 have hfi:=hinv.fits
 have hkk:(k:Int)≤((k+1:Nat):Int):=by omega
 have htk:∀ y∈l,y.2.1<(k:Int):=fun y hy=>by
  have hm:keyS y∈all.map fun e=>(e.1,e.2.2):=by rw [← hinv.key];exact List.mem_map_of_mem hy
  obtain⟨e,he,e2⟩:=List.mem_map.1 hm
  have:=hinv.st e he
  simp only [keyS,Prod.mk.injEq] at e2
  omega
 unfold runS
 simp only
 by_cases c1:x.1 % 8<4
 ·rw [if_pos c1]
  have hf:∀ y∈[dataW x],fitsN (Proofs.YtgndgkjefgjamaaGreat.lens im) y=0:=fun y hy=>by rw [List.mem_singleton.1 hy,hinv.lens];exact data_fits x hx
  show WI xs (setLast l fun d=>foldL (contL im [dataW x]++d)) ((k+1:Nat):Int)
  rcases List.eq_nil_or_concat l with rfl | ⟨r,y,rfl⟩
  ·rw [setLast_nil];trivial
  ·rw [List.concat_eq_append] at h hfi htk ⊢
   rw [setLast_snoc,WI_app]
   rw [WI_app] at h
   refine⟨h.1, ?_,trivial⟩
   have hy:∀ z∈y.2.2,fitsN (Proofs.YtgndgkjefgjamaaGreat.lens im) z=0:=hfi y (by simp)
   have hall:∀ z∈contL im [dataW x]++y.2.2,fitsN (Proofs.YtgndgkjefgjamaaGreat.lens im) z=0:=fun z hz'=>(List.mem_append.1 hz').elim (contL_fits hf z) (hy z)
   intro v i hs
   show ∃ q:Nat,y.2.1≤q∧(q:Int)<((k+1:Nat):Int)∧_
   rw [look_foldL_some hz hall,look_append,look_cont hf] at hs
   rcases or_some hs with hs | hs
   ·obtain⟨q,q1,q2,q3⟩:=h.2.1 v i hs
    exact⟨q,q1,by have q2':(q:Int)<(k:Int):=q2;omega,q3⟩
   ·rw [Option.isSome_map] at hs
    refine⟨k,by have:=htk y (by simp);omega,by omega, ?_⟩
    unfold wroteAt
    rw [he]
    exact⟨c1,look_one hs⟩
 ·rw [if_neg c1]
  by_cases c2:x.1 % 8<6
  ·rw [if_pos c2]
   show WI xs (l++[((10+k:Int),(k:Int),[])]) ((k+1:Nat):Int)
   rw [WI_app]
   exact⟨h,PW_nil,trivial⟩
  ·rw [if_neg c2]
   by_cases c3:all.length=0
   ·rw [dif_pos c3]
    exact h.mono hkk
   ·rw [dif_neg c3]
    have hj:stJ x all.length<all.length:=stJ_lt (by omega)
    obtain⟨j,hjj⟩:∃ j,stJ x all.length=j:=⟨_,rfl⟩
    rw [hjj] at hj ⊢
    have hjl:j<l.length:=by rw [hinv.len2];exact hj
    by_cases c4:x.1 % 8=6
    ·rw [if_pos c4]
     show WI xs (delL l j) ((k+1:Nat):Int)
     cases j with
     | zero =>
       cases l with
       | nil=>simp at hjl
       | cons y b=>exact WI.mono (l:=b) h.2 hkk
     | succ i =>
       have hsp:=split2 hjl
       obtain⟨a,ha⟩:∃ a,l.take i=a:=⟨_,rfl⟩
       obtain⟨y,hy⟩:∃ y,l[i]=y:=⟨_,rfl⟩
       obtain⟨z,hz'⟩:∃ z,l[i+1]=z:=⟨_,rfl⟩
       obtain⟨b,hb⟩:∃ b,l.drop (i+2)=b:=⟨_,rfl⟩
       have hal:a.length=i:=by rw [← ha];simp;omega
       rw [ha,hy,hz',hb] at hsp
       clear ha hy hz' hb
       subst hal
       subst hsp
       rw [delL_split]
       rw [show a++y :: z :: b=a++([y]++([z]++b)) by simp,WI_app,WI_app,WI_app] at h
       obtain⟨h1,⟨h2,_⟩,⟨h3,_⟩,h4⟩:=h
       have hyz:y.2.1≤z.2.1:=by
        have h5:=hok.2
        rw [show (a++y :: z :: b).map keyS=a.map keyS++(keyS y :: keyS z :: b.map keyS) by simp,List.pairwise_append] at h5
        exact ((List.pairwise_cons.1 h5.2.1).1 (keyS z) (by simp)).2
       have hzb:z.2.1≤nxt b ((k+1:Nat):Int):=by
        cases b with
        | nil=>have:=htk z (by simp);simp only [nxt];omega
        | cons u b =>
          have h5:=hok.2
          rw [show (a++y :: z :: u :: b).map keyS=(a++[y]).map keyS++(keyS z :: keyS u :: b.map keyS) by simp,List.pairwise_append] at h5
          exact ((List.pairwise_cons.1 h5.2.1).1 (keyS u) (by simp)).2
       have hfy:∀ q∈y.2.2,fitsN (Proofs.YtgndgkjefgjamaaGreat.lens im) q=0:=hfi y (by simp)
       have hfz:∀ q∈z.2.2,fitsN (Proofs.YtgndgkjefgjamaaGreat.lens im) q=0:=hfi z (by simp)
       have hall:∀ q∈z.2.2++y.2.2,fitsN (Proofs.YtgndgkjefgjamaaGreat.lens im) q=0:=fun q hq=>(List.mem_append.1 hq).elim (hfz q) (hfy q)
       rw [show a++(y.1,y.2.1,foldL (z.2.2++y.2.2)) :: b=a++([(y.1,y.2.1,foldL (z.2.2++y.2.2))]++b) by simp,WI_app,WI_app]
       refine⟨by simpa [nxt] using h1,⟨?_,trivial⟩,h4.mono hkk⟩
       intro v i hs
       simp only [nxt] at hs ⊢
       rw [look_foldL_some hz hall,look_append] at hs
       rcases or_some hs with hs | hs
       ·obtain⟨q,q1,q2,q3⟩:=h2 v i hs
        have q2':(q:Int)<z.2.1:=q2
        exact⟨q,q1,Int.lt_of_lt_of_le q2' hzb,q3⟩
       ·obtain⟨q,q1,q2,q3⟩:=h3 v i hs
        refine⟨q,by omega, ?_,q3⟩
        simp only [nxt] at q2
        cases b with
        | nil=>simp only [nxt] at q2 ⊢;omega
        | cons u b=>exact q2
    ·rw [if_neg c4]
     show WI xs (setLast (l.take (j+1)) fun _=>[]) ((k+1:Nat):Int)
     have ht:l.take (j+1)=l.take j++[l[j]]:=List.take_succ_eq_append_getElem hjl
     have hs:l=l.take j++l[j] :: l.drop (j+1):=by
      conv=>lhs;rw [← List.take_append_drop j l,List.drop_eq_getElem_cons hjl]
     rw [ht,setLast_snoc,WI_app]
     rw [hs,WI_app] at h
     exact⟨h.1,PW_nil,trivial⟩
theorem WI.seg {xs:List Stp}:∀ {l:List Snp} {t:Int},WI xs l t→(l.map keyS).Pairwise (fun x y=>x.1<y.1∧x.2≤y.2)→∀ y∈l,∀ v i:Nat,(look y.2.2 v i).isSome=true→(∀ z∈l,z.2.1≤t)→∃ q:Nat,nxt l t≤q∧(q:Int)<t∧wroteAt xs q v i
 | x :: r,t,h,hp,y,hy,v,i,hs,ht=>by
   have hp':=List.pairwise_cons.1 hp
   rcases List.mem_cons.1 hy with rfl | hy
   ·obtain⟨q,q1,q2,q3⟩:=h.1 v i hs
    refine⟨q,q1, ?_,q3⟩
    cases r with
    | nil=>exact q2
    | cons z r=>have:=ht z (by simp);simp only [nxt] at q2;omega
   ·obtain⟨q,q1,q2,q3⟩:=WI.seg h.2 hp'.2 y hy v i hs (fun z hz=>ht z (List.mem_cons_of_mem _ hz))
    refine⟨q, ?_,q2,q3⟩
    show x.2.1≤q
    cases r with
    | nil=>cases hy
    | cons z r =>
      have:=(hp'.1 (keyS z) (by simp)).2
      simp only [keyS,nxt] at this q1
      omega
end Go.Proofs.YtgndgkjefgjamaaGreat

namespace Go.Proofs.YtgndgkjefgjamaaGreat

instance (xs:List Stp) (q v i:Nat):Decidable (wroteAt xs q v i):=by unfold wroteAt;infer_instance
def secAt (im:Img) (v i:Nat):Sec:=(im.getD v []).getD i zsec
end Go.Proofs.YtgndgkjefgjamaaGreat
namespace Go.Proofs.YtgndgkjefgjamaaGreat

theorem evI_lt (e:CEv):evI e<4:=by unfold evI;omega
theorem CInv.step {sz:List Int} {k:Nat} {s:CSt} (h:CInv sz k s) (hk:k≤1000) (e:CEv):CInv sz (k+1) (cStep s e):=by
 have hi:=evI_lt e
 unfold cStep
 split
 ·split
  ·rename_i hf;exact (h.rep hf).2.2
  ·exact h.mono
 split
 ·exact (h.tak hk).2
 split
 ·split
  ·rename_i hd;exact h.drp hd
  ·exact h.mono
 split
 ·split
  ·exact h.mono
  ·rename_i hth
   split
   ·rename_i hz;exact ((h.cre hi).2 (by simpa using hth)).2 hz
   ·exact h.mono
 split
 ·split
  ·rename_i hc;exact ((h.wr hi).2 hc.1).2 hc.2
  ·exact h.mono
 ·split
  ·rename_i hth;exact ((h.del hi).2 hth).2
  ·exact h.mono
def cSt0 (im:Img):CSt:=⟨((im,[(1,0,[])]),[]),im,fun j=>if j=1 then im else [],1,fun _=>[],fun _=>false⟩
theorem cInv0 {im:Img} {sz:List Int} (hl:lens im=sz) (hz:sizesN sz=0):CInv sz 0 (cSt0 im):=by
 have h0:snE (im,[])=0:=by
  unfold snE
  simp only
  rw [if_neg (by rw [hl,hz];simp),if_neg (by simp)];rfl
 obtain⟨_,_,t3,t4⟩:=tak_facts (n:=1) (t:=0) h0 (by decide) (by decide) (by decide) (by decide) (by decide)
 refine⟨?_,hl,rfl,⟨Nat.le_refl _,Nat.le_refl _⟩, ?_, ?_, ?_,Nat.le_refl _,rfl, ?_, ?_, ?_, ?_⟩
 ·refine clE_iff.2 ⟨t4,by simp,fun x hx=>(by cases hx),by simp⟩
 ·intro p hp
  have e:p=(1,0):=by simpa [cSt0,keyS] using hp
  subst e
  show (1:Int)≤1∧(1:Int)≤((1:Nat):Int)∧(0:Int)≤0∧(0:Int)≤((1:Nat):Int)
  decide
 ·show imgs im ([]++[(1,0,[])])=_
  rw [t3];rfl
 ·intro j h1 h2
  have h3:j≤1:=h2
  obtain rfl:j=1:=by omega
  exact hl
 ·intro i _;rfl
 ·intro i _ x hx;cases hx
 ·intro x hx
  have e:x=(1,0,[]):=by simpa [cSt0] using hx
  subst e;exact Nat.zero_le _
 ·intro x hx;cases hx
def cRun (im:Img) (es:List CEv) (k:Nat):CSt:=(es.take k).foldl cStep (cSt0 im)
theorem cRun_succ (im:Img) {es:List CEv} {k:Nat} (h:k<es.length):cRun im es (k+1)=cStep (cRun im es k) es[k]:=by
 unfold cRun;rw [List.take_succ_eq_append_getElem h,List.foldl_append];rfl
theorem cRun_inv {im:Img} {sz:List Int} (hl:lens im=sz) (hz:sizesN sz=0) {es:List CEv}:∀ k,k≤es.length→k≤100→CInv sz k (cRun im es k)
 | 0,_,_=>cInv0 hl hz
 | k+1,h1,h2=>by rw [cRun_succ im (show k<es.length from h1)];exact (cRun_inv hl hz k (by omega) (by omega)).step (by omega) _
theorem CInv.differs {sz:List Int} {k:Nat} {s:CSt} (h:CInv sz k s) {i:Nat} (hi:i<4) (ht:s.th i=true) :
  ∃ (j:Nat) (hj:j<s.c.2.length),cfE s.c (nmC i)=0∧cIm s.c (nmC i)=s.cl i∧lens (s.cl i)=sz∧cfN s.c (nmC i)=j∧cAt s.c (nmC i)=s.c.2[j] ∧
    findE s.c.1 (s.c.2[j]).2.1=0∧sImage s.c.1 (s.c.2[j]).2.1=s.sn (s.c.2[j]).2.1.toNat∧lens (s.sn (s.c.2[j]).2.1.toNat)=sz ∧
    ∀ v n:Nat,n<4096→(runsL (secsOf (s.c.2[j]).2.2 v)).any (inExt n)=false→secAt (s.cl i) v n=secAt (s.sn (s.c.2[j]).2.1.toNat) v n:=by
 obtain⟨e1,e2,e3,j,hj,e4,e5,e6⟩:=(h.cimg hi).1 ht
 obtain⟨k1,k2,jj,hjj,k3⟩:=h.tk (List.getElem_mem hj)
 obtain⟨m1,m2,m3⟩:=h.img hjj
 rw [k3] at m1 m2 m3
 have hcl:=h.cli i hi _ (List.getElem_mem hj) e6
 have hfx:∀ y∈(s.c.2[j]).2.2,fitsN sz y=0:=by
  have:=((clE_fits (im:=s.c.1.1) (l:=s.c.1.2) (cl:=s.c.2) h.ok).2.2 _ (List.getElem_mem hj)).2
  rw [h.cur,h.lns] at this
  exact this
 refine⟨j,hj,e1,e2,e3,e4,e5,by rw [h.c1];exact m2,by rw [h.c1];exact m1,m3,fun v n hn hv => ?_⟩
 have hlk:look (s.c.2[j]).2.2 v n=none:=by
  rw [secsOf_below,runs_any _ 4096 (Nat.le_refl _)] at hv
  cases hq:look (s.c.2[j]).2.2 v n with
  | none=>rfl
  | some z=>rw [hq] at hv;simp at hv;omega
 rw [hcl]
 unfold secAt
 rw [putAll_at (by rw [m3];exact hfx),hlk]
 rfl
end Go.Proofs.YtgndgkjefgjamaaGreat

/-
  State.clone of a run over clones, kind 1: the walk.; State.step of a run over clones: the rows of its states; replicate, take and drop of a state.; State.step of a run over clones: the events of a clone.; State.step of a run over clones: a snapshot is taken.
-/
import Derived.BigQuiet
import Derived.Deep.DeepCutAuto
import Derived.Test.YtgndgkjefgjamaaGreatV01
import Derived.Test.YtgndgkjefgjamaaGreatV02
import Derived.Test.YtgndgkjefgjamaaGreatV03
import Derived.Test.YtgndgkjefgjamaaGreatV04
import Derived.Test.YtgndgkjefgjamaaGreatV05
import Derived.Test.YtgndgkjefgjamaaGreatV06
import Derived.Test.YtgndgkjefgjamaaGreatV07
import Derived.Test.YtgndgkjefgjamaaGreatV08
import Derived.Test.YtgndgkjefgjamaaGreatV09
import Derived.Test.YtgndgkjefgjamaaGreatV10
import Derived.Test.YtgndgkjefgjamaaGreatV11
import Derived.Test.YtgndgkjefgjamaaGreatV12
import Derived.Test.YtgndgkjefgjamaaGreatV13
import Derived.Test.YtgndgkjefgjamaaGreatV14
import Derived.Test.YtgndgkjefgjamaaGreatV15
import Derived.Test.YtgndgkjefgjamaaGreatV16
set_option linter.unusedVariables false
set_option linter.unusedSimpArgs false
set_option linter.unusedSectionVars false
set_option linter.unnecessarySimpa false
namespace Go.Proofs.YtgndgkjefgjamaaGreat
open Go.RowKit Go.Shelf
attribute [local go_sem] Oper.semAt_some

set_option maxHeartbeats 4000000 in
set_option maxRecDepth 100000 in
theorem row_wr {s s':CSt} {x:Cls} {r:Img} {i:Nat} (hi:i<4) (hs:s'={ s with c:=x,cl:=upd s.cl i r }) {A D G B A5 D5 G5 A7:Option Addr} {c d g bc c5 d5 g5 c7:Nat} {sa ca:Nat→Option Addr} {sc cc:Nat→Nat} :
  ((((((stl s A c D d G g B bc sa sc ca cc):Array Value).setIfInBounds 0 (.slice A5 x.1.1.length c5)).setIfInBounds 1 (.slice D5 x.1.2.length d5)).setIfInBounds 2 (.slice G5 x.2.length g5)).setIfInBounds 53 (.bool true)).setIfInBounds (45+i) (.slice A7 r.length c7)=stl s' A5 c5 D5 d5 G5 g5 B bc sa sc (upd ca i A7) (upd cc i c7):=by
 subst hs
 rcases or4 hi with rfl | rfl | rfl | rfl <;> simp [stl,upd]
set_option maxHeartbeats 8000000 in
set_option maxRecDepth 100000 in
theorem sclone1_any (a:Int) (k i:Nat) (s:CSt) (A D G B Dw:Option Addr) (c d g bc dw wl:Nat) (sa:Nat→Option Addr) (sc:Nat→Nat) (ca:Nat→Option Addr) (cc:Nat→Nat) (S:Nat→Prop) (row:Array Value) (hR:row=(stl s A c D d G g B bc sa sc ca cc)) (kd wh v st:Int) (data:List Sec) (w:World) (ha:1≤a∧a≤12) (hk:k≤1000) (h:CInv [a,4] k s) (hM:StM s A c D d G g B bc sa sc ca cc (fun q=>S q∧q<w.heap.size) w)
  (hkd:0≤kd∧kd<256) (hwh:0≤wh∧wh<256) (hi:wh % 4=i) (hwl:data.length=wl) (h4:SlAt encSec w (Bl w.heap.size) Dw data) (hvs:I64 v∧I64 st) (hdl:wl≤1000) (hdc:wl≤dw∧dw≤maxLen) (hk3:kd % 6=1) :
  Calls Tryz.prog 138 #[.agg row,.agg #[.int .u8 kd,.int .u8 wh,.int .i64 v,.int .i64 st,.slice Dw wl dw]] w (StRet S (cStep s (kd,wh,(v,st,data))) w):=by
 obtain⟨sb,hsb⟩:∃ sb,w.heap.size=sb:=⟨_,rfl⟩
 have hi4:i<4:=by omega
 have hii:(0:Int)≤i∧(i:Int)<4:=by omega
 have hi0:(0:Int)≤i:=by omega
 have hi9:(i:Int)<4:=by omega
 have hmod:wh.tmod 4=(i:Int):=by rw [Int.tmod_eq_emod_of_nonneg hwh.1];exact hi
 obtain⟨kr,hkr⟩:∃ kr,kd % 6=kr:=⟨_,rfl⟩
 have hmod6:kd.tmod 6=kr:=by rw [Int.tmod_eq_emod_of_nonneg hkd.1];exact hkr
 obtain⟨W0,hW0⟩:∃ W0,((w.alloc (.cells row 79)).alloc (.cells #[.int .u8 kd,.int .u8 wh,.int .i64 v,.int .i64 st,.slice Dw wl dw] 149)).alloc (.cells #[.slice none 0 0,.slice none 0 0,.slice none 0 0,.slice none 0 0,.slice none 0 0,.slice none 0 0,.slice none 0 0,.slice none 0 0,.slice none 0 0,.slice none 0 0,.slice none 0 0,.slice none 0 0,.slice none 0 0,.slice none 0 0,.slice none 0 0,.slice none 0 0,.slice none 0 0,.slice none 0 0,.slice none 0 0,.slice none 0 0,.slice none 0 0,.slice none 0 0,.slice none 0 0,.slice none 0 0,.slice none 0 0,.slice none 0 0,.slice none 0 0,.slice none 0 0,.slice none 0 0,.slice none 0 0,.slice none 0 0,.slice none 0 0,.slice none 0 0,.slice none 0 0,.slice none 0 0,.slice none 0 0,.slice none 0 0,.slice none 0 0,.slice none 0 0,.slice none 0 0,.slice none 0 0,.slice none 0 0,.slice none 0 0,.slice none 0 0,.int .i64 0,.slice none 0 0,.slice none 0 0,.slice none 0 0,.slice none 0 0,.bool false,.bool false,.bool false,.bool false,.bool false] 79)=W0:=⟨_,rfl⟩
 have hB0:Below w.heap.size w W0:=by rw [← hW0];exact ext_alloc (ext_alloc (ext_alloc (Below.refl _ _)))
 have hz0:sb+1+1<W0.heap.size:=by rw [← hW0, ← hsb];simp
 have hrow:W0.heap[sb]? = some (.cells row 79 (0,0)):=by rw [← hW0, ← hsb];exact (Below.heap_alloc _ _ _ (by simp <;> omega)).trans ((Below.heap_alloc _ _ _ (by simp)).trans (heap_alloc_new _ _))
 have hev:W0.heap[sb+1]? = some (.cells #[.int .u8 kd,.int .u8 wh,.int .i64 v,.int .i64 st,.slice Dw wl dw] 149 (0,0)):=by rw [← hW0, ← hsb];exact (Below.heap_alloc _ _ _ (by simp)).trans (heap_new2 _ _ _)
 have hres:W0.heap[sb+1+1]? = some (.cells #[.slice none 0 0,.slice none 0 0,.slice none 0 0,.slice none 0 0,.slice none 0 0,.slice none 0 0,.slice none 0 0,.slice none 0 0,.slice none 0 0,.slice none 0 0,.slice none 0 0,.slice none 0 0,.slice none 0 0,.slice none 0 0,.slice none 0 0,.slice none 0 0,.slice none 0 0,.slice none 0 0,.slice none 0 0,.slice none 0 0,.slice none 0 0,.slice none 0 0,.slice none 0 0,.slice none 0 0,.slice none 0 0,.slice none 0 0,.slice none 0 0,.slice none 0 0,.slice none 0 0,.slice none 0 0,.slice none 0 0,.slice none 0 0,.slice none 0 0,.slice none 0 0,.slice none 0 0,.slice none 0 0,.slice none 0 0,.slice none 0 0,.slice none 0 0,.slice none 0 0,.slice none 0 0,.slice none 0 0,.slice none 0 0,.slice none 0 0,.int .i64 0,.slice none 0 0,.slice none 0 0,.slice none 0 0,.slice none 0 0,.bool false,.bool false,.bool false,.bool false,.bool false] 79 (0,0)):=by rw [← hW0, ← hsb];exact heap_new3 _ _ _ _
 have HW0:=Lib.hid hW0
 have HSB:=Lib.hid hsb
 have HM0:=Lib.hid hM
 have HROW:=Lib.hid hrow
 have HEV:=Lib.hid hev
 have HRES:=Lib.hid hres
 have hwsb:w.heap.size≤sb∧sb≤w.heap.size:=by omega
 have HC5:Hid (∀ W,Below W0.heap.size W0 W→W.cell? ⟨sb,0,none⟩=some (.slice A s.c.1.1.length c)∧W.cell? ⟨sb,1,none⟩=some (.slice D s.c.1.2.length d)∧W.cell? ⟨sb,2,none⟩=some (.slice G s.c.2.length g)∧W.cell? ⟨sb,44,none⟩=some (.int .i64 (s.nw:Nat))):=fun W hb=>by
  have hrow2:=(hb.block sb (by omega)).trans hrow
  rw [hR] at hrow2
  obtain⟨h0,h1,h2,h3,h4,h5,h6,h7,h8,h9,h10,h11,h12,h13,h14,h15,h16,h17,h18,h19,h20,h21,h22,h23,h24,h25,h26,h27,h28,h29,h30,h31,h32,h33,h34,h35,h36,h37,h38,h39,h40,h41,h42,h43,h44,h45,h46,h47,h48,h49,h50,h51,h52,h53,hf⟩:=blk54 hrow2
  exact⟨h0,h1,h2,h44⟩
 have HCI:Hid (∀ W,Below W0.heap.size W0 W→(W.cell? ⟨sb,53,none⟩=some (.bool true)∧∀ j,W.frozen? ⟨sb,j,none⟩=false)∧W.cell? ⟨sb,45+i,none⟩=some (.slice (ca i) (s.cl i).length (cc i))∧W.cell? ⟨sb,49+i,none⟩=some (.bool (s.th i))):=fun W hb=>by
  have hrow2:=(hb.block sb (by omega)).trans hrow
  rw [hR] at hrow2
  obtain⟨h0,h1,h2,h3,h4,h5,h6,h7,h8,h9,h10,h11,h12,h13,h14,h15,h16,h17,h18,h19,h20,h21,h22,h23,h24,h25,h26,h27,h28,h29,h30,h31,h32,h33,h34,h35,h36,h37,h38,h39,h40,h41,h42,h43,h44,h45,h46,h47,h48,h49,h50,h51,h52,h53,hf⟩:=blk54 hrow2
  refine⟨⟨h53,hf⟩, ?_⟩
  clear hb hrow hrow2 hM hi hmod HM0 HROW
  match i,hi4 with
  | 0,_=>exact⟨h45,h49⟩
  | 1,_=>exact⟨h46,h50⟩
  | 2,_=>exact⟨h47,h51⟩
  | 3,_=>exact⟨h48,h52⟩
 have HCL:Hid (∀ W,Below W0.heap.size W0 W→ClAt s.c A c D d G g (Bl W.heap.size) W):=fun W hb=>hM.cls.keep (fun q hq=>(hB0.trans (hb.mono hB0.size)).block q hq.2) (fun q hq=>by have:=hq.2;have:=hB0.size;have:=hb.size;show q<W.heap.size;omega)
 have H4:Hid (∀ W,Below W0.heap.size W0 W→SlAt encSec W (Bl W.heap.size) Dw data):=fun W hb=>h4.fwd (hB0.trans (hb.mono hB0.size))
 have HEC:Hid (∀ W,Below W0.heap.size W0 W→W.cell? ⟨sb+1,2,none⟩=some (.int .i64 v)∧W.cell? ⟨sb+1,3,none⟩=some (.int .i64 st)∧W.cell? ⟨sb+1,4,none⟩=some (.slice Dw wl dw)):=fun W hb=>by
  have h:=(hb.block (sb+1) (by omega)).trans hev
  exact⟨cell_of_row W (sb+1) 2 _ _ _ h,cell_of_row W (sb+1) 3 _ _ _ h,cell_of_row W (sb+1) 4 _ _ _ h⟩
 have ev0:W0.cell? ⟨sb+1,0,none⟩=some (.int .u8 kd):=cell_of_row W0 (sb+1) 0 _ _ _ hev
 have ev1:W0.cell? ⟨sb+1,1,none⟩=some (.int .u8 wh):=cell_of_row W0 (sb+1) 1 _ _ _ hev
 have HR:=Lib.hid hR
 clear hrow hres hM hev hR
 go_enter Tryz.func138,Tryz.ntmps138
 go_upto_region 3 with (fail)
 clear hW0 ev0 ev1
 try rw [HW0.out]
 clear HW0
 obtain rfl:kr=1:=by omega
 obtain⟨x,hx⟩:∃ x,wrS s.c (nmC i) (v,st,data)=x:=⟨_,rfl⟩
 obtain⟨n,hn⟩:∃ n,wrE s.c (nmC i) (v,st,data)=n:=⟨_,rfl⟩
 have HDL:=Lib.hid (fun W (hb:Below W0.heap.size W0 W)=>csWrite h ha hk (HCL.out W hb) hwl (H4.out W hb) hvs hdl hdc hx hn)
 have hd:=h.wr hi4 (w:=(v,st,data))
 rw [hn] at hd
 have HX:=Lib.hid hx
 have HD:=Lib.hid hd
 have HN:=Lib.hid hn
 have hSw:Below W0.heap.size W0 W0.drew:=(Below.refl _ _).drew
 clear hx hn hd
 go_upto_region 12 with (fail)
 go_cut [8,9] (fun p f wx=>f = .int .i64 n∧(∃ tz,p = .pointer (some ⟨tz,0,none⟩)∧W0.heap.size≤tz∧∃ A5 c5 D5 d5 G5 g5,ClN W0.heap.size tz x A5 c5 D5 d5 G5 g5 wx)∧Below W0.heap.size W0 wx)
 case first =>
  refine wp_region_U (fun W'=>Below W0.heap.size W0 W') 13 (by kernel_rfl) ?_
  refine wpAnyU_takeD (i:=0) (v := ?_) rfl rfl (by kernel_rfl) (by kernel_rfl) (by kernel_rfl) (by kernel_rfl) (fun _ _ _ h=>h) (by rfl) ?_ hSw ?_
  rotate_left 1
  ·intro W9 hW9
   try dsimp only at hW9
   obtain _:=trivial
   go_simp
   try with_reducible rfl
  try simp only [List.setIfInBounds_toArray,List.set_cons_zero,List.set_cons_succ]
  refine wpAnyU_takeD (i:=1) (v := ?_) rfl rfl (by kernel_rfl) (by kernel_rfl) (by kernel_rfl) (by kernel_rfl) (fun _ _ _ h=>h) (by rfl) ?_ hSw ?_
  rotate_left 1
  ·intro W9 hW9
   try dsimp only at hW9
   obtain⟨q0,q1,q2,q3⟩:=HC5.out W9 hW9
   go_simp
   try with_reducible rfl
  try simp only [List.setIfInBounds_toArray,List.set_cons_zero,List.set_cons_succ]
  refine wpAnyU_takeD (i:=2) (v := ?_) rfl rfl (by kernel_rfl) (by kernel_rfl) (by kernel_rfl) (by kernel_rfl) (fun _ _ _ h=>h) (by rfl) ?_ hSw ?_
  rotate_left 1
  ·intro W9 hW9
   try dsimp only at hW9
   obtain _:=trivial
   go_simp
   try with_reducible rfl
  try simp only [List.setIfInBounds_toArray,List.set_cons_zero,List.set_cons_succ]
  refine wpAnyU_takeD (i:=4) (v := ?_) rfl rfl (by kernel_rfl) (by kernel_rfl) (by kernel_rfl) (by kernel_rfl) (fun _ _ _ h=>h) (by rfl) ?_ hSw ?_
  rotate_left 1
  ·intro W9 hW9
   try dsimp only at hW9
   obtain _:=trivial
   go_simp
   try with_reducible rfl
  try simp only [List.setIfInBounds_toArray,List.set_cons_zero,List.set_cons_succ]
  refine wpAnyU_takeD (i:=5) (v := ?_) rfl rfl (by kernel_rfl) (by kernel_rfl) (by kernel_rfl) (by kernel_rfl) (fun _ _ _ h=>h) (by rfl) ?_ hSw ?_
  rotate_left 1
  ·intro W9 hW9
   try dsimp only at hW9
   obtain⟨q0,q1,q2⟩:=HEC.out W9 hW9
   go_simp
   try with_reducible rfl
  try simp only [List.setIfInBounds_toArray,List.set_cons_zero,List.set_cons_succ]
  refine wpAnyU_two (i:=3) (j:=10) (by kernel_rfl) rfl rfl rfl rfl (fun K hK => ?_) (fun K hK => ?_)
  ·go_wp2_with fail
   refine (name_any i hi4 _).mono ?_
   rintro e w6 ⟨rfl,rfl⟩
   refine hK.out _ _ (fun _=>hSw) ?_
   clear hK K
   try simp only [Act.put,List.setIfInBounds_toArray,List.set_cons_zero,List.set_cons_succ]
   refine wpAnyU_two (i:=6) (j:=10) (by kernel_rfl) rfl rfl rfl rfl (fun K hK => ?_) (fun K hK => ?_)
   ·go_wp2_with fail
    refine (HDL.out _ hSw).mono ?_
    rintro e w6 ⟨A5,c5,D5,d5,G5,g5,rfl,hat,hb6⟩
    have hS6:=hSw.trans (hb6.mono hSw.size)
    have hsz:=hSw.size
    refine hK.out _ _ (fun _=>hS6) ?_
    clear hK K
    try simp only [Act.put,List.setIfInBounds_toArray,List.set_cons_zero,List.set_cons_succ]
    clear hSw
    have hSw:=hS6
    refine wpAnyU_takeD (i:=7) (v := ?_) rfl rfl (by kernel_rfl) (by kernel_rfl) (by kernel_rfl) (by kernel_rfl) (fun _ _ _ h=>h) (by rfl) ?_ hSw ?_
    rotate_left 1
    ·intro W9 hW9
     try dsimp only at hW9
     obtain _:=trivial
     go_simp
     try with_reducible rfl
    try simp only [List.setIfInBounds_toArray,List.set_cons_zero,List.set_cons_succ]
    refine wpAnyU_takeD (i:=8) (v := ?_) rfl rfl (by kernel_rfl) (by kernel_rfl) (by kernel_rfl) (by kernel_rfl) (fun _ _ _ h=>h) (by rfl) ?_ hSw ?_
    rotate_left 1
    ·intro W9 hW9
     try dsimp only at hW9
     obtain _:=trivial
     go_simp
     try with_reducible rfl
    try simp only [List.setIfInBounds_toArray,List.set_cons_zero,List.set_cons_succ]
    refine wpAnyU_takeD (i:=9) (v := ?_) rfl rfl (by kernel_rfl) (by kernel_rfl) (by kernel_rfl) (by kernel_rfl) (fun _ _ _ h=>h) (by rfl) ?_ hSw ?_
    rotate_left 1
    ·intro W9 hW9
     try dsimp only at hW9
     obtain _:=trivial
     go_simp
     try with_reducible rfl
    try simp only [List.setIfInBounds_toArray,List.set_cons_zero,List.set_cons_succ]
    have hS7:Below W0.heap.size W0 (w6.alloc (.cells #[.slice none 0 0,.slice none 0 0,.slice none 0 0] 29)):=hS6.alloc hS6.size _
    have hrz:(w6.alloc (.cells #[.slice none 0 0,.slice none 0 0,.slice none 0 0] 29)).heap[w6.heap.size]? = some (.cells #[.slice none 0 0,.slice none 0 0,.slice none 0 0] 29 (0,0)):=heap_alloc_new _ _
    have hatz:=ClN.mk_ hat (fun q hq=>Below.heap_alloc w6 (.cells #[.slice none 0 0,.slice none 0 0,.slice none 0 0] 29) q hq.2) (t:=w6.heap.size) (lo:=W0.heap.size) (fun q hq=>⟨by have:=hq.1;omega,by have:=hq.2;omega,by have:=hq.2;simp;omega⟩)
    have htz:W0.heap.size≤w6.heap.size:=hS6.size
    refine wpAnyU_op (i:=10) (by kernel_rfl) rfl rfl (fun K hK => ?_)
    go_simp
    refine hK.out _ _ (fun _=>hS7) ?_
    clear hK K
    try simp only [Act.put,List.setIfInBounds_toArray,List.set_cons_zero,List.set_cons_succ]
    change wpAnyU _ _ _ _ _ _ _ _ _ (w6.alloc (.cells #[.slice none 0 0,.slice none 0 0,.slice none 0 0] 29))
    generalize w6.alloc (.cells #[.slice none 0 0,.slice none 0 0,.slice none 0 0] 29)=w7 at hS7 hrz hatz ⊢
    generalize w6.heap.size=tz at hrz hatz htz ⊢
    clear hat hb6 hS6 hSw
    obtain⟨v0,v1,v2,vf⟩:=blk3 hrz
    have hSs:=sw3_below hS7 htz (.slice A5 (x).1.1.length c5) (.slice D5 (x).1.2.length d5) (.slice G5 (x).2.length g5)
    have hcl:=ClN.store hatz hrz
    refine wpAnyU_op (i:=11) (by kernel_rfl) rfl rfl (fun K hK => ?_)
    go_simp
    refine hK.out _ _ (fun _=>hSs) ?_
    clear hK K
    try simp only [Act.put,List.setIfInBounds_toArray,List.set_cons_zero,List.set_cons_succ]
    refine wpAnyU_op (i:=12) (by kernel_rfl) rfl rfl (fun K hK => ?_)
    go_simp
    refine hK.out _ _ (fun _=>hSs) ?_
    clear hK K
    try simp only [Act.put,List.setIfInBounds_toArray,List.set_cons_zero,List.set_cons_succ]
    refine wpAnyU_done (by kernel_rfl) ?_ _
    clear v0 v1 v2 vf
    go_wp2
    go_meet
    exact⟨rfl,⟨_,rfl,htz,A5,c5,D5,d5,G5,g5,hcl⟩,hSs⟩
   ·have hS7:Below W0.heap.size W0 (W0.drew.alloc (.cells #[.slice none 0 0,.slice none 0 0,.slice none 0 0] 29)):=hSw.alloc hSw.size _
    have hrz:(W0.drew.alloc (.cells #[.slice none 0 0,.slice none 0 0,.slice none 0 0] 29)).heap[W0.heap.size]? = some (.cells #[.slice none 0 0,.slice none 0 0,.slice none 0 0] 29 (0,0)):=heap_alloc_new W0.drew _
    have htz:W0.heap.size≤W0.heap.size:=hSw.size
    go_simp
    refine hK.out _ _ (fun _=>hS7) ?_
    clear hK K
    try simp only [Act.put,List.setIfInBounds_toArray,List.set_cons_zero,List.set_cons_succ]
    change wpAnyU _ _ _ _ _ _ _ _ _ (W0.drew.alloc (.cells #[.slice none 0 0,.slice none 0 0,.slice none 0 0] 29))
    generalize W0.drew.alloc (.cells #[.slice none 0 0,.slice none 0 0,.slice none 0 0] 29)=w7 at hS7 hrz ⊢
    refine wpAnyU_op (i:=6) (by kernel_rfl) rfl rfl (fun K hK => ?_)
    go_wp2_with fail
    refine (HDL.out _ hS7).mono ?_
    rintro e w8 ⟨A5,c5,D5,d5,G5,g5,rfl,hat,hb8⟩
    have hl7:=(Array.getElem?_eq_some_iff.1 hrz).1
    have hS8:=hS7.trans (hb8.mono hS7.size)
    replace hrz:=(hb8.block _ hl7).trans hrz
    have hatz:=ClN.mk_ hat (fun q _=>rfl) (t:=W0.heap.size) (lo:=W0.heap.size) (fun q hq=>⟨by have:=hq.1;omega,by have:=hq.1;omega,hq.2⟩)
    refine hK.out _ _ (fun _=>hS8) ?_
    clear hK K
    try simp only [Act.put,List.setIfInBounds_toArray,List.set_cons_zero,List.set_cons_succ]
    clear hSw hS7 hl7 hat hb8
    have hSw:=hS8
    refine wpAnyU_takeD (i:=7) (v := ?_) rfl rfl (by kernel_rfl) (by kernel_rfl) (by kernel_rfl) (by kernel_rfl) (fun _ _ _ h=>h) (by rfl) ?_ hSw ?_
    rotate_left 1
    ·intro W9 hW9
     try dsimp only at hW9
     obtain _:=trivial
     go_simp
     try with_reducible rfl
    try simp only [List.setIfInBounds_toArray,List.set_cons_zero,List.set_cons_succ]
    refine wpAnyU_takeD (i:=8) (v := ?_) rfl rfl (by kernel_rfl) (by kernel_rfl) (by kernel_rfl) (by kernel_rfl) (fun _ _ _ h=>h) (by rfl) ?_ hSw ?_
    rotate_left 1
    ·intro W9 hW9
     try dsimp only at hW9
     obtain _:=trivial
     go_simp
     try with_reducible rfl
    try simp only [List.setIfInBounds_toArray,List.set_cons_zero,List.set_cons_succ]
    refine wpAnyU_takeD (i:=9) (v := ?_) rfl rfl (by kernel_rfl) (by kernel_rfl) (by kernel_rfl) (by kernel_rfl) (fun _ _ _ h=>h) (by rfl) ?_ hSw ?_
    rotate_left 1
    ·intro W9 hW9
     try dsimp only at hW9
     obtain _:=trivial
     go_simp
     try with_reducible rfl
    try simp only [List.setIfInBounds_toArray,List.set_cons_zero,List.set_cons_succ]
    clear hSw
    obtain⟨v0,v1,v2,vf⟩:=blk3 hrz
    have hSs:=sw3_below hS8 htz (.slice A5 (x).1.1.length c5) (.slice D5 (x).1.2.length d5) (.slice G5 (x).2.length g5)
    have hcl:=ClN.store hatz hrz
    refine wpAnyU_op (i:=11) (by kernel_rfl) rfl rfl (fun K hK => ?_)
    go_simp
    refine hK.out _ _ (fun _=>hSs) ?_
    clear hK K
    try simp only [Act.put,List.setIfInBounds_toArray,List.set_cons_zero,List.set_cons_succ]
    refine wpAnyU_op (i:=12) (by kernel_rfl) rfl rfl (fun K hK => ?_)
    go_simp
    refine hK.out _ _ (fun _=>hSs) ?_
    clear hK K
    try simp only [Act.put,List.setIfInBounds_toArray,List.set_cons_zero,List.set_cons_succ]
    refine wpAnyU_done (by kernel_rfl) ?_ _
    clear v0 v1 v2 vf
    go_wp2
    go_meet
    exact⟨rfl,⟨_,rfl,htz,A5,c5,D5,d5,G5,g5,hcl⟩,hSs⟩
  ·have hS7:Below W0.heap.size W0 (W0.drew.alloc (.cells #[.slice none 0 0,.slice none 0 0,.slice none 0 0] 29)):=hSw.alloc hSw.size _
   have hrz:(W0.drew.alloc (.cells #[.slice none 0 0,.slice none 0 0,.slice none 0 0] 29)).heap[W0.heap.size]? = some (.cells #[.slice none 0 0,.slice none 0 0,.slice none 0 0] 29 (0,0)):=heap_alloc_new W0.drew _
   have htz:W0.heap.size≤W0.heap.size:=hSw.size
   go_simp
   refine hK.out _ _ (fun _=>hS7) ?_
   clear hK K
   try simp only [Act.put,List.setIfInBounds_toArray,List.set_cons_zero,List.set_cons_succ]
   change wpAnyU _ _ _ _ _ _ _ _ _ (W0.drew.alloc (.cells #[.slice none 0 0,.slice none 0 0,.slice none 0 0] 29))
   generalize W0.drew.alloc (.cells #[.slice none 0 0,.slice none 0 0,.slice none 0 0] 29)=w7 at hS7 hrz ⊢
   refine wpAnyU_op (i:=3) (by kernel_rfl) rfl rfl (fun K hK => ?_)
   go_wp2_with fail
   refine (name_any i hi4 _).mono ?_
   rintro e w6 ⟨rfl,rfl⟩
   refine hK.out _ _ (fun _=>hS7) ?_
   clear hK K
   try simp only [Act.put,List.setIfInBounds_toArray,List.set_cons_zero,List.set_cons_succ]
   refine wpAnyU_op (i:=6) (by kernel_rfl) rfl rfl (fun K hK => ?_)
   go_wp2_with fail
   refine (HDL.out _ hS7).mono ?_
   rintro e w8 ⟨A5,c5,D5,d5,G5,g5,rfl,hat,hb8⟩
   have hl7:=(Array.getElem?_eq_some_iff.1 hrz).1
   have hS8:=hS7.trans (hb8.mono hS7.size)
   replace hrz:=(hb8.block _ hl7).trans hrz
   have hatz:=ClN.mk_ hat (fun q _=>rfl) (t:=W0.heap.size) (lo:=W0.heap.size) (fun q hq=>⟨by have:=hq.1;omega,by have:=hq.1;omega,hq.2⟩)
   refine hK.out _ _ (fun _=>hS8) ?_
   clear hK K
   try simp only [Act.put,List.setIfInBounds_toArray,List.set_cons_zero,List.set_cons_succ]
   clear hSw hS7 hl7 hat hb8
   have hSw:=hS8
   refine wpAnyU_takeD (i:=7) (v := ?_) rfl rfl (by kernel_rfl) (by kernel_rfl) (by kernel_rfl) (by kernel_rfl) (fun _ _ _ h=>h) (by rfl) ?_ hSw ?_
   rotate_left 1
   ·intro W9 hW9
    try dsimp only at hW9
    obtain _:=trivial
    go_simp
    try with_reducible rfl
   try simp only [List.setIfInBounds_toArray,List.set_cons_zero,List.set_cons_succ]
   refine wpAnyU_takeD (i:=8) (v := ?_) rfl rfl (by kernel_rfl) (by kernel_rfl) (by kernel_rfl) (by kernel_rfl) (fun _ _ _ h=>h) (by rfl) ?_ hSw ?_
   rotate_left 1
   ·intro W9 hW9
    try dsimp only at hW9
    obtain _:=trivial
    go_simp
    try with_reducible rfl
   try simp only [List.setIfInBounds_toArray,List.set_cons_zero,List.set_cons_succ]
   refine wpAnyU_takeD (i:=9) (v := ?_) rfl rfl (by kernel_rfl) (by kernel_rfl) (by kernel_rfl) (by kernel_rfl) (fun _ _ _ h=>h) (by rfl) ?_ hSw ?_
   rotate_left 1
   ·intro W9 hW9
    try dsimp only at hW9
    obtain _:=trivial
    go_simp
    try with_reducible rfl
   try simp only [List.setIfInBounds_toArray,List.set_cons_zero,List.set_cons_succ]
   clear hSw
   obtain⟨v0,v1,v2,vf⟩:=blk3 hrz
   have hSs:=sw3_below hS8 htz (.slice A5 (x).1.1.length c5) (.slice D5 (x).1.2.length d5) (.slice G5 (x).2.length g5)
   have hcl:=ClN.store hatz hrz
   refine wpAnyU_op (i:=11) (by kernel_rfl) rfl rfl (fun K hK => ?_)
   go_simp
   refine hK.out _ _ (fun _=>hSs) ?_
   clear hK K
   try simp only [Act.put,List.setIfInBounds_toArray,List.set_cons_zero,List.set_cons_succ]
   refine wpAnyU_op (i:=12) (by kernel_rfl) rfl rfl (fun K hK => ?_)
   go_simp
   refine hK.out _ _ (fun _=>hSs) ?_
   clear hK K
   try simp only [Act.put,List.setIfInBounds_toArray,List.set_cons_zero,List.set_cons_succ]
   refine wpAnyU_done (by kernel_rfl) ?_ _
   clear v0 v1 v2 vf
   go_wp2
   go_meet
   exact⟨rfl,⟨_,rfl,htz,A5,c5,D5,d5,G5,g5,hcl⟩,hSs⟩
 case rest =>
  obtain⟨rfl,⟨tz,rfl,htz,A5,c5,D5,d5,G5,g5,hcl⟩,hbx⟩:=hcut
  have hrw:=(hbx.block sb (by omega)).trans HROW.out
  have hrr:=(hbx.block (sb+1+1) (by omega)).trans HRES.out
  obtain⟨v0,v1,v2,vf⟩:=blk3 hcl.row
  obtain⟨h0,h1,h2,h44⟩:=HC5.out wc hbx
  obtain⟨⟨h53,hf⟩,h45,y2⟩:=HCI.out wc hbx
  have HRW:=Lib.hid hrw
  have HRR:=Lib.hid hrr
  have hbw:Below w.heap.size w wc:=hB0.trans (hbx.mono hB0.size)
  clear hrw hrr
  cases hq:s.th i with
  | false =>
    rw [hq] at y2
    obtain rfl:=HD.out.1 hq
    have HS:Hid (cStep s (kd,wh,(v,st,data))=s):=by
     have he:evI (kd,wh,(v,st,data))=i:=by unfold evI;simp only;omega
     unfold cStep
     simp only [he]
     rw [if_neg (by omega),if_neg (by omega),if_neg (by omega),if_neg (by omega),if_pos (by omega),if_neg (by rw [hq];simp)];exact rfl
    clear v0 v1 v2 vf hcl
    -- the state as it was, its last cell stored once more (world wc)
    obtain⟨Wn,hWn⟩:∃ W,wc.setCell ⟨sb,53,none⟩ (.bool true)=W:=⟨_,rfl⟩
    have r5:=row_set HRW.out 53 (.bool true)
    have hre:row.setIfInBounds 53 (.bool true)=row:=by rw [HR.out];exact row_53
    rw [hre,hWn] at r5
    have hkN:∀ b,b≠sb→Wn.heap[b]? = wc.heap[b]? := fun b hb=>by rw [← hWn];exact heap_setCell_other _ _ _ _ hb
    have hzN:Wn.heap.size=wc.heap.size:=by rw [← hWn];simp [World.setCell]
    have hbN:Below w.heap.size w Wn:=by rw [← hWn];exact hbw.setCell (p:=⟨sb,53,none⟩) hwsb.1 _
    have HWN:=Lib.hid hWn
    have R5:=Lib.hid r5
    clear hWn r5 hre
    go_upto_region 15 with (fail)
    rw [HWN.out]
    clear HWN
    have hrN:=(hkN (sb+1+1) (by omega)).trans HRR.out
    have hMN:StM s A c D d G g B bc sa sc ca cc (fun q=>(S q∨w.heap.size≤q)∧q<Wn.heap.size∧q≠sb+1+1) Wn :=
     StM.mk2 (s':=s) HM0.out (HM0.out.cls.keep (fun q hq=>hbN.block q hq.2) (fun q hq=>⟨Or.inl hq.1,by have:=hbN.size;have:=hq.2;omega,by have:=hq.2;omega⟩)) hbN (fun q hq=>by omega) rfl rfl rfl
    have HMN:=Lib.hid hMN
    have HRN:=Lib.hid hrN
    clear hMN hrN hkN
    have HAL:=Lib.hid (st_all (s':=s) (B':=B) (bc':=bc) (sa':=sa) (sc':=sc) (ca':=ca) (cc':=cc) HR.out)
    -- the state's row is loaded whole and stored into the result
    go_wp2_with (first | (refine wpList_load_row rfl 79 _ rfl sb rfl 79 row (0,0) _ R5.out Tryz.underlying79 rfl HAL.out.2 ?_) | (refine wpList_store_row rfl 79 _ _ rfl (sb+1+1) row rfl rfl 79 _ HRN.out HAL.out.2 (st_size HAL.out.2 (by kernel_rfl) (by kernel_rfl)) HAL.out.1 ?_))
    have hz:=setRow_heap Wn (sb+1+1) _ row _ _ HRN.out
    have hret:=st_ret (S:=S) (w:=w) (rb:=sb+1+1) (row:=row) HR.out (by omega) hbN HMN.out
    generalize Wn.setRow (sb+1+1) row=W3 at hz hret ⊢
    refine bodyPost_ret (v := .agg row) (results_cell_row (p:=4) (ty:=79) rfl _ _ (sb+1+1) _ row (0,0) _ rfl hz Tryz.underlying79 rfl HAL.out.2) rfl ?_
    rw [HS.out];exact hret
  | true =>
    rw [hq] at y2
    obtain⟨hd1,hd2⟩:=HD.out.2 hq
    have hcur:=HM0.out.cur
    have HFT:=Lib.hid (refFits07_any B bc s.cur.length wl s.cur v st Dw dw data (fitsN (lens s.cur) (v,st,data)) wc rfl hwl ((hcur.2.2.blk (fun q hq=>hbw.block q hq.2)).more (fun q hq=>by have:=hq.2;have:=hbw.size;show q<wc.heap.size;omega)) (by have:=(h.lim ha hk).2.2;omega) (by omega) hvs.1 hvs.2 (snE_ok h.sn_ok).1 rfl)
    obtain⟨fe,hfe⟩:∃ fe,fitsN (lens s.cur) (v,st,data)=fe:=⟨_,rfl⟩
    have hc3:wc.cell? ⟨sb,3,none⟩=some (.slice B s.cur.length bc):=by
     rw [cell_of_row wc sb 3 _ _ _ HRW.out,HR.out];rfl
    obtain⟨e2,e3,e4⟩:=HEC.out wc hbx
    rw [hfe] at HFT hd1 hd2
    have HFE:=Lib.hid hfe
    clear hfe hcur
    go_wp2_with fail
    refine HFT.out.mono ?_
    rintro e w6 ⟨rfl,hb6⟩
    subst hd1
    clear HFT hc3 e2 e3 e4
    have hbx6:Below W0.heap.size W0 w6:=hbx.trans (hb6.mono hbx.size)
    have hl6:sb+1+1<wc.heap.size:=by have:=hbx.size;omega
    replace HRW:=Lib.hid ((hb6.block sb (by omega)).trans HRW.out)
    replace HRR:=Lib.hid ((hb6.block (sb+1+1) hl6).trans HRR.out)
    replace hbw:Below w.heap.size w w6:=ext_trans hbw hb6
    have HCN:=Lib.hid (hcl.below hb6)
    clear v0 v1 v2 vf h0 h1 h2 h44 h53 hf h45 y2 hcl
    obtain⟨⟨h53,hf⟩,h45,y2⟩:=HCI.out w6 hbx6
    rw [hq] at y2
    by_cases hn0:n=0
    case neg =>
     have hne:(n != 0)=true:=by simp [hn0]
     have HS:Hid (cStep s (kd,wh,(v,st,data))=s):=by
      have he:evI (kd,wh,(v,st,data))=i:=by unfold evI;simp only;omega
      unfold cStep
      simp only [he]
      rw [if_neg (by omega),if_neg (by omega),if_neg (by omega),if_neg (by omega),if_pos (by omega),if_neg (by rw [HFE.out];exact fun hh=>hn0 hh.2)];exact rfl
     clear HCN hd2 hb6 hl6
     -- the state as it was, its last cell stored once more (world w6)
     obtain⟨Wn,hWn⟩:∃ W,w6.setCell ⟨sb,53,none⟩ (.bool true)=W:=⟨_,rfl⟩
     have r5:=row_set HRW.out 53 (.bool true)
     have hre:row.setIfInBounds 53 (.bool true)=row:=by rw [HR.out];exact row_53
     rw [hre,hWn] at r5
     have hkN:∀ b,b≠sb→Wn.heap[b]? = w6.heap[b]? := fun b hb=>by rw [← hWn];exact heap_setCell_other _ _ _ _ hb
     have hzN:Wn.heap.size=w6.heap.size:=by rw [← hWn];simp [World.setCell]
     have hbN:Below w.heap.size w Wn:=by rw [← hWn];exact hbw.setCell (p:=⟨sb,53,none⟩) hwsb.1 _
     have HWN:=Lib.hid hWn
     have R5:=Lib.hid r5
     clear hWn r5 hre
     go_upto_region 18 with (fail)
     rw [HWN.out]
     clear HWN
     have hrN:=(hkN (sb+1+1) (by omega)).trans HRR.out
     have hMN:StM s A c D d G g B bc sa sc ca cc (fun q=>(S q∨w.heap.size≤q)∧q<Wn.heap.size∧q≠sb+1+1) Wn :=
      StM.mk2 (s':=s) HM0.out (HM0.out.cls.keep (fun q hq=>hbN.block q hq.2) (fun q hq=>⟨Or.inl hq.1,by have:=hbN.size;have:=hq.2;omega,by have:=hq.2;omega⟩)) hbN (fun q hq=>by omega) rfl rfl rfl
     have HMN:=Lib.hid hMN
     have HRN:=Lib.hid hrN
     clear hMN hrN hkN
     have HAL:=Lib.hid (st_all (s':=s) (B':=B) (bc':=bc) (sa':=sa) (sc':=sc) (ca':=ca) (cc':=cc) HR.out)
     -- the state's row is loaded whole and stored into the result
     go_wp2_with (first | (refine wpList_load_row rfl 79 _ rfl sb rfl 79 row (0,0) _ R5.out Tryz.underlying79 rfl HAL.out.2 ?_) | (refine wpList_store_row rfl 79 _ _ rfl (sb+1+1) row rfl rfl 79 _ HRN.out HAL.out.2 (st_size HAL.out.2 (by kernel_rfl) (by kernel_rfl)) HAL.out.1 ?_))
     have hz:=setRow_heap Wn (sb+1+1) _ row _ _ HRN.out
     have hret:=st_ret (S:=S) (w:=w) (rb:=sb+1+1) (row:=row) HR.out (by omega) hbN HMN.out
     generalize Wn.setRow (sb+1+1) row=W3 at hz hret ⊢
     refine bodyPost_ret (v := .agg row) (results_cell_row (p:=4) (ty:=79) rfl _ _ (sb+1+1) _ row (0,0) _ rfl hz Tryz.underlying79 rfl HAL.out.2) rfl ?_
     rw [HS.out];exact hret
    subst hn0
    have hrl:=h.lim ha hk
    obtain⟨r,hr⟩:∃ r,putAll (s.cl i) [(v,st,data)]=r:=⟨_,rfl⟩
    have hg:=(h.cimg hi4).1 hq
    have hlc:lens (s.cl i)=lens s.cur:=by rw [hg.2.2.1,h.lns]
    have hl2:(s.cl i).length≤1000:=by
     have:=congrArg List.length hlc
     simp [lens] at this
     have:=hrl.2.2
     omega
    have hcli:=HM0.out.cli i hi4
    have HAP:=Lib.hid (fun W (hb:Below w6.heap.size w6 W)=>apply37_any (ca i) Dw (cc i) (s.cl i).length dw wl (s.cl i) r v st data W rfl hwl ((hcli.2.2.blk (fun q hq=>(ext_trans hbw hb).block q hq.2)).more (fun q hq=>by have:=hq.2;have:=(ext_trans hbw hb).size;show q<W.heap.size;omega)) (H4.out W (hbx6.trans (hb.mono hbx6.size))) hvs hdc hl2 (by rw [hlc];exact (snE_ok h.sn_ok).1) (by rw [hlc];exact HFE.out) hr)
    have HS:Hid (cStep s (kd,wh,(v,st,data))={ s with c:=x,cl:=upd s.cl i r }):=by
     have he:evI (kd,wh,(v,st,data))=i:=by unfold evI;simp only;omega
     unfold cStep
     simp only [he]
     rw [if_neg (by omega),if_neg (by omega),if_neg (by omega),if_neg (by omega),if_pos (by omega),if_pos ⟨hq,HFE.out⟩,HX.out,hr];exact rfl
    have HSB:Hid (∀ W,Below w6.heap.size w6 W→(W.cell? ⟨tz,0,none⟩=some (.slice A5 x.1.1.length c5)∧W.cell? ⟨tz,1,none⟩=some (.slice D5 x.1.2.length d5)∧W.cell? ⟨tz,2,none⟩=some (.slice G5 x.2.length g5))∧(W.cell? ⟨sb,53,none⟩=some (.bool true)∧W.cell? ⟨sb,45+i,none⟩=some (.slice (ca i) (s.cl i).length (cc i)))∧W.cell? ⟨sb+1,2,none⟩=some (.int .i64 v)∧W.cell? ⟨sb+1,3,none⟩=some (.int .i64 st)∧W.cell? ⟨sb+1,4,none⟩=some (.slice Dw wl dw)):=fun W hb=>by
     have hbW:=hbx6.trans (hb.mono hbx6.size)
     obtain⟨t0,t1,t2,_⟩:=blk3 (HCN.out.below hb).row
     obtain⟨⟨g53,_⟩,g45,_⟩:=HCI.out W hbW
     exact⟨⟨t0,t1,t2⟩,⟨g53,g45⟩,HEC.out W hbW⟩
    have hts:tz≠sb:=by omega
    have HST:Hid (∀ (W:World) (j:Nat) (u:Value),j≠53→j≠45+i→((W.cell? ⟨tz,0,none⟩=some (.slice A5 x.1.1.length c5)∧W.cell? ⟨tz,1,none⟩=some (.slice D5 x.1.2.length d5)∧W.cell? ⟨tz,2,none⟩=some (.slice G5 x.2.length g5))∧(W.cell? ⟨sb,53,none⟩=some (.bool true)∧W.cell? ⟨sb,45+i,none⟩=some (.slice (ca i) (s.cl i).length (cc i)))∧W.cell? ⟨sb+1,2,none⟩=some (.int .i64 v)∧W.cell? ⟨sb+1,3,none⟩=some (.int .i64 st)∧W.cell? ⟨sb+1,4,none⟩=some (.slice Dw wl dw))→(((W.setCell ⟨sb,j,none⟩ u).cell? ⟨tz,0,none⟩=some (.slice A5 x.1.1.length c5)∧(W.setCell ⟨sb,j,none⟩ u).cell? ⟨tz,1,none⟩=some (.slice D5 x.1.2.length d5)∧(W.setCell ⟨sb,j,none⟩ u).cell? ⟨tz,2,none⟩=some (.slice G5 x.2.length g5))∧((W.setCell ⟨sb,j,none⟩ u).cell? ⟨sb,53,none⟩=some (.bool true)∧(W.setCell ⟨sb,j,none⟩ u).cell? ⟨sb,45+i,none⟩=some (.slice (ca i) (s.cl i).length (cc i)))∧(W.setCell ⟨sb,j,none⟩ u).cell? ⟨sb+1,2,none⟩=some (.int .i64 v)∧(W.setCell ⟨sb,j,none⟩ u).cell? ⟨sb+1,3,none⟩=some (.int .i64 st)∧(W.setCell ⟨sb,j,none⟩ u).cell? ⟨sb+1,4,none⟩=some (.slice Dw wl dw))):=fun W j u h1 h2 h3=>by
     obtain⟨⟨a,b,c⟩,⟨d,e⟩,f,g,h⟩:=h3
     refine⟨⟨(World.cell?_setCell_other _ _ _ _ (by simp <;> omega)).trans a,(World.cell?_setCell_other _ _ _ _ (by simp <;> omega)).trans b,(World.cell?_setCell_other _ _ _ _ (by simp <;> omega)).trans c⟩,⟨(World.cell?_setCell_other _ _ _ _ (by simp <;> omega)).trans d,(World.cell?_setCell_other _ _ _ _ (by simp <;> omega)).trans e⟩,(World.cell?_setCell_other _ _ _ _ (by simp)).trans f,(World.cell?_setCell_other _ _ _ _ (by simp)).trans g,(World.cell?_setCell_other _ _ _ _ (by simp)).trans h⟩
    have HST3:Hid (∀ W:World,((W.cell? ⟨tz,0,none⟩=some (.slice A5 x.1.1.length c5)∧W.cell? ⟨tz,1,none⟩=some (.slice D5 x.1.2.length d5)∧W.cell? ⟨tz,2,none⟩=some (.slice G5 x.2.length g5))∧(W.cell? ⟨sb,53,none⟩=some (.bool true)∧W.cell? ⟨sb,45+i,none⟩=some (.slice (ca i) (s.cl i).length (cc i)))∧W.cell? ⟨sb+1,2,none⟩=some (.int .i64 v)∧W.cell? ⟨sb+1,3,none⟩=some (.int .i64 st)∧W.cell? ⟨sb+1,4,none⟩=some (.slice Dw wl dw))→(((W.setCell ⟨sb,53,none⟩ (.bool true)).cell? ⟨tz,0,none⟩=some (.slice A5 x.1.1.length c5)∧(W.setCell ⟨sb,53,none⟩ (.bool true)).cell? ⟨tz,1,none⟩=some (.slice D5 x.1.2.length d5)∧(W.setCell ⟨sb,53,none⟩ (.bool true)).cell? ⟨tz,2,none⟩=some (.slice G5 x.2.length g5))∧((W.setCell ⟨sb,53,none⟩ (.bool true)).cell? ⟨sb,53,none⟩=some (.bool true)∧(W.setCell ⟨sb,53,none⟩ (.bool true)).cell? ⟨sb,45+i,none⟩=some (.slice (ca i) (s.cl i).length (cc i)))∧(W.setCell ⟨sb,53,none⟩ (.bool true)).cell? ⟨sb+1,2,none⟩=some (.int .i64 v)∧(W.setCell ⟨sb,53,none⟩ (.bool true)).cell? ⟨sb+1,3,none⟩=some (.int .i64 st)∧(W.setCell ⟨sb,53,none⟩ (.bool true)).cell? ⟨sb+1,4,none⟩=some (.slice Dw wl dw))):=fun W h3=>by
     obtain⟨⟨a,b,c⟩,⟨d,e⟩,f,g,h⟩:=h3
     refine⟨⟨(World.cell?_setCell_other _ _ _ _ (by simp <;> omega)).trans a,(World.cell?_setCell_other _ _ _ _ (by simp <;> omega)).trans b,(World.cell?_setCell_other _ _ _ _ (by simp <;> omega)).trans c⟩,⟨?_,(World.cell?_setCell_other _ _ _ _ (by simp <;> omega)).trans e⟩,(World.cell?_setCell_other _ _ _ _ (by simp)).trans f,(World.cell?_setCell_other _ _ _ _ (by simp)).trans g,(World.cell?_setCell_other _ _ _ _ (by simp)).trans h⟩
     exact World.cell?_setCell_same _ _ _ d
    have hSw:=HSB.out w6.drew (Below.refl _ _).drew
    clear hg hlc hl2 hr hrl hd2 hcli h53 hf h45 y2
    go_upto_region 19 with (fail)
    refine wp_region_U (fun W=>(W.cell? ⟨tz,0,none⟩=some (.slice A5 x.1.1.length c5)∧W.cell? ⟨tz,1,none⟩=some (.slice D5 x.1.2.length d5)∧W.cell? ⟨tz,2,none⟩=some (.slice G5 x.2.length g5))∧(W.cell? ⟨sb,53,none⟩=some (.bool true)∧W.cell? ⟨sb,45+i,none⟩=some (.slice (ca i) (s.cl i).length (cc i)))∧W.cell? ⟨sb+1,2,none⟩=some (.int .i64 v)∧W.cell? ⟨sb+1,3,none⟩=some (.int .i64 st)∧W.cell? ⟨sb+1,4,none⟩=some (.slice Dw wl dw)) 21 (by kernel_rfl) ?_
    refine wpAnyU_takeD (i:=0) (v := ?_) rfl rfl (by kernel_rfl) (by kernel_rfl) (by kernel_rfl) (by kernel_rfl) (fun _ _ _ h=>h) (by rfl) ?_ hSw ?_
    rotate_left 1
    ·intro W9 hW9
     try dsimp only at hW9
     obtain _:=trivial
     go_simp
     try with_reducible rfl
    try simp only [List.setIfInBounds_toArray,List.set_cons_zero,List.set_cons_succ]
    refine wpAnyU_takeD (i:=1) (v := ?_) rfl rfl (by kernel_rfl) (by kernel_rfl) (by kernel_rfl) (by kernel_rfl) (fun _ _ _ h=>h) (by rfl) ?_ hSw ?_
    rotate_left 1
    ·intro W9 hW9
     try dsimp only at hW9
     obtain⟨⟨q0,q1,q2⟩,⟨q3,q4⟩,q5,q6,q7⟩:=hW9
     go_simp
     try with_reducible rfl
    try simp only [List.setIfInBounds_toArray,List.set_cons_zero,List.set_cons_succ]
    refine wpAnyU_takeD (i:=2) (v := ?_) rfl rfl (by kernel_rfl) (by kernel_rfl) (by kernel_rfl) (by kernel_rfl) (fun _ _ _ h=>h) (by rfl) ?_ hSw ?_
    rotate_left 1
    ·intro W9 hW9
     try dsimp only at hW9
     obtain _:=trivial
     go_simp
     try with_reducible rfl
    try simp only [List.setIfInBounds_toArray,List.set_cons_zero,List.set_cons_succ]
    refine wpAnyU_takeD (i:=3) (v := ?_) rfl rfl (by kernel_rfl) (by kernel_rfl) (by kernel_rfl) (by kernel_rfl) (fun _ _ _ h=>h) (by rfl) ?_ hSw ?_
    rotate_left 1
    ·intro W9 hW9
     try dsimp only at hW9
     obtain⟨⟨q0,q1,q2⟩,⟨q3,q4⟩,q5,q6,q7⟩:=hW9
     go_simp
     try with_reducible rfl
    try simp only [List.setIfInBounds_toArray,List.set_cons_zero,List.set_cons_succ]
    refine wpAnyU_takeD (i:=4) (v := ?_) rfl rfl (by kernel_rfl) (by kernel_rfl) (by kernel_rfl) (by kernel_rfl) (fun _ _ _ h=>h) (by rfl) ?_ hSw ?_
    rotate_left 1
    ·intro W9 hW9
     try dsimp only at hW9
     obtain _:=trivial
     go_simp
     try with_reducible rfl
    try simp only [List.setIfInBounds_toArray,List.set_cons_zero,List.set_cons_succ]
    refine wpAnyU_takeD (i:=5) (v := ?_) rfl rfl (by kernel_rfl) (by kernel_rfl) (by kernel_rfl) (by kernel_rfl) (fun _ _ _ h=>h) (by rfl) ?_ hSw ?_
    rotate_left 1
    ·intro W9 hW9
     try dsimp only at hW9
     obtain _:=trivial
     go_simp
     try with_reducible rfl
    try simp only [List.setIfInBounds_toArray,List.set_cons_zero,List.set_cons_succ]
    refine wpAnyU_takeD (i:=6) (v := ?_) rfl rfl (by kernel_rfl) (by kernel_rfl) (by kernel_rfl) (by kernel_rfl) (fun _ _ _ h=>h) (by rfl) ?_ hSw ?_
    rotate_left 1
    ·intro W9 hW9
     try dsimp only at hW9
     obtain _:=trivial
     go_simp
     try with_reducible rfl
    try simp only [List.setIfInBounds_toArray,List.set_cons_zero,List.set_cons_succ]
    refine wpAnyU_takeD (i:=7) (v := ?_) rfl rfl (by kernel_rfl) (by kernel_rfl) (by kernel_rfl) (by kernel_rfl) (fun _ _ _ h=>h) (by rfl) ?_ hSw ?_
    rotate_left 1
    ·intro W9 hW9
     try dsimp only at hW9
     obtain _:=trivial
     go_simp
     try with_reducible rfl
    try simp only [List.setIfInBounds_toArray,List.set_cons_zero,List.set_cons_succ]
    refine wpAnyU_takeD (i:=8) (v := ?_) rfl rfl (by kernel_rfl) (by kernel_rfl) (by kernel_rfl) (by kernel_rfl) (fun _ _ _ h=>h) (by rfl) ?_ hSw ?_
    rotate_left 1
    ·intro W9 hW9
     try dsimp only at hW9
     obtain _:=trivial
     go_simp
     try with_reducible rfl
    try simp only [List.setIfInBounds_toArray,List.set_cons_zero,List.set_cons_succ]
    refine wpAnyU_takeD (i:=9) (v := ?_) rfl rfl (by kernel_rfl) (by kernel_rfl) (by kernel_rfl) (by kernel_rfl) (fun _ _ _ h=>h) (by rfl) ?_ hSw ?_
    rotate_left 1
    ·intro W9 hW9
     try dsimp only at hW9
     obtain _:=trivial
     go_simp
     try with_reducible rfl
    try simp only [List.setIfInBounds_toArray,List.set_cons_zero,List.set_cons_succ]
    refine wpAnyU_takeD (i:=10) (v := ?_) rfl rfl (by kernel_rfl) (by kernel_rfl) (by kernel_rfl) (by kernel_rfl) (fun _ _ _ h=>h) (by rfl) ?_ hSw ?_
    rotate_left 1
    ·intro W9 hW9
     try dsimp only at hW9
     obtain _:=trivial
     go_simp
     try with_reducible rfl
    try simp only [List.setIfInBounds_toArray,List.set_cons_zero,List.set_cons_succ]
    refine wpAnyU_takeD (i:=11) (v := ?_) rfl rfl (by kernel_rfl) (by kernel_rfl) (by kernel_rfl) (by kernel_rfl) (fun _ _ _ h=>h) (by rfl) ?_ hSw ?_
    rotate_left 1
    ·intro W9 hW9
     try dsimp only at hW9
     obtain⟨⟨q0,q1,q2⟩,⟨q3,q4⟩,q5,q6,q7⟩:=hW9
     go_simp
     try with_reducible rfl
    try simp only [List.setIfInBounds_toArray,List.set_cons_zero,List.set_cons_succ]
    refine wpAnyU_takeD (i:=12) (v := ?_) rfl rfl (by kernel_rfl) (by kernel_rfl) (by kernel_rfl) (by kernel_rfl) (fun _ _ _ h=>h) (by rfl) ?_ hSw ?_
    rotate_left 1
    ·intro W9 hW9
     try dsimp only at hW9
     obtain _:=trivial
     go_simp
     try with_reducible rfl
    try simp only [List.setIfInBounds_toArray,List.set_cons_zero,List.set_cons_succ]
    refine wpAnyU_takeD (i:=13) (v := ?_) rfl rfl (by kernel_rfl) (by kernel_rfl) (by kernel_rfl) (by kernel_rfl) (fun _ _ _ h=>h) (by rfl) ?_ hSw ?_
    rotate_left 1
    ·intro W9 hW9
     try dsimp only at hW9
     obtain⟨⟨q0,q1,q2⟩,⟨q3,q4⟩,q5,q6,q7⟩:=hW9
     go_simp
     try with_reducible rfl
    try simp only [List.setIfInBounds_toArray,List.set_cons_zero,List.set_cons_succ]
    refine wpAnyU_takeD (i:=15) (v := ?_) rfl rfl (by kernel_rfl) (by kernel_rfl) (by kernel_rfl) (by kernel_rfl) (fun _ _ _ h=>h) (by rfl) ?_ hSw ?_
    rotate_left 1
    ·intro W9 hW9
     try dsimp only at hW9
     obtain _:=trivial
     go_simp
     try with_reducible rfl
    try simp only [List.setIfInBounds_toArray,List.set_cons_zero,List.set_cons_succ]
    refine wpAnyU_takeTD (i:=19) 20 (v := ?_) rfl rfl (by kernel_rfl) (by kernel_rfl) (by kernel_rfl) (by kernel_rfl) (fun _ _ _ h=>h) (by rfl) ?_ hSw ?_
    rotate_left 1
    ·intro W9 hW9
     go_simp
     try with_reducible rfl
    try simp only [List.setIfInBounds_toArray,List.set_cons_zero,List.set_cons_succ]
    refine wpAnyU_op (i:=14) (by kernel_rfl) rfl rfl (fun K hK => ?_)
    go_wp2_with fail
    refine ((HAP.out w6.drew (Below.refl _ _).drew)).mono ?_
    rintro e w7 ⟨A7,c7,rfl,a1,a2,a3,hb7⟩
    refine hK.out _ _ (fun _=>(HSB.out w7 (ext_trans (Below.refl _ _).drew hb7))) ?_
    clear hK K
    try simp only [Act.put,List.setIfInBounds_toArray,List.set_cons_zero,List.set_cons_succ]
    have hb67:Below w6.heap.size w6 w7:=ext_trans (Below.refl _ _).drew hb7
    have hS7:=HSB.out w7 hb67
    have hS8:=HST.out _ 2 (.slice G5 x.2.length g5) (by omega) (by omega) (HST.out _ 1 (.slice D5 x.1.2.length d5) (by omega) (by omega) (HST.out _ 0 (.slice A5 x.1.1.length c5) (by omega) (by omega) hS7))
    obtain⟨h0,h1,h2,_⟩:=HC5.out w7 (hbx6.trans (hb67.mono hbx6.size))
    obtain⟨⟨h53,hf⟩,h45,_⟩:=HCI.out w7 (hbx6.trans (hb67.mono hbx6.size))
    clear hSw hS7
    refine wpAnyU_op (i:=16) (by kernel_rfl) rfl rfl (fun K hK => ?_)
    go_simp
    refine hK.out _ _ (fun _=>hS8) ?_
    clear hK K
    try simp only [Act.put,List.setIfInBounds_toArray,List.set_cons_zero,List.set_cons_succ]
    refine wpAnyU_op (i:=17) (by kernel_rfl) rfl rfl (fun K hK => ?_)
    go_simp
    refine hK.out _ _ (fun _=>hS8) ?_
    clear hK K
    try simp only [Act.put,List.setIfInBounds_toArray,List.set_cons_zero,List.set_cons_succ]
    have hS9:=HST3.out _ hS8
    refine wpAnyU_op (i:=18) (by kernel_rfl) rfl rfl (fun K hK => ?_)
    go_simp
    refine hK.out _ _ (fun _=>hS9) ?_
    clear hK K
    try simp only [Act.put,List.setIfInBounds_toArray,List.set_cons_zero,List.set_cons_succ]
    refine wpAnyU_op (i:=20) (by kernel_rfl) rfl rfl (fun K hK => ?_)
    go_simp
    refine hK.out _ _ (fun _=>hS9) ?_
    clear hK K
    try simp only [Act.put,List.setIfInBounds_toArray,List.set_cons_zero,List.set_cons_succ]
    refine wpAnyU_op (i:=21) (by kernel_rfl) rfl rfl (fun K hK => ?_)
    go_simp
    refine hK.out _ _ (fun h=>absurd rfl h) ?_
    clear hK K
    refine wpAnyU_done (by kernel_rfl) ?_ _
    have hbw7:Below w.heap.size w w7:=ext_trans hbw hb67
    have hrw7:=(hb67.block sb (by have:=hbx6.size;omega)).trans HRW.out
    have hrr7:=(hb67.block (sb+1+1) (by have:=hbx6.size;have:=hb67.size;have:=hl6;have:=hb6.size;omega)).trans HRR.out
    have hcn7:=HCN.out.below hb67
    obtain⟨Wn,hWn⟩:∃ W,(((((w7.setCell ⟨sb,0,none⟩ (.slice A5 x.1.1.length c5)).setCell ⟨sb,1,none⟩ (.slice D5 x.1.2.length d5)).setCell ⟨sb,2,none⟩ (.slice G5 x.2.length g5)).setCell ⟨sb,53,none⟩ (.bool true)).setCell ⟨sb,45+i,none⟩ (.slice A7 r.length c7))=W:=⟨_,rfl⟩
    have r4:=row_set (row_set (row_set (row_set (row_set hrw7 0 (.slice A5 x.1.1.length c5)) 1 (.slice D5 x.1.2.length d5)) 2 (.slice G5 x.2.length g5)) 53 (.bool true)) (45+i) (.slice A7 r.length c7)
    obtain⟨row',hrow'⟩:∃ rr,((((row.setIfInBounds 0 (.slice A5 x.1.1.length c5)).setIfInBounds 1 (.slice D5 x.1.2.length d5)).setIfInBounds 2 (.slice G5 x.2.length g5)).setIfInBounds 53 (.bool true)).setIfInBounds (45+i) (.slice A7 r.length c7)=rr:=⟨_,rfl⟩
    rw [hrow'] at r4
    have r5:Wn.heap[sb]? = some (.cells row' 79 (0,0)):=by rw [← hWn];exact r4
    clear r4
    have HRQ:=Lib.hid (((congrArg (fun rr:Array Value=>((((rr.setIfInBounds 0 (.slice A5 x.1.1.length c5)).setIfInBounds 1 (.slice D5 x.1.2.length d5)).setIfInBounds 2 (.slice G5 x.2.length g5)).setIfInBounds 53 (.bool true)).setIfInBounds (45+i) (.slice A7 r.length c7)) HR.out).symm.trans hrow').symm.trans (row_wr (s':={ s with c:=x,cl:=upd s.cl i r }) hi4 rfl))
    clear hrow'
    have hkN:∀ b,b≠sb→Wn.heap[b]? = w7.heap[b]? := fun b hb=>by
     rw [← hWn]
     exact (heap_setCell_other _ _ _ _ hb).trans ((heap_setCell_other _ _ _ _ hb).trans ((heap_setCell_other _ _ _ _ hb).trans ((heap_setCell_other _ _ _ _ hb).trans (heap_setCell_other _ _ _ _ hb))))
    have hzN:Wn.heap.size=w7.heap.size:=by rw [← hWn];simp [World.setCell]
    have hbN:Below w.heap.size w Wn:=by rw [← hWn];exact (((((hbw7.setCell (p:=⟨sb,0,none⟩) hwsb.1 _).setCell (p:=⟨sb,1,none⟩) hwsb.1 _).setCell (p:=⟨sb,2,none⟩) hwsb.1 _).setCell (p:=⟨sb,53,none⟩) hwsb.1 _).setCell (p:=⟨sb,45+i,none⟩) hwsb.1 _)
    have HWN:=Lib.hid hWn
    have R5:=Lib.hid r5
    clear hWn r5
    rw [HWN.out]
    clear HWN
    go_upto_region 25 with (fail)
    have hrN:=(hkN (sb+1+1) (by omega)).trans hrr7
    have hkW:∀ q,(S q∧q<w.heap.size)→Wn.heap[q]? = w.heap[q]? := fun q hq=>hbN.block q hq.2
    have hSW:∀ q,(S q∧q<w.heap.size)→(S q∨w.heap.size≤q)∧q<Wn.heap.size∧q≠sb+1+1:=fun q hq=>⟨Or.inl hq.1,by have:=hbN.size;have:=hq.2;omega,by have:=hq.2;omega⟩
    have hlo:sb+1+1<w6.heap.size:=by have:=hl6;have:=hb6.size;omega
    have hwlo:w.heap.size≤w6.heap.size:=hbw.size
    have HIM:=Lib.hid (show ImA A7 c7 r (fun q=>(S q∨w.heap.size≤q)∧q<Wn.heap.size∧q≠sb+1+1) Wn from ⟨a1,a2,(a3.blk (fun q hq=>hkN q (by have h1:w6.heap.size≤q:=hq.1;omega))).more (fun q hq=>⟨Or.inr (by have h1:w6.heap.size≤q:=hq.1;omega),by rw [hzN];exact hq.2,by have h1:w6.heap.size≤q:=hq.1;omega⟩)⟩)
    have hMN:StM { s with c:=x,cl:=upd s.cl i r } A5 c5 D5 d5 G5 g5 B bc sa sc (upd ca i A7) (upd cc i c7) (fun q=>(S q∨w.heap.size≤q)∧q<Wn.heap.size∧q≠sb+1+1) Wn :=
     ⟨hcn7.at_.keep (fun q hq=>hkN q (by have:=hq.1;omega)) (fun q hq=>⟨Or.inr (by have:=hq.1;omega),by rw [hzN];exact hq.2.2,by have:=hq.1;omega⟩),
      ⟨HM0.out.cur.1,HM0.out.cur.2.1,(HM0.out.cur.2.2.blk hkW).more hSW⟩,fun j hj=>(HM0.out.sns j hj).keep hkW hSW,fun j hj=>by
       by_cases hji:j=i
       ·subst hji
        show ImA (upd ca j A7 j) (upd cc j c7 j) (upd s.cl j r j) _ _
        rw [upd_same,upd_same,upd_same];exact HIM.out
       ·show ImA (upd ca i A7 j) (upd cc i c7 j) (upd s.cl i r j) _ _
        rw [upd_ne _ _ hji,upd_ne _ _ hji,upd_ne _ _ hji];exact (HM0.out.cli j hj).keep hkW hSW⟩
    have HMN:=Lib.hid hMN
    have HRN:=Lib.hid hrN
    clear hMN hrN hkN hkW hSW hcn7
    have HAL:=Lib.hid (st_all (s':={ s with c:=x,cl:=upd s.cl i r }) (B':=B) (bc':=bc) (sa':=sa) (sc':=sc) (ca':=upd ca i A7) (cc':=upd cc i c7) HRQ.out)
    -- the state's row is loaded whole and stored into the result
    go_wp2_with (first | (refine wpList_load_row rfl 79 _ rfl sb rfl 79 row' (0,0) _ R5.out Tryz.underlying79 rfl HAL.out.2 ?_) | (refine wpList_store_row rfl 79 _ _ rfl (sb+1+1) row' rfl rfl 79 _ HRN.out HAL.out.2 (st_size HAL.out.2 (by kernel_rfl) (by kernel_rfl)) HAL.out.1 ?_))
    have hz:=setRow_heap Wn (sb+1+1) _ row' _ _ HRN.out
    have hret:=st_ret (S:=S) (w:=w) (rb:=sb+1+1) (row:=row') HRQ.out (by omega) hbN HMN.out
    generalize Wn.setRow (sb+1+1) row'=W3 at hz hret ⊢
    refine bodyPost_ret (v := .agg row') (results_cell_row (p:=4) (ty:=79) rfl _ _ (sb+1+1) _ row' (0,0) _ rfl hz Tryz.underlying79 rfl HAL.out.2) rfl ?_
    rw [HS.out];exact hret
end Go.Proofs.YtgndgkjefgjamaaGreat
namespace Go.Proofs.YtgndgkjefgjamaaGreat
open Go.RowKit Go.Shelf
attribute [local go_sem] Oper.semAt_some

set_option maxHeartbeats 8000000 in
set_option maxRecDepth 100000 in
theorem row_tak {s s':CSt} {x:Cls} (hn:s.nw+1<40) (hs:s'={ s with c:=x,nw:=s.nw+1,sn:=upd s.sn (s.nw+1) s.cur }) {A D G B A5 D5 G5:Option Addr} {c d g bc c5 d5 g5:Nat} {sa ca:Nat→Option Addr} {sc cc:Nat→Nat} :
  (((((((stl s A c D d G g B bc sa sc ca cc):Array Value).setIfInBounds 0 (.slice A5 x.1.1.length c5)).setIfInBounds 1 (.slice D5 x.1.2.length d5)).setIfInBounds 2 (.slice G5 x.2.length g5)).setIfInBounds 53 (.bool true)).setIfInBounds 44 (.int .i64 ((s.nw:Int)+1))).setIfInBounds (4+(s.nw+1)) (.slice B s.cur.length bc)=stl s' A5 c5 D5 d5 G5 g5 B bc (upd sa (s.nw+1) B) (upd sc (s.nw+1) bc) ca cc:=by
 subst hs
 have h:=arr_sv (x0 := .slice A5 x.1.1.length c5) (x1 := .slice D5 x.1.2.length d5) (x2 := .slice G5 x.2.length g5) (x3 := .slice B s.cur.length bc) (x44 := .int .i64 ((s.nw:Int)+1)) (x45 := .slice (ca 0) (s.cl 0).length (cc 0)) (x46 := .slice (ca 1) (s.cl 1).length (cc 1)) (x47 := .slice (ca 2) (s.cl 2).length (cc 2)) (x48 := .slice (ca 3) (s.cl 3).length (cc 3)) (x49 := .bool (s.th 0)) (x50 := .bool (s.th 1)) (x51 := .bool (s.th 2)) (x52 := .bool (s.th 3)) (x53 := .bool true) (sa:=sa) (sn:=s.sn) (sc:=sc) (A:=B) (im:=s.cur) (c:=bc) hn
 exact h
set_option maxHeartbeats 4000000 in
set_option maxRecDepth 100000 in
theorem row_drp {s s':CSt} {x:Cls} (hs:s'={ s with c:=x }) {A D G B A5 D5 G5:Option Addr} {c d g bc c5 d5 g5:Nat} {sa ca:Nat→Option Addr} {sc cc:Nat→Nat} :
  ((((stl s A c D d G g B bc sa sc ca cc):Array Value).setIfInBounds 0 (.slice A5 x.1.1.length c5)).setIfInBounds 1 (.slice D5 x.1.2.length d5)).setIfInBounds 2 (.slice G5 x.2.length g5)=stl s' A5 c5 D5 d5 G5 g5 B bc sa sc ca cc:=by
 subst hs
 simp [stl]
set_option maxHeartbeats 4000000 in
set_option maxRecDepth 100000 in
theorem row_rep {s s':CSt} {x:Cls} {r:Img} (hs:s'={ s with c:=x,cur:=r }) {A D G B A5 D5 G5 A7:Option Addr} {c d g bc c5 d5 g5 c7:Nat} {sa ca:Nat→Option Addr} {sc cc:Nat→Nat} :
  ((((((stl s A c D d G g B bc sa sc ca cc):Array Value).setIfInBounds 0 (.slice A5 x.1.1.length c5)).setIfInBounds 1 (.slice D5 x.1.2.length d5)).setIfInBounds 2 (.slice G5 x.2.length g5)).setIfInBounds 53 (.bool true)).setIfInBounds 3 (.slice A7 r.length c7)=stl s' A5 c5 D5 d5 G5 g5 A7 c7 sa sc ca cc:=by
 subst hs
 simp [stl]
section
variable {a:Int} {k:Nat} {s:CSt} {A D G:Option Addr} {c d g:Nat} {W:World} {x:Cls} {n:Int}
theorem csTake (h:CInv [a,4] k s) (ha:1≤a∧a≤12) (hk:k≤1000) (hc:ClAt s.c A c D d G g (Bl W.heap.size) W) {num tm:Int} (hi:I64 num∧I64 tm) (hr:cTak s.c num tm=x) (he:cTakE s.c num tm=n) :
  Calls Tryz.prog 34 #[.agg #[.slice A s.c.1.1.length c,.slice D s.c.1.2.length d,.slice G s.c.2.length g],.int .i64 num,.int .i64 tm] W (RetCl x n W):=by
 have h:=clTake_any A D G c d g _ _ _ s.c.1.1 s.c.1.2 s.c.2 W rfl rfl rfl hc.im.2.2 hc.sn.2.2 hc.cl.2.2 (h.lim ha hk).1 num tm hi
 rw [show ((s.c.1.1,s.c.1.2),s.c.2)=s.c from rfl,hr,he] at h
 exact h
theorem csDrop (h:CInv [a,4] k s) (ha:1≤a∧a≤12) (hk:k≤1000) (hc:ClAt s.c A c D d G g (Bl W.heap.size) W) {num:Int} (hr:dropS s.c num=x) (he:dropE s.c num=n) :
  Calls Tryz.prog 26 #[.agg #[.slice A s.c.1.1.length c,.slice D s.c.1.2.length d,.slice G s.c.2.length g],.int .i64 num] W (RetCl x n W):=by
 have hl:=h.lim ha hk
 have h:=clDrop_any A D G c d g _ _ _ s.c.1.1 s.c.1.2 s.c.2 W rfl rfl rfl hc.im.2.2 hc.sn.2.2 hc.cl.2.2 hl.1 num hl.2.1
 rw [show ((s.c.1.1,s.c.1.2),s.c.2)=s.c from rfl,hr,he] at h
 exact h
theorem csReplicate (h:CInv [a,4] k s) (ha:1≤a∧a≤12) (hk:k≤1000) (hc:ClAt s.c A c D d G g (Bl W.heap.size) W) {ws:List Wr} {L:Option Addr} {lc q:Nat} (hq:ws.length=q) (h4:SlAt encWr W (Bl W.heap.size) L ws) (hwl:q≤1000) (hr:repS s.c ws=x) (he:repE s.c ws=n) :
  Calls Tryz.prog 32 #[.agg #[.slice A s.c.1.1.length c,.slice D s.c.1.2.length d,.slice G s.c.2.length g],.slice L q lc] W (RetCl x n W):=by
 have hl:=h.lim ha hk
 have h:=clReplicate_any A D G c d g _ _ _ s.c.1.1 s.c.1.2 s.c.2 W rfl rfl rfl hc.im.2.2 hc.sn.2.2 hc.cl.2.2 hl.1 L lc q ws hq h4 hwl (fun y hy=>by have:=hl.2.1 y hy;omega)
 rw [show ((s.c.1.1,s.c.1.2),s.c.2)=s.c from rfl,hr,he] at h
 exact h
end
theorem ClN.made {lo:Nat} {x:Cls} {A D G:Option Addr} {c d g:Nat} {W:World} (h:ClAt x A c D d G g (Nw lo W.heap.size) W):ClN lo W.heap.size x A c D d G g (W.alloc (.cells #[.slice A x.1.1.length c,.slice D x.1.2.length d,.slice G x.2.length g] 29)) :=
 ⟨heap_alloc_new _ _,h.keep (fun q hq=>Below.heap_alloc _ _ _ hq.2) (fun q hq=>⟨hq.1,by have:=hq.2;omega,by have:=hq.2;simp;omega⟩)⟩
def SRp (tz sb:Nat) (a0 a1 a2 b3 e2 e3 e4:Value) (W:World):Prop :=
 (W.cell? ⟨tz,0,none⟩=some a0∧W.cell? ⟨tz,1,none⟩=some a1∧W.cell? ⟨tz,2,none⟩=some a2)∧(W.cell? ⟨sb,53,none⟩=some (.bool true)∧W.cell? ⟨sb,3,none⟩=some b3)∧W.cell? ⟨sb+1,2,none⟩=some e2∧W.cell? ⟨sb+1,3,none⟩=some e3∧W.cell? ⟨sb+1,4,none⟩=some e4
theorem SRp.set {tz sb:Nat} {a0 a1 a2 b3 e2 e3 e4:Value} {W:World} (h:SRp tz sb a0 a1 a2 b3 e2 e3 e4 W) (hts:tz≠sb) (j:Nat) (u:Value) (h1:j≠53) (h2:j≠3):SRp tz sb a0 a1 a2 b3 e2 e3 e4 (W.setCell ⟨sb,j,none⟩ u):=by
 obtain⟨⟨a,b,c⟩,⟨d,e⟩,f,g,h⟩:=h
 exact⟨⟨(World.cell?_setCell_other _ _ _ _ (by simp <;> omega)).trans a,(World.cell?_setCell_other _ _ _ _ (by simp <;> omega)).trans b,(World.cell?_setCell_other _ _ _ _ (by simp <;> omega)).trans c⟩,⟨(World.cell?_setCell_other _ _ _ _ (by simp <;> omega)).trans d,(World.cell?_setCell_other _ _ _ _ (by simp <;> omega)).trans e⟩,(World.cell?_setCell_other _ _ _ _ (by simp)).trans f,(World.cell?_setCell_other _ _ _ _ (by simp)).trans g,(World.cell?_setCell_other _ _ _ _ (by simp)).trans h⟩
theorem SRp.set53 {tz sb:Nat} {a0 a1 a2 b3 e2 e3 e4:Value} {W:World} (h:SRp tz sb a0 a1 a2 b3 e2 e3 e4 W) (hts:tz≠sb):SRp tz sb a0 a1 a2 b3 e2 e3 e4 (W.setCell ⟨sb,53,none⟩ (.bool true)):=by
 obtain⟨⟨a,b,c⟩,⟨d,e⟩,f,g,h⟩:=h
 exact⟨⟨(World.cell?_setCell_other _ _ _ _ (by simp <;> omega)).trans a,(World.cell?_setCell_other _ _ _ _ (by simp <;> omega)).trans b,(World.cell?_setCell_other _ _ _ _ (by simp <;> omega)).trans c⟩,⟨World.cell?_setCell_same _ _ _ d,(World.cell?_setCell_other _ _ _ _ (by simp <;> omega)).trans e⟩,(World.cell?_setCell_other _ _ _ _ (by simp)).trans f,(World.cell?_setCell_other _ _ _ _ (by simp)).trans g,(World.cell?_setCell_other _ _ _ _ (by simp)).trans h⟩
end Go.Proofs.YtgndgkjefgjamaaGreat
namespace Go.Proofs.YtgndgkjefgjamaaGreat
open Go.RowKit Go.Shelf
attribute [local go_sem] Oper.semAt_some

theorem sclone_any (a:Int) (k i:Nat) (s:CSt) (A D G B Dw:Option Addr) (c d g bc dw wl:Nat) (sa:Nat→Option Addr) (sc:Nat→Nat) (ca:Nat→Option Addr) (cc:Nat→Nat) (S:Nat→Prop) (row:Array Value) (hR:row=(stl s A c D d G g B bc sa sc ca cc)) (kd wh v st:Int) (data:List Sec) (w:World) (ha:1≤a∧a≤12) (hk:k≤30) (h:CInv [a,4] k s) (hM:StM s A c D d G g B bc sa sc ca cc (fun q=>S q∧q<w.heap.size) w)
  (hkd:0≤kd∧kd<256) (hwh:0≤wh∧wh<256) (hi:wh % 4=i) (hwl:data.length=wl) (h4:SlAt encSec w (Bl w.heap.size) Dw data) (hvs:I64 v∧I64 st) (hdl:wl≤1000) (hdc:wl≤dw∧dw≤maxLen) (hk2:kd % 6≠2) (hk3:kd % 6≠3) (hk4:kd % 6≠4) :
  Calls Tryz.prog 138 #[.agg row,.agg #[.int .u8 kd,.int .u8 wh,.int .i64 v,.int .i64 st,.slice Dw wl dw]] w (StRet S (cStep s (kd,wh,(v,st,data))) w):=by
 have hk0:k≤1000:=by omega
 have h5:kd % 6=0∨kd % 6=1∨kd % 6=5:=by omega
 rcases h5 with h5 | h5 | h5
 ·exact sclone0_any a k i s A D G B Dw c d g bc dw wl sa sc ca cc S row hR kd wh v st data w ha hk0 h hM hkd hwh hi hwl h4 hvs hdl hdc h5 hk
 ·exact sclone1_any a k i s A D G B Dw c d g bc dw wl sa sc ca cc S row hR kd wh v st data w ha hk0 h hM hkd hwh hi hwl h4 hvs hdl hdc h5
 ·exact sclone5_any a k i s A D G B Dw c d g bc dw wl sa sc ca cc S row hR kd wh v st data w ha hk0 h hM hkd hwh hi hwl h4 hvs hdl hdc h5
set_option maxHeartbeats 8000000 in
set_option maxRecDepth 100000 in
theorem sstep0_any (a:Int) (k i:Nat) (s:CSt) (A D G B Dw:Option Addr) (c d g bc dw wl:Nat) (sa:Nat→Option Addr) (sc:Nat→Nat) (ca:Nat→Option Addr) (cc:Nat→Nat) (S:Nat→Prop) (row:Array Value) (hR:row=(stl s A c D d G g B bc sa sc ca cc)) (kd wh v st:Int) (data:List Sec) (w:World) (ha:1≤a∧a≤12) (hk:k≤30) (h:CInv [a,4] k s) (hM:StM s A c D d G g B bc sa sc ca cc (fun q=>S q∧q<w.heap.size) w)
  (hkd:0≤kd∧kd<256) (hwh:0≤wh∧wh<256) (hi:wh % 4=i) (hwl:data.length=wl) (h4:SlAt encSec w (Bl w.heap.size) Dw data) (hvs:I64 v∧I64 st) (hdl:wl≤1000) (hdc:wl≤dw∧dw≤maxLen) (hk2:kd % 6≠2) (hk3:kd % 6≠3) (hk4:kd % 6≠4) :
  Calls Tryz.prog 89 #[.agg row,.agg #[.int .u8 kd,.int .u8 wh,.int .i64 v,.int .i64 st,.slice Dw wl dw]] w (StRet S (cStep s (kd,wh,(v,st,data))) w):=by
 obtain⟨sb,hsb⟩:∃ sb,w.heap.size=sb:=⟨_,rfl⟩
 obtain⟨kr,hkr⟩:∃ kr,kd % 6=kr:=⟨_,rfl⟩
 have hmod6:kd.tmod 6=kr:=by rw [Int.tmod_eq_emod_of_nonneg hkd.1];exact hkr
 obtain⟨W0,hW0⟩:∃ W0,((w.alloc (.cells row 79)).alloc (.cells #[.int .u8 kd,.int .u8 wh,.int .i64 v,.int .i64 st,.slice Dw wl dw] 149)).alloc (.cells #[.slice none 0 0,.slice none 0 0,.slice none 0 0,.slice none 0 0,.slice none 0 0,.slice none 0 0,.slice none 0 0,.slice none 0 0,.slice none 0 0,.slice none 0 0,.slice none 0 0,.slice none 0 0,.slice none 0 0,.slice none 0 0,.slice none 0 0,.slice none 0 0,.slice none 0 0,.slice none 0 0,.slice none 0 0,.slice none 0 0,.slice none 0 0,.slice none 0 0,.slice none 0 0,.slice none 0 0,.slice none 0 0,.slice none 0 0,.slice none 0 0,.slice none 0 0,.slice none 0 0,.slice none 0 0,.slice none 0 0,.slice none 0 0,.slice none 0 0,.slice none 0 0,.slice none 0 0,.slice none 0 0,.slice none 0 0,.slice none 0 0,.slice none 0 0,.slice none 0 0,.slice none 0 0,.slice none 0 0,.slice none 0 0,.slice none 0 0,.int .i64 0,.slice none 0 0,.slice none 0 0,.slice none 0 0,.slice none 0 0,.bool false,.bool false,.bool false,.bool false,.bool false] 79)=W0:=⟨_,rfl⟩
 have hB0:Below w.heap.size w W0:=by rw [← hW0];exact ext_alloc (ext_alloc (ext_alloc (Below.refl _ _)))
 have hz0:sb+1+1<W0.heap.size:=by rw [← hW0, ← hsb];simp
 have hrow:W0.heap[sb]? = some (.cells row 79 (0,0)):=by rw [← hW0, ← hsb];exact (Below.heap_alloc _ _ _ (by simp <;> omega)).trans ((Below.heap_alloc _ _ _ (by simp)).trans (heap_alloc_new _ _))
 have hev:W0.heap[sb+1]? = some (.cells #[.int .u8 kd,.int .u8 wh,.int .i64 v,.int .i64 st,.slice Dw wl dw] 149 (0,0)):=by rw [← hW0, ← hsb];exact (Below.heap_alloc _ _ _ (by simp)).trans (heap_new2 _ _ _)
 have hres:W0.heap[sb+1+1]? = some (.cells #[.slice none 0 0,.slice none 0 0,.slice none 0 0,.slice none 0 0,.slice none 0 0,.slice none 0 0,.slice none 0 0,.slice none 0 0,.slice none 0 0,.slice none 0 0,.slice none 0 0,.slice none 0 0,.slice none 0 0,.slice none 0 0,.slice none 0 0,.slice none 0 0,.slice none 0 0,.slice none 0 0,.slice none 0 0,.slice none 0 0,.slice none 0 0,.slice none 0 0,.slice none 0 0,.slice none 0 0,.slice none 0 0,.slice none 0 0,.slice none 0 0,.slice none 0 0,.slice none 0 0,.slice none 0 0,.slice none 0 0,.slice none 0 0,.slice none 0 0,.slice none 0 0,.slice none 0 0,.slice none 0 0,.slice none 0 0,.slice none 0 0,.slice none 0 0,.slice none 0 0,.slice none 0 0,.slice none 0 0,.slice none 0 0,.slice none 0 0,.int .i64 0,.slice none 0 0,.slice none 0 0,.slice none 0 0,.slice none 0 0,.bool false,.bool false,.bool false,.bool false,.bool false] 79 (0,0)):=by rw [← hW0, ← hsb];exact heap_new3 _ _ _ _
 have HW0:=Lib.hid hW0
 have HSB:=Lib.hid hsb
 have HM0:=Lib.hid hM
 have HROW:=Lib.hid hrow
 have HEV:=Lib.hid hev
 have HRES:=Lib.hid hres
 have hwsb:w.heap.size≤sb∧sb≤w.heap.size:=by omega
 have HC5:Hid (∀ W,Below W0.heap.size W0 W→W.cell? ⟨sb,0,none⟩=some (.slice A s.c.1.1.length c)∧W.cell? ⟨sb,1,none⟩=some (.slice D s.c.1.2.length d)∧W.cell? ⟨sb,2,none⟩=some (.slice G s.c.2.length g)∧W.cell? ⟨sb,44,none⟩=some (.int .i64 (s.nw:Nat))∧W.cell? ⟨sb,3,none⟩=some (.slice B s.cur.length bc)∧W.cell? ⟨sb,53,none⟩=some (.bool true)∧∀ j,W.frozen? ⟨sb,j,none⟩=false):=fun W hb=>by
  have hrow2:=(hb.block sb (by omega)).trans hrow
  rw [hR] at hrow2
  obtain⟨h0,h1,h2,h3,h4,h5,h6,h7,h8,h9,h10,h11,h12,h13,h14,h15,h16,h17,h18,h19,h20,h21,h22,h23,h24,h25,h26,h27,h28,h29,h30,h31,h32,h33,h34,h35,h36,h37,h38,h39,h40,h41,h42,h43,h44,h45,h46,h47,h48,h49,h50,h51,h52,h53,hf⟩:=blk54 hrow2
  exact⟨h0,h1,h2,h44,h3,h53,hf⟩
 have HCL:Hid (∀ W,Below W0.heap.size W0 W→ClAt s.c A c D d G g (Bl W.heap.size) W):=fun W hb=>hM.cls.keep (fun q hq=>(hB0.trans (hb.mono hB0.size)).block q hq.2) (fun q hq=>by have:=hq.2;have:=hB0.size;have:=hb.size;show q<W.heap.size;omega)
 have H4:Hid (∀ W,Below W0.heap.size W0 W→SlAt encSec W (Bl W.heap.size) Dw data):=fun W hb=>h4.fwd (hB0.trans (hb.mono hB0.size))
 have HEC:Hid (∀ W,Below W0.heap.size W0 W→W.cell? ⟨sb+1,2,none⟩=some (.int .i64 v)∧W.cell? ⟨sb+1,3,none⟩=some (.int .i64 st)∧W.cell? ⟨sb+1,4,none⟩=some (.slice Dw wl dw)):=fun W hb=>by
  have h:=(hb.block (sb+1) (by omega)).trans hev
  exact⟨cell_of_row W (sb+1) 2 _ _ _ h,cell_of_row W (sb+1) 3 _ _ _ h,cell_of_row W (sb+1) 4 _ _ _ h⟩
 have HE1:Hid (∀ W,Below W0.heap.size W0 W→W.cell? ⟨sb+1,1,none⟩=some (.int .u8 wh)):=fun W hb=>cell_of_row W (sb+1) 1 _ _ _ ((hb.block (sb+1) (by omega)).trans hev)
 have ev0:W0.cell? ⟨sb+1,0,none⟩=some (.int .u8 kd):=cell_of_row W0 (sb+1) 0 _ _ _ hev
 have ev1:W0.cell? ⟨sb+1,1,none⟩=some (.int .u8 wh):=cell_of_row W0 (sb+1) 1 _ _ _ hev
 have HR:=Lib.hid hR
 clear hrow hres hM hev hR
 go_enter Tryz.func89,Tryz.ntmps89
 go_upto_region 3 with (fail)
 clear hW0 ev0 ev1
 try rw [HW0.out]
 clear HW0
 have HCA:=Lib.hid (sclone_any a k i s A D G B Dw c d g bc dw wl sa sc ca cc (fun q=>S q∧q<w.heap.size) row HR.out kd wh v st data W0 ha hk h (HM0.out.keep (fun q hq=>hB0.block q hq.2) (fun q hq=>⟨hq,by have:=hq.2;have:=hB0.size;omega⟩)) hkd hwh hi hwl (H4.out W0 (Below.refl _ _)) hvs hdl hdc hk2 hk3 hk4)
 have n2:kr≠2:=by omega
 have n3:kr≠3:=by omega
 have n4:kr≠4:=by omega
 clear hk2 hk3 hk4
 have HAL:=Lib.hid (st_all (s':=s) (B':=B) (bc':=bc) (sa':=sa) (sc':=sc) (ca':=ca) (cc':=cc) HR.out)
 have c0:W0.cell? ⟨sb+1,0,none⟩=some (.int .u8 kd):=cell_of_row W0 (sb+1) 0 _ _ _ HEV.out
 have c1:W0.cell? ⟨sb+1,1,none⟩=some (.int .u8 wh):=cell_of_row W0 (sb+1) 1 _ _ _ HEV.out
 obtain⟨c2,c3,c4⟩:=HEC.out W0 (Below.refl _ _)
 go_upto_region 2 with (fail)
 go_wp2_with (first | (refine wpList_load_row rfl 79 _ rfl sb rfl 79 row (0,0) _ HROW.out Tryz.underlying79 rfl HAL.out.2 ?_) | fail)
 refine HCA.out.mono ?_
 rintro e w6 ⟨row',A',c',D',d',G',g',B',bc',sa',sc',ca',cc',rfl,hR',hM',hb6⟩
 have HRR:=Lib.hid ((hb6.block (sb+1+1) (by omega)).trans HRES.out)
 have hbw:Below w.heap.size w w6:=hB0.trans (hb6.mono hB0.size)
 have HMN:=Lib.hid (hM'.keep (W':=w6) (S':=fun q=>(S q∨w.heap.size≤q)∧q<w6.heap.size∧q≠sb+1+1) (fun q hq=>rfl) (fun q hq=>by
  rcases hq with ⟨⟨h1,h2⟩ | h1,h3⟩
  ·exact⟨Or.inl h1,h3,by omega⟩
  ·exact⟨Or.inr (by have:=hB0.size;omega),h3,by omega⟩))
 have HRQ:=Lib.hid hR'
 have HAL2:=Lib.hid (st_all hR')
 clear hM' hR' hb6 c0 c1 c2 c3 c4 HAL HCA
 go_wp2_with (first | (refine wpList_store_row rfl 79 _ _ rfl (sb+1+1) row' rfl rfl 79 _ HRR.out HAL2.out.2 (st_size HAL2.out.2 (by kernel_rfl) (by kernel_rfl)) HAL2.out.1 ?_) | fail)
 have hz:=setRow_heap w6 (sb+1+1) _ row' _ _ HRR.out
 have hret:=st_ret (S:=S) (w:=w) (rb:=sb+1+1) (row:=row') HRQ.out (by omega) hbw HMN.out
 generalize w6.setRow (sb+1+1) row'=W3 at hz hret ⊢
 refine bodyPost_ret (v := .agg row') (results_cell_row (p:=4) (ty:=79) rfl _ _ (sb+1+1) _ row' (0,0) _ rfl hz Tryz.underlying79 rfl HAL2.out.2) rfl ?_
 exact hret
end Go.Proofs.YtgndgkjefgjamaaGreat
namespace Go.Proofs.YtgndgkjefgjamaaGreat
open Go.RowKit Go.Shelf
attribute [local go_sem] Oper.semAt_some

set_option maxHeartbeats 8000000 in
set_option maxRecDepth 100000 in
theorem sstep3_any (a:Int) (k i:Nat) (s:CSt) (A D G B Dw:Option Addr) (c d g bc dw wl:Nat) (sa:Nat→Option Addr) (sc:Nat→Nat) (ca:Nat→Option Addr) (cc:Nat→Nat) (S:Nat→Prop) (row:Array Value) (hR:row=(stl s A c D d G g B bc sa sc ca cc)) (kd wh v st:Int) (data:List Sec) (w:World) (ha:1≤a∧a≤12) (hk:k≤30) (h:CInv [a,4] k s) (hM:StM s A c D d G g B bc sa sc ca cc (fun q=>S q∧q<w.heap.size) w)
  (hkd:0≤kd∧kd<256) (hwh:0≤wh∧wh<256) (hi:wh % 4=i) (hwl:data.length=wl) (h4:SlAt encSec w (Bl w.heap.size) Dw data) (hvs:I64 v∧I64 st) (hdl:wl≤1000) (hdc:wl≤dw∧dw≤maxLen) (hk3:kd % 6=3) :
  Calls Tryz.prog 89 #[.agg row,.agg #[.int .u8 kd,.int .u8 wh,.int .i64 v,.int .i64 st,.slice Dw wl dw]] w (StRet S (cStep s (kd,wh,(v,st,data))) w):=by
 have hk0:k≤1000:=by omega
 obtain⟨sb,hsb⟩:∃ sb,w.heap.size=sb:=⟨_,rfl⟩
 obtain⟨kr,hkr⟩:∃ kr,kd % 6=kr:=⟨_,rfl⟩
 have hmod6:kd.tmod 6=kr:=by rw [Int.tmod_eq_emod_of_nonneg hkd.1];exact hkr
 obtain⟨W0,hW0⟩:∃ W0,((w.alloc (.cells row 79)).alloc (.cells #[.int .u8 kd,.int .u8 wh,.int .i64 v,.int .i64 st,.slice Dw wl dw] 149)).alloc (.cells #[.slice none 0 0,.slice none 0 0,.slice none 0 0,.slice none 0 0,.slice none 0 0,.slice none 0 0,.slice none 0 0,.slice none 0 0,.slice none 0 0,.slice none 0 0,.slice none 0 0,.slice none 0 0,.slice none 0 0,.slice none 0 0,.slice none 0 0,.slice none 0 0,.slice none 0 0,.slice none 0 0,.slice none 0 0,.slice none 0 0,.slice none 0 0,.slice none 0 0,.slice none 0 0,.slice none 0 0,.slice none 0 0,.slice none 0 0,.slice none 0 0,.slice none 0 0,.slice none 0 0,.slice none 0 0,.slice none 0 0,.slice none 0 0,.slice none 0 0,.slice none 0 0,.slice none 0 0,.slice none 0 0,.slice none 0 0,.slice none 0 0,.slice none 0 0,.slice none 0 0,.slice none 0 0,.slice none 0 0,.slice none 0 0,.slice none 0 0,.int .i64 0,.slice none 0 0,.slice none 0 0,.slice none 0 0,.slice none 0 0,.bool false,.bool false,.bool false,.bool false,.bool false] 79)=W0:=⟨_,rfl⟩
 have hB0:Below w.heap.size w W0:=by rw [← hW0];exact ext_alloc (ext_alloc (ext_alloc (Below.refl _ _)))
 have hz0:sb+1+1<W0.heap.size:=by rw [← hW0, ← hsb];simp
 have hrow:W0.heap[sb]? = some (.cells row 79 (0,0)):=by rw [← hW0, ← hsb];exact (Below.heap_alloc _ _ _ (by simp <;> omega)).trans ((Below.heap_alloc _ _ _ (by simp)).trans (heap_alloc_new _ _))
 have hev:W0.heap[sb+1]? = some (.cells #[.int .u8 kd,.int .u8 wh,.int .i64 v,.int .i64 st,.slice Dw wl dw] 149 (0,0)):=by rw [← hW0, ← hsb];exact (Below.heap_alloc _ _ _ (by simp)).trans (heap_new2 _ _ _)
 have hres:W0.heap[sb+1+1]? = some (.cells #[.slice none 0 0,.slice none 0 0,.slice none 0 0,.slice none 0 0,.slice none 0 0,.slice none 0 0,.slice none 0 0,.slice none 0 0,.slice none 0 0,.slice none 0 0,.slice none 0 0,.slice none 0 0,.slice none 0 0,.slice none 0 0,.slice none 0 0,.slice none 0 0,.slice none 0 0,.slice none 0 0,.slice none 0 0,.slice none 0 0,.slice none 0 0,.slice none 0 0,.slice none 0 0,.slice none 0 0,.slice none 0 0,.slice none 0 0,.slice none 0 0,.slice none 0 0,.slice none 0 0,.slice none 0 0,.slice none 0 0,.slice none 0 0,.slice none 0 0,.slice none 0 0,.slice none 0 0,.slice none 0 0,.slice none 0 0,.slice none 0 0,.slice none 0 0,.slice none 0 0,.slice none 0 0,.slice none 0 0,.slice none 0 0,.slice none 0 0,.int .i64 0,.slice none 0 0,.slice none 0 0,.slice none 0 0,.slice none 0 0,.bool false,.bool false,.bool false,.bool false,.bool false] 79 (0,0)):=by rw [← hW0, ← hsb];exact heap_new3 _ _ _ _
 have HW0:=Lib.hid hW0
 have HSB:=Lib.hid hsb
 have HM0:=Lib.hid hM
 have HROW:=Lib.hid hrow
 have HEV:=Lib.hid hev
 have HRES:=Lib.hid hres
 have hwsb:w.heap.size≤sb∧sb≤w.heap.size:=by omega
 have HC5:Hid (∀ W,Below W0.heap.size W0 W→W.cell? ⟨sb,0,none⟩=some (.slice A s.c.1.1.length c)∧W.cell? ⟨sb,1,none⟩=some (.slice D s.c.1.2.length d)∧W.cell? ⟨sb,2,none⟩=some (.slice G s.c.2.length g)∧W.cell? ⟨sb,44,none⟩=some (.int .i64 (s.nw:Nat))∧W.cell? ⟨sb,3,none⟩=some (.slice B s.cur.length bc)∧W.cell? ⟨sb,53,none⟩=some (.bool true)∧∀ j,W.frozen? ⟨sb,j,none⟩=false):=fun W hb=>by
  have hrow2:=(hb.block sb (by omega)).trans hrow
  rw [hR] at hrow2
  obtain⟨h0,h1,h2,h3,h4,h5,h6,h7,h8,h9,h10,h11,h12,h13,h14,h15,h16,h17,h18,h19,h20,h21,h22,h23,h24,h25,h26,h27,h28,h29,h30,h31,h32,h33,h34,h35,h36,h37,h38,h39,h40,h41,h42,h43,h44,h45,h46,h47,h48,h49,h50,h51,h52,h53,hf⟩:=blk54 hrow2
  exact⟨h0,h1,h2,h44,h3,h53,hf⟩
 have HCL:Hid (∀ W,Below W0.heap.size W0 W→ClAt s.c A c D d G g (Bl W.heap.size) W):=fun W hb=>hM.cls.keep (fun q hq=>(hB0.trans (hb.mono hB0.size)).block q hq.2) (fun q hq=>by have:=hq.2;have:=hB0.size;have:=hb.size;show q<W.heap.size;omega)
 have H4:Hid (∀ W,Below W0.heap.size W0 W→SlAt encSec W (Bl W.heap.size) Dw data):=fun W hb=>h4.fwd (hB0.trans (hb.mono hB0.size))
 have HEC:Hid (∀ W,Below W0.heap.size W0 W→W.cell? ⟨sb+1,2,none⟩=some (.int .i64 v)∧W.cell? ⟨sb+1,3,none⟩=some (.int .i64 st)∧W.cell? ⟨sb+1,4,none⟩=some (.slice Dw wl dw)):=fun W hb=>by
  have h:=(hb.block (sb+1) (by omega)).trans hev
  exact⟨cell_of_row W (sb+1) 2 _ _ _ h,cell_of_row W (sb+1) 3 _ _ _ h,cell_of_row W (sb+1) 4 _ _ _ h⟩
 have HE1:Hid (∀ W,Below W0.heap.size W0 W→W.cell? ⟨sb+1,1,none⟩=some (.int .u8 wh)):=fun W hb=>cell_of_row W (sb+1) 1 _ _ _ ((hb.block (sb+1) (by omega)).trans hev)
 have ev0:W0.cell? ⟨sb+1,0,none⟩=some (.int .u8 kd):=cell_of_row W0 (sb+1) 0 _ _ _ hev
 have ev1:W0.cell? ⟨sb+1,1,none⟩=some (.int .u8 wh):=cell_of_row W0 (sb+1) 1 _ _ _ hev
 have HR:=Lib.hid hR
 clear hrow hres hM hev hR
 go_enter Tryz.func89,Tryz.ntmps89
 go_upto_region 3 with (fail)
 clear hW0 ev0 ev1
 try rw [HW0.out]
 clear HW0
 obtain rfl:kr=3:=by omega
 obtain⟨x,hx⟩:∃ x,cTak s.c (s.nw+1:Nat) (s.nw+1:Nat)=x:=⟨_,rfl⟩
 have hnw:=h.nw
 have hni:I64 ((s.nw+1:Nat):Int):=by unfold I64;omega
 have hnn0:(0:Int)≤(s.nw:Int):=by omega
 have hnn9:(s.nw:Int)<35:=by omega
 have hn40:s.nw+1<40:=by omega
 obtain⟨ht1,ht2⟩:=h.tak hk0
 have htk:=csTake h ha hk0 (HCL.out W0 (Below.refl _ _)) ⟨hni,hni⟩ hx ht1
 rw [show ((s.nw+1:Nat):Int)=(s.nw:Int)+1 by simp] at htk
 have HTK:=Lib.hid htk
 have HS:Hid (cStep s (kd,wh,(v,st,data))={ s with c:=x,nw:=s.nw+1,sn:=upd s.sn (s.nw+1) s.cur }):=by
  unfold cStep
  simp only
  rw [if_neg (by omega),if_pos (by omega),hx];exact rfl
 have hLT:(s.nw:Int)+1<40:=by omega
 obtain⟨h0,h1,h2,h44,h3,h53,hf⟩:=HC5.out W0 (Below.refl _ _)
 clear hx hni ht1 ht2 htk hnw
 go_wp2_with fail
 refine HTK.out.mono ?_
 rintro e w6 ⟨A5,c5,D5,d5,G5,g5,rfl,hat,hb6⟩
 clear HTK h0 h1 h2 h44 h3 h53 hf
 have HCN:=Lib.hid (ClN.made hat)
 obtain⟨W7,hW7⟩:∃ W,w6.alloc (.cells #[.slice A5 x.1.1.length c5,.slice D5 x.1.2.length d5,.slice G5 x.2.length g5] 29)=W:=⟨_,rfl⟩
 have hb7:Below W0.heap.size W0 W7:=by rw [← hW7];exact hb6.alloc hb6.size _
 rw [hW7] at HCN
 obtain⟨tz,htz⟩:∃ tz,w6.heap.size=tz:=⟨_,rfl⟩
 have hzl:W0.heap.size≤tz:=by rw [← htz];exact hb6.size
 rw [htz] at HCN
 obtain⟨v0,v1,v2,vf⟩:=blk3 HCN.out.row
 obtain⟨h0,h1,h2,h44,h3,h53,hf⟩:=HC5.out W7 hb7
 have hrw:=(hb7.block sb (by omega)).trans HROW.out
 have hrr:=(hb7.block (sb+1+1) (by omega)).trans HRES.out
 have HRW:=Lib.hid hrw
 have HRR:=Lib.hid hrr
 have hbw:Below w.heap.size w W7:=hB0.trans (hb7.mono hB0.size)
 clear hrw hrr hat hb6
 obtain⟨Wn,hWn⟩:∃ W,(((((W7.setCell ⟨sb,0,none⟩ (.slice A5 x.1.1.length c5)).setCell ⟨sb,1,none⟩ (.slice D5 x.1.2.length d5)).setCell ⟨sb,2,none⟩ (.slice G5 x.2.length g5)).setCell ⟨sb,53,none⟩ (.bool true)).setCell ⟨sb,44,none⟩ (.int .i64 ((s.nw:Int)+1))).setCell ⟨sb,4+(s.nw+1),none⟩ (.slice B s.cur.length bc)=W:=⟨_,rfl⟩
 have r5:=row_set (row_set (row_set (row_set (row_set (row_set HRW.out 0 (.slice A5 x.1.1.length c5)) 1 (.slice D5 x.1.2.length d5)) 2 (.slice G5 x.2.length g5)) 53 (.bool true)) 44 (.int .i64 ((s.nw:Int)+1))) (4+(s.nw+1)) (.slice B s.cur.length bc)
 obtain⟨row',hrow'⟩:∃ r,(((((row.setIfInBounds 0 (.slice A5 x.1.1.length c5)).setIfInBounds 1 (.slice D5 x.1.2.length d5)).setIfInBounds 2 (.slice G5 x.2.length g5)).setIfInBounds 53 (.bool true)).setIfInBounds 44 (.int .i64 ((s.nw:Int)+1))).setIfInBounds (4+(s.nw+1)) (.slice B s.cur.length bc)=r:=⟨_,rfl⟩
 rw [hrow',hWn] at r5
 have HRQ:=Lib.hid (((congrArg (fun r:Array Value=>(((((r.setIfInBounds 0 (.slice A5 x.1.1.length c5)).setIfInBounds 1 (.slice D5 x.1.2.length d5)).setIfInBounds 2 (.slice G5 x.2.length g5)).setIfInBounds 53 (.bool true)).setIfInBounds 44 (.int .i64 ((s.nw:Int)+1))).setIfInBounds (4+(s.nw+1)) (.slice B s.cur.length bc)) HR.out).symm.trans hrow').symm.trans (row_tak (s':={ s with c:=x,nw:=s.nw+1,sn:=upd s.sn (s.nw+1) s.cur }) hn40 rfl))
 clear hrow'
 have hkN:∀ b,b≠sb→Wn.heap[b]? = W7.heap[b]? := fun b hb=>by
  rw [← hWn]
  exact (heap_setCell_other _ _ _ _ hb).trans ((heap_setCell_other _ _ _ _ hb).trans ((heap_setCell_other _ _ _ _ hb).trans ((heap_setCell_other _ _ _ _ hb).trans ((heap_setCell_other _ _ _ _ hb).trans (heap_setCell_other _ _ _ _ hb)))))
 have hzN:Wn.heap.size=W7.heap.size:=by rw [← hWn];simp [World.setCell]
 have hbN:Below w.heap.size w Wn:=by rw [← hWn];exact (((((hbw.setCell (p:=⟨sb,0,none⟩) hwsb.1 _).setCell (p:=⟨sb,1,none⟩) hwsb.1 _).setCell (p:=⟨sb,2,none⟩) hwsb.1 _).setCell (p:=⟨sb,53,none⟩) hwsb.1 _).setCell (p:=⟨sb,44,none⟩) hwsb.1 _).setCell (p:=⟨sb,4+(s.nw+1),none⟩) hwsb.1 _
 have HWN:=Lib.hid hWn
 have R5:=Lib.hid r5
 clear hWn r5
 have hcs:W7.cell? ⟨sb,4+(s.nw+1),none⟩=some (.slice (sa (s.nw+1)) (s.sn (s.nw+1)).length (sc (s.nw+1))):=by
  rw [cell_of_row W7 sb (4+(s.nw+1)) _ _ _ HRW.out,HR.out]
  exact row_sn hn40
 go_upto_region 15 with (fail)
 rw [HWN.out]
 clear HWN hcs h0 h1 h2 h44 h3 h53 hf v0 v1 v2 vf
 have hrN:=(hkN (sb+1+1) (by omega)).trans HRR.out
 have hkW:∀ q,(S q∧q<w.heap.size)→Wn.heap[q]? = w.heap[q]? := fun q hq=>hbN.block q hq.2
 have hSW:∀ q,(S q∧q<w.heap.size)→(S q∨w.heap.size≤q)∧q<Wn.heap.size∧q≠sb+1+1:=fun q hq=>⟨Or.inl hq.1,by have:=hbN.size;have:=hq.2;omega,by have:=hq.2;omega⟩
 have hMN:StM { s with c:=x,nw:=s.nw+1,sn:=upd s.sn (s.nw+1) s.cur } A5 c5 D5 d5 G5 g5 B bc (upd sa (s.nw+1) B) (upd sc (s.nw+1) bc) ca cc (fun q=>(S q∨w.heap.size≤q)∧q<Wn.heap.size∧q≠sb+1+1) Wn :=
  ⟨HCN.out.at_.keep (fun q hq=>hkN q (by have:=hq.1;omega)) (fun q hq=>⟨Or.inr (by have:=hq.1;omega),by rw [hzN];exact hq.2.2,by have:=hq.1;omega⟩),
   ⟨HM0.out.cur.1,HM0.out.cur.2.1,(HM0.out.cur.2.2.blk hkW).more hSW⟩,fun j hj=>by
    by_cases hji:j=s.nw+1
    ·subst hji
     show ImA (upd sa (s.nw+1) B (s.nw+1)) (upd sc (s.nw+1) bc (s.nw+1)) (upd s.sn (s.nw+1) s.cur (s.nw+1)) _ _
     rw [upd_same,upd_same,upd_same]
     exact⟨HM0.out.cur.1,HM0.out.cur.2.1,(HM0.out.cur.2.2.blk hkW).more hSW⟩
    ·show ImA (upd sa (s.nw+1) B j) (upd sc (s.nw+1) bc j) (upd s.sn (s.nw+1) s.cur j) _ _
     rw [upd_ne _ _ hji,upd_ne _ _ hji,upd_ne _ _ hji];exact (HM0.out.sns j hj).keep hkW hSW,fun j hj=>(HM0.out.cli j hj).keep hkW hSW⟩
 have HMN:=Lib.hid hMN
 have HRN:=Lib.hid hrN
 clear hMN hrN hkN hkW hSW
 have HAL:=Lib.hid (st_all (s':={ s with c:=x,nw:=s.nw+1,sn:=upd s.sn (s.nw+1) s.cur }) (B':=B) (bc':=bc) (sa':=upd sa (s.nw+1) B) (sc':=upd sc (s.nw+1) bc) (ca':=ca) (cc':=cc) HRQ.out)
 -- the state's row is loaded whole and stored into the result
 go_wp2_with (first | (refine wpList_load_row rfl 79 _ rfl sb rfl 79 row' (0,0) _ R5.out Tryz.underlying79 rfl HAL.out.2 ?_) | (refine wpList_store_row rfl 79 _ _ rfl (sb+1+1) row' rfl rfl 79 _ HRN.out HAL.out.2 (st_size HAL.out.2 (by kernel_rfl) (by kernel_rfl)) HAL.out.1 ?_))
 have hz:=setRow_heap Wn (sb+1+1) _ row' _ _ HRN.out
 have hret:=st_ret (S:=S) (w:=w) (rb:=sb+1+1) (row:=row') HRQ.out (by omega) hbN HMN.out
 generalize Wn.setRow (sb+1+1) row'=W3 at hz hret ⊢
 refine bodyPost_ret (v := .agg row') (results_cell_row (p:=4) (ty:=79) rfl _ _ (sb+1+1) _ row' (0,0) _ rfl hz Tryz.underlying79 rfl HAL.out.2) rfl ?_
 rw [HS.out];exact hret
end Go.Proofs.YtgndgkjefgjamaaGreat

/-
  State.clone of a run over clones: the walk.; State.clone of a run over clones, kind 0: the walk.; The law's apply over an image: the walk.; Drawn regions: a load may be taken first where the last operation waits for it through another one. No program in sight.
-/
import Derived.BigQuiet
import Derived.Deep.DeepCutAuto
import Derived.BigRegion
import Derived.Test.YtgndgkjefgjamaaGreatV01
import Derived.Test.YtgndgkjefgjamaaGreatV02
import Derived.Test.YtgndgkjefgjamaaGreatV03
import Derived.Test.YtgndgkjefgjamaaGreatV04
import Derived.Test.YtgndgkjefgjamaaGreatV05
import Derived.Test.YtgndgkjefgjamaaGreatV06
import Derived.Test.YtgndgkjefgjamaaGreatV07
import Derived.Test.YtgndgkjefgjamaaGreatV08
import Derived.Test.YtgndgkjefgjamaaGreatV09
import Derived.Test.YtgndgkjefgjamaaGreatV10
import Derived.Test.YtgndgkjefgjamaaGreatV11
import Derived.Test.YtgndgkjefgjamaaGreatV12
import Derived.Test.YtgndgkjefgjamaaGreatV13
import Derived.Test.YtgndgkjefgjamaaGreatV14
import Derived.Test.YtgndgkjefgjamaaGreatV15
set_option linter.unusedVariables false
set_option linter.unusedSimpArgs false
set_option linter.unusedSectionVars false
set_option linter.unnecessarySimpa false
namespace Go.Proofs.YtgndgkjefgjamaaGreat
open Go.RowKit Go.Shelf
attribute [local go_sem] Oper.semAt_some

theorem or4 {i:Nat} (h:i<4):i=0∨i=1∨i=2∨i=3:=by omega
set_option maxHeartbeats 4000000 in
set_option maxRecDepth 100000 in
theorem row_del {s s':CSt} {x:Cls} {i:Nat} (hi:i<4) (hs:s'={ s with c:=x,th:=upd s.th i false }) {A D G B A5 D5 G5:Option Addr} {c d g bc c5 d5 g5:Nat} {sa ca:Nat→Option Addr} {sc cc:Nat→Nat} :
  ((((((stl s A c D d G g B bc sa sc ca cc):Array Value).setIfInBounds 53 (.bool true)).setIfInBounds 0 (.slice A5 x.1.1.length c5)).setIfInBounds 1 (.slice D5 x.1.2.length d5)).setIfInBounds 2 (.slice G5 x.2.length g5)).setIfInBounds (49+i) (.bool false)=stl s' A5 c5 D5 d5 G5 g5 B bc sa sc ca cc:=by
 subst hs
 rcases or4 hi with rfl | rfl | rfl | rfl <;> simp [stl,upd]
set_option maxHeartbeats 4000000 in
set_option maxRecDepth 100000 in
theorem row_53 {s:CSt} {A D G B:Option Addr} {c d g bc:Nat} {sa ca:Nat→Option Addr} {sc cc:Nat→Nat}:((stl s A c D d G g B bc sa sc ca cc):Array Value).setIfInBounds 53 (.bool true)=(stl s A c D d G g B bc sa sc ca cc):=by simp [stl]
def StRet (S:Nat→Prop) (s':CSt) (w:World) (e:Ending) (w':World):Prop :=
 ∃ row A' c' D' d' G' g' B' bc' sa' sc' ca' cc',e = .returned (.agg row)∧row=(stl s' A' c' D' d' G' g' B' bc' sa' sc' ca' cc')∧StM s' A' c' D' d' G' g' B' bc' sa' sc' ca' cc' (fun q=>(S q∨w.heap.size≤q)∧q<w'.heap.size) w'∧Below w.heap.size w w'
theorem st_ret {S:Nat→Prop} {s':CSt} {w W:World} {rb:Nat} {row:Array Value} {A' D' G' B':Option Addr} {c' d' g' bc':Nat} {sa' ca':Nat→Option Addr} {sc' cc':Nat→Nat} (hR:row=(stl s' A' c' D' d' G' g' B' bc' sa' sc' ca' cc')) (hb:w.heap.size≤rb) (hB:Below w.heap.size w W)
  (hM:StM s' A' c' D' d' G' g' B' bc' sa' sc' ca' cc' (fun q=>(S q∨w.heap.size≤q)∧q<W.heap.size∧q≠rb) W):StRet S s' w (.returned (.agg row)) (W.setRow rb row) :=
 ⟨row,A',c',D',d',G',g',B',bc',sa',sc',ca',cc',rfl,hR,hM.keep (fun q hq=>setRow_other W rb q row hq.2.2) (fun q hq=>⟨hq.1,by rw [setRow_size];exact hq.2.1⟩),below_setRow hB hb row⟩
set_option maxRecDepth 100000 in
theorem st_all {s':CSt} {row:Array Value} {A' D' G' B':Option Addr} {c' d' g' bc':Nat} {sa' ca':Nat→Option Addr} {sc' cc':Nat→Nat} (hR:row=(stl s' A' c' D' d' G' g' B' bc' sa' sc' ca' cc')):row.all (·.oneCell')=true∧(Tryz.prog.info? 79).map (·.size)=some row.size:=by
 subst hR
 exact⟨by simp [stl,Value.oneCell'],by kernel_rfl⟩
theorem StM.mk2 {s s':CSt} {A D G B A' D' G':Option Addr} {c d g bc c' d' g':Nat} {sa ca:Nat→Option Addr} {sc cc:Nat→Nat} {S:Nat→Prop} {w W:World} {rb:Nat} (h:StM s A c D d G g B bc sa sc ca cc (fun q=>S q∧q<w.heap.size) w)
  (hc:ClAt s'.c A' c' D' d' G' g' (fun q=>(S q∨w.heap.size≤q)∧q<W.heap.size∧q≠rb) W) (hb:Below w.heap.size w W) (hr:∀ q,q<w.heap.size→q≠rb) (h1:s'.cur=s.cur) (h2:s'.sn=s.sn) (h3:s'.cl=s.cl) :
  StM s' A' c' D' d' G' g' B bc sa sc ca cc (fun q=>(S q∨w.heap.size≤q)∧q<W.heap.size∧q≠rb) W:=by
 have hk:∀ q,(S q∧q<w.heap.size)→W.heap[q]? = w.heap[q]? := fun q hq=>hb.block q hq.2
 have hS:∀ q,(S q∧q<w.heap.size)→(S q∨w.heap.size≤q)∧q<W.heap.size∧q≠rb:=fun q hq=>⟨Or.inl hq.1,by have:=hb.size;have:=hq.2;omega,hr q hq.2⟩
 refine⟨hc, ?_, ?_, ?_⟩
 ·rw [h1];exact⟨h.cur.1,h.cur.2.1,(h.cur.2.2.blk hk).more hS⟩
 ·rw [h2];exact fun i hi=>(h.sns i hi).keep hk hS
 ·rw [h3];exact fun i hi=>(h.cli i hi).keep hk hS
structure ClN (lo t:Nat) (x:Cls) (A:Option Addr) (c:Nat) (D:Option Addr) (d:Nat) (G:Option Addr) (g:Nat) (W:World):Prop where
 row:W.heap[t]? = some (.cells #[.slice A x.1.1.length c,.slice D x.1.2.length d,.slice G x.2.length g] 29 (0,0))
 at_:ClAt x A c D d G g (fun q=>lo≤q∧q≠t∧q<W.heap.size) W
def ClNA (lo t:Nat) (x:Cls) (A:Option Addr) (c:Nat) (D:Option Addr) (d:Nat) (G:Option Addr) (g:Nat) (W:World):Prop:=ClAt x A c D d G g (fun q=>lo≤q∧q≠t∧q<W.heap.size) W
theorem ClN.mk_ {S:Nat→Prop} {x:Cls} {A D G:Option Addr} {c d g:Nat} {W W':World} (h:ClAt x A c D d G g S W) (hk:∀ q,S q→W'.heap[q]? = W.heap[q]?) {lo t:Nat} (hS:∀ q,S q→lo≤q∧q≠t∧q<W'.heap.size):ClNA lo t x A c D d G g W':=h.keep hk hS
theorem ClN.store {lo t:Nat} {x:Cls} {A D G:Option Addr} {c d g:Nat} {W:World} {c0 c1 c2:Value} (h:ClNA lo t x A c D d G g W) (hr:W.heap[t]? = some (.cells #[c0,c1,c2] 29 (0,0))):ClN lo t x A c D d G g (sw3 W t (.slice A x.1.1.length c) (.slice D x.1.2.length d) (.slice G x.2.length g)) :=
 ⟨sw3_row hr _ _ _,h.keep (fun q hq=>sw3_other hq.2.1 _ _ _) (fun q hq=>⟨hq.1,hq.2.1,by rw [sw3_sz];exact hq.2.2⟩)⟩
theorem ClN.below {lo t:Nat} {x:Cls} {A D G:Option Addr} {c d g:Nat} {W W':World} (h:ClN lo t x A c D d G g W) (hb:Below W.heap.size W W'):ClN lo t x A c D d G g W' :=
 ⟨(hb.block t (Array.getElem?_eq_some_iff.1 h.row).1).trans h.row,h.at_.keep (fun q hq=>hb.block q hq.2.2) (fun q hq=>⟨hq.1,hq.2.1,by have:=hq.2.2;have:=hb.size;omega⟩)⟩
section
variable {a:Int} {k:Nat} {s:CSt} {A D G:Option Addr} {c d g:Nat} {W:World} {x:Cls} {n:Int}
theorem csDelete (h:CInv [a,4] k s) (ha:1≤a∧a≤12) (hk:k≤1000) (hc:ClAt s.c A c D d G g (Bl W.heap.size) W) {nm:ByteArray} (hr:cDel s.c nm=x) (he:cfE s.c nm=n) :
  Calls Tryz.prog 24 #[.agg #[.slice A s.c.1.1.length c,.slice D s.c.1.2.length d,.slice G s.c.2.length g],.string nm] W (RetCl x n W):=by
 have h:=clDelete_any A D G c d g _ _ _ s.c.1.1 s.c.1.2 s.c.2 nm W rfl rfl rfl hc.im.2.2 hc.sn.2.2 hc.cl.2.2 (h.lim ha hk).1
 rw [show ((s.c.1.1,s.c.1.2),s.c.2)=s.c from rfl,hr,he] at h
 exact h
theorem csCreate (h:CInv [a,4] k s) (ha:1≤a∧a≤12) (hk:k≤1000) (hc:ClAt s.c A c D d G g (Bl W.heap.size) W) {nm:ByteArray} {num:Int} (hn:nm.size≤maxLen) (hi:I64 num) (hr:creS s.c nm num=x) (he:creE s.c nm num=n) :
  Calls Tryz.prog 12 #[.agg #[.slice A s.c.1.1.length c,.slice D s.c.1.2.length d,.slice G s.c.2.length g],.string nm,.int .i64 num] W (RetCl x n W):=by
 have h:=clCreate_any A D G c d g _ _ _ s.c.1.1 s.c.1.2 s.c.2 nm num W rfl rfl rfl hc.im.2.2 hc.sn.2.2 hc.cl.2.2 (h.lim ha hk).1 hn hi
 rw [show ((s.c.1.1,s.c.1.2),s.c.2)=s.c from rfl,hr,he] at h
 exact h
theorem csWrite (h:CInv [a,4] k s) (ha:1≤a∧a≤12) (hk:k≤1000) (hc:ClAt s.c A c D d G g (Bl W.heap.size) W) {nm:ByteArray} {v st:Int} {data:List Sec} {Dw:Option Addr} {dw wl:Nat} (hwl:data.length=wl) (h4:SlAt encSec W (Bl W.heap.size) Dw data) (hvs:I64 v∧I64 st) (hdl:wl≤1000) (hdc:wl≤dw∧dw≤maxLen) (hr:wrS s.c nm (v,st,data)=x) (he:wrE s.c nm (v,st,data)=n) :
  Calls Tryz.prog 19 #[.agg #[.slice A s.c.1.1.length c,.slice D s.c.1.2.length d,.slice G s.c.2.length g],.string nm,.agg #[.int .i64 v,.int .i64 st,.slice Dw wl dw]] W (RetCl x n W):=by
 have h:=clWrite_any A D G Dw c d g _ _ _ dw wl s.c.1.1 s.c.1.2 s.c.2 nm v st data W rfl rfl rfl hwl hc.im.2.2 hc.sn.2.2 hc.cl.2.2 h4 (h.lim ha hk).1 hvs (by omega) hdc
 rw [show ((s.c.1.1,s.c.1.2),s.c.2)=s.c from rfl,hr,he] at h
 exact h
end
set_option maxHeartbeats 8000000 in
set_option maxRecDepth 100000 in
theorem sclone5_any (a:Int) (k i:Nat) (s:CSt) (A D G B Dw:Option Addr) (c d g bc dw wl:Nat) (sa:Nat→Option Addr) (sc:Nat→Nat) (ca:Nat→Option Addr) (cc:Nat→Nat) (S:Nat→Prop) (row:Array Value) (hR:row=(stl s A c D d G g B bc sa sc ca cc)) (kd wh v st:Int) (data:List Sec) (w:World) (ha:1≤a∧a≤12) (hk:k≤1000) (h:CInv [a,4] k s) (hM:StM s A c D d G g B bc sa sc ca cc (fun q=>S q∧q<w.heap.size) w)
  (hkd:0≤kd∧kd<256) (hwh:0≤wh∧wh<256) (hi:wh % 4=i) (hwl:data.length=wl) (h4:SlAt encSec w (Bl w.heap.size) Dw data) (hvs:I64 v∧I64 st) (hdl:wl≤1000) (hdc:wl≤dw∧dw≤maxLen) (hk3:kd % 6=5) :
  Calls Tryz.prog 138 #[.agg row,.agg #[.int .u8 kd,.int .u8 wh,.int .i64 v,.int .i64 st,.slice Dw wl dw]] w (StRet S (cStep s (kd,wh,(v,st,data))) w):=by
 obtain⟨sb,hsb⟩:∃ sb,w.heap.size=sb:=⟨_,rfl⟩
 have hi4:i<4:=by omega
 have hii:(0:Int)≤i∧(i:Int)<4:=by omega
 have hi0:(0:Int)≤i:=by omega
 have hi9:(i:Int)<4:=by omega
 have hmod:wh.tmod 4=(i:Int):=by rw [Int.tmod_eq_emod_of_nonneg hwh.1];exact hi
 obtain⟨kr,hkr⟩:∃ kr,kd % 6=kr:=⟨_,rfl⟩
 have hmod6:kd.tmod 6=kr:=by rw [Int.tmod_eq_emod_of_nonneg hkd.1];exact hkr
 obtain⟨W0,hW0⟩:∃ W0,((w.alloc (.cells row 79)).alloc (.cells #[.int .u8 kd,.int .u8 wh,.int .i64 v,.int .i64 st,.slice Dw wl dw] 149)).alloc (.cells #[.slice none 0 0,.slice none 0 0,.slice none 0 0,.slice none 0 0,.slice none 0 0,.slice none 0 0,.slice none 0 0,.slice none 0 0,.slice none 0 0,.slice none 0 0,.slice none 0 0,.slice none 0 0,.slice none 0 0,.slice none 0 0,.slice none 0 0,.slice none 0 0,.slice none 0 0,.slice none 0 0,.slice none 0 0,.slice none 0 0,.slice none 0 0,.slice none 0 0,.slice none 0 0,.slice none 0 0,.slice none 0 0,.slice none 0 0,.slice none 0 0,.slice none 0 0,.slice none 0 0,.slice none 0 0,.slice none 0 0,.slice none 0 0,.slice none 0 0,.slice none 0 0,.slice none 0 0,.slice none 0 0,.slice none 0 0,.slice none 0 0,.slice none 0 0,.slice none 0 0,.slice none 0 0,.slice none 0 0,.slice none 0 0,.slice none 0 0,.int .i64 0,.slice none 0 0,.slice none 0 0,.slice none 0 0,.slice none 0 0,.bool false,.bool false,.bool false,.bool false,.bool false] 79)=W0:=⟨_,rfl⟩
 have hB0:Below w.heap.size w W0:=by rw [← hW0];exact ext_alloc (ext_alloc (ext_alloc (Below.refl _ _)))
 have hz0:sb+1+1<W0.heap.size:=by rw [← hW0, ← hsb];simp
 have hrow:W0.heap[sb]? = some (.cells row 79 (0,0)):=by rw [← hW0, ← hsb];exact (Below.heap_alloc _ _ _ (by simp <;> omega)).trans ((Below.heap_alloc _ _ _ (by simp)).trans (heap_alloc_new _ _))
 have hev:W0.heap[sb+1]? = some (.cells #[.int .u8 kd,.int .u8 wh,.int .i64 v,.int .i64 st,.slice Dw wl dw] 149 (0,0)):=by rw [← hW0, ← hsb];exact (Below.heap_alloc _ _ _ (by simp)).trans (heap_new2 _ _ _)
 have hres:W0.heap[sb+1+1]? = some (.cells #[.slice none 0 0,.slice none 0 0,.slice none 0 0,.slice none 0 0,.slice none 0 0,.slice none 0 0,.slice none 0 0,.slice none 0 0,.slice none 0 0,.slice none 0 0,.slice none 0 0,.slice none 0 0,.slice none 0 0,.slice none 0 0,.slice none 0 0,.slice none 0 0,.slice none 0 0,.slice none 0 0,.slice none 0 0,.slice none 0 0,.slice none 0 0,.slice none 0 0,.slice none 0 0,.slice none 0 0,.slice none 0 0,.slice none 0 0,.slice none 0 0,.slice none 0 0,.slice none 0 0,.slice none 0 0,.slice none 0 0,.slice none 0 0,.slice none 0 0,.slice none 0 0,.slice none 0 0,.slice none 0 0,.slice none 0 0,.slice none 0 0,.slice none 0 0,.slice none 0 0,.slice none 0 0,.slice none 0 0,.slice none 0 0,.slice none 0 0,.int .i64 0,.slice none 0 0,.slice none 0 0,.slice none 0 0,.slice none 0 0,.bool false,.bool false,.bool false,.bool false,.bool false] 79 (0,0)):=by rw [← hW0, ← hsb];exact heap_new3 _ _ _ _
 have HW0:=Lib.hid hW0
 have HSB:=Lib.hid hsb
 have HM0:=Lib.hid hM
 have HROW:=Lib.hid hrow
 have HEV:=Lib.hid hev
 have HRES:=Lib.hid hres
 have hwsb:w.heap.size≤sb∧sb≤w.heap.size:=by omega
 have HC5:Hid (∀ W,Below W0.heap.size W0 W→W.cell? ⟨sb,0,none⟩=some (.slice A s.c.1.1.length c)∧W.cell? ⟨sb,1,none⟩=some (.slice D s.c.1.2.length d)∧W.cell? ⟨sb,2,none⟩=some (.slice G s.c.2.length g)∧W.cell? ⟨sb,44,none⟩=some (.int .i64 (s.nw:Nat))):=fun W hb=>by
  have hrow2:=(hb.block sb (by omega)).trans hrow
  rw [hR] at hrow2
  obtain⟨h0,h1,h2,h3,h4,h5,h6,h7,h8,h9,h10,h11,h12,h13,h14,h15,h16,h17,h18,h19,h20,h21,h22,h23,h24,h25,h26,h27,h28,h29,h30,h31,h32,h33,h34,h35,h36,h37,h38,h39,h40,h41,h42,h43,h44,h45,h46,h47,h48,h49,h50,h51,h52,h53,hf⟩:=blk54 hrow2
  exact⟨h0,h1,h2,h44⟩
 have HCI:Hid (∀ W,Below W0.heap.size W0 W→(W.cell? ⟨sb,53,none⟩=some (.bool true)∧∀ j,W.frozen? ⟨sb,j,none⟩=false)∧W.cell? ⟨sb,45+i,none⟩=some (.slice (ca i) (s.cl i).length (cc i))∧W.cell? ⟨sb,49+i,none⟩=some (.bool (s.th i))):=fun W hb=>by
  have hrow2:=(hb.block sb (by omega)).trans hrow
  rw [hR] at hrow2
  obtain⟨h0,h1,h2,h3,h4,h5,h6,h7,h8,h9,h10,h11,h12,h13,h14,h15,h16,h17,h18,h19,h20,h21,h22,h23,h24,h25,h26,h27,h28,h29,h30,h31,h32,h33,h34,h35,h36,h37,h38,h39,h40,h41,h42,h43,h44,h45,h46,h47,h48,h49,h50,h51,h52,h53,hf⟩:=blk54 hrow2
  refine⟨⟨h53,hf⟩, ?_⟩
  clear hb hrow hrow2 hM hi hmod HM0 HROW
  match i,hi4 with
  | 0,_=>exact⟨h45,h49⟩
  | 1,_=>exact⟨h46,h50⟩
  | 2,_=>exact⟨h47,h51⟩
  | 3,_=>exact⟨h48,h52⟩
 have HCL:Hid (∀ W,Below W0.heap.size W0 W→ClAt s.c A c D d G g (Bl W.heap.size) W):=fun W hb=>hM.cls.keep (fun q hq=>(hB0.trans (hb.mono hB0.size)).block q hq.2) (fun q hq=>by have:=hq.2;have:=hB0.size;have:=hb.size;show q<W.heap.size;omega)
 have H4:Hid (∀ W,Below W0.heap.size W0 W→SlAt encSec W (Bl W.heap.size) Dw data):=fun W hb=>h4.fwd (hB0.trans (hb.mono hB0.size))
 have HEC:Hid (∀ W,Below W0.heap.size W0 W→W.cell? ⟨sb+1,2,none⟩=some (.int .i64 v)∧W.cell? ⟨sb+1,3,none⟩=some (.int .i64 st)∧W.cell? ⟨sb+1,4,none⟩=some (.slice Dw wl dw)):=fun W hb=>by
  have h:=(hb.block (sb+1) (by omega)).trans hev
  exact⟨cell_of_row W (sb+1) 2 _ _ _ h,cell_of_row W (sb+1) 3 _ _ _ h,cell_of_row W (sb+1) 4 _ _ _ h⟩
 have ev0:W0.cell? ⟨sb+1,0,none⟩=some (.int .u8 kd):=cell_of_row W0 (sb+1) 0 _ _ _ hev
 have ev1:W0.cell? ⟨sb+1,1,none⟩=some (.int .u8 wh):=cell_of_row W0 (sb+1) 1 _ _ _ hev
 have HR:=Lib.hid hR
 clear hrow hres hM hev hR
 go_enter Tryz.func138,Tryz.ntmps138
 go_upto_region 3 with (fail)
 clear hW0 ev0 ev1
 try rw [HW0.out]
 clear HW0
 obtain rfl:kr=5:=by omega
 obtain⟨x,hx⟩:∃ x,cDel s.c (nmC i)=x:=⟨_,rfl⟩
 obtain⟨n,hn⟩:∃ n,cfE s.c (nmC i)=n:=⟨_,rfl⟩
 have HDL:=Lib.hid (fun W (hb:Below W0.heap.size W0 W)=>csDelete h ha hk (HCL.out W hb) hx hn)
 have hd:=h.del hi4
 rw [hn] at hd
 have HX:=Lib.hid hx
 have HD:=Lib.hid hd
 have hSw:Below W0.heap.size W0 W0.drew:=(Below.refl _ _).drew
 clear hx hn hd
 go_upto_region 21 with (fail)
 go_cut [10,11] (fun p f wx=>f = .int .i64 n∧(∃ tz,p = .pointer (some ⟨tz,0,none⟩)∧W0.heap.size≤tz∧∃ A5 c5 D5 d5 G5 g5,ClN W0.heap.size tz x A5 c5 D5 d5 G5 g5 wx)∧Below W0.heap.size W0 wx)
 case first =>
  refine wp_region_U (fun W'=>Below W0.heap.size W0 W') 11 (by kernel_rfl) ?_
  refine wpAnyU_takeD (i:=0) (v := ?_) rfl rfl (by kernel_rfl) (by kernel_rfl) (by kernel_rfl) (by kernel_rfl) (fun _ _ _ h=>h) (by rfl) ?_ hSw ?_
  rotate_left 1
  ·intro W9 hW9
   try dsimp only at hW9
   obtain _:=trivial
   go_simp
   try with_reducible rfl
  try simp only [List.setIfInBounds_toArray,List.set_cons_zero,List.set_cons_succ]
  refine wpAnyU_takeD (i:=1) (v := ?_) rfl rfl (by kernel_rfl) (by kernel_rfl) (by kernel_rfl) (by kernel_rfl) (fun _ _ _ h=>h) (by rfl) ?_ hSw ?_
  rotate_left 1
  ·intro W9 hW9
   try dsimp only at hW9
   obtain⟨q0,q1,q2,q3⟩:=HC5.out W9 hW9
   go_simp
   try with_reducible rfl
  try simp only [List.setIfInBounds_toArray,List.set_cons_zero,List.set_cons_succ]
  refine wpAnyU_takeD (i:=2) (v := ?_) rfl rfl (by kernel_rfl) (by kernel_rfl) (by kernel_rfl) (by kernel_rfl) (fun _ _ _ h=>h) (by rfl) ?_ hSw ?_
  rotate_left 1
  ·intro W9 hW9
   try dsimp only at hW9
   obtain _:=trivial
   go_simp
   try with_reducible rfl
  try simp only [List.setIfInBounds_toArray,List.set_cons_zero,List.set_cons_succ]
  refine wpAnyU_two (i:=3) (j:=8) (by kernel_rfl) rfl rfl rfl rfl (fun K hK => ?_) (fun K hK => ?_)
  ·go_wp2_with fail
   refine (name_any i hi4 _).mono ?_
   rintro e w6 ⟨rfl,rfl⟩
   refine hK.out _ _ (fun _=>hSw) ?_
   clear hK K
   try simp only [Act.put,List.setIfInBounds_toArray,List.set_cons_zero,List.set_cons_succ]
   refine wpAnyU_two (i:=4) (j:=8) (by kernel_rfl) rfl rfl rfl rfl (fun K hK => ?_) (fun K hK => ?_)
   ·go_wp2_with fail
    refine (HDL.out _ hSw).mono ?_
    rintro e w6 ⟨A5,c5,D5,d5,G5,g5,rfl,hat,hb6⟩
    have hS6:=hSw.trans (hb6.mono hSw.size)
    have hsz:=hSw.size
    refine hK.out _ _ (fun _=>hS6) ?_
    clear hK K
    try simp only [Act.put,List.setIfInBounds_toArray,List.set_cons_zero,List.set_cons_succ]
    clear hSw
    have hSw:=hS6
    refine wpAnyU_takeD (i:=5) (v := ?_) rfl rfl (by kernel_rfl) (by kernel_rfl) (by kernel_rfl) (by kernel_rfl) (fun _ _ _ h=>h) (by rfl) ?_ hSw ?_
    rotate_left 1
    ·intro W9 hW9
     try dsimp only at hW9
     obtain _:=trivial
     go_simp
     try with_reducible rfl
    try simp only [List.setIfInBounds_toArray,List.set_cons_zero,List.set_cons_succ]
    refine wpAnyU_takeD (i:=6) (v := ?_) rfl rfl (by kernel_rfl) (by kernel_rfl) (by kernel_rfl) (by kernel_rfl) (fun _ _ _ h=>h) (by rfl) ?_ hSw ?_
    rotate_left 1
    ·intro W9 hW9
     try dsimp only at hW9
     obtain _:=trivial
     go_simp
     try with_reducible rfl
    try simp only [List.setIfInBounds_toArray,List.set_cons_zero,List.set_cons_succ]
    refine wpAnyU_takeD (i:=7) (v := ?_) rfl rfl (by kernel_rfl) (by kernel_rfl) (by kernel_rfl) (by kernel_rfl) (fun _ _ _ h=>h) (by rfl) ?_ hSw ?_
    rotate_left 1
    ·intro W9 hW9
     try dsimp only at hW9
     obtain _:=trivial
     go_simp
     try with_reducible rfl
    try simp only [List.setIfInBounds_toArray,List.set_cons_zero,List.set_cons_succ]
    have hS7:Below W0.heap.size W0 (w6.alloc (.cells #[.slice none 0 0,.slice none 0 0,.slice none 0 0] 29)):=hS6.alloc hS6.size _
    have hrz:(w6.alloc (.cells #[.slice none 0 0,.slice none 0 0,.slice none 0 0] 29)).heap[w6.heap.size]? = some (.cells #[.slice none 0 0,.slice none 0 0,.slice none 0 0] 29 (0,0)):=heap_alloc_new _ _
    have hatz:=ClN.mk_ hat (fun q hq=>Below.heap_alloc w6 (.cells #[.slice none 0 0,.slice none 0 0,.slice none 0 0] 29) q hq.2) (t:=w6.heap.size) (lo:=W0.heap.size) (fun q hq=>⟨by have:=hq.1;omega,by have:=hq.2;omega,by have:=hq.2;simp;omega⟩)
    have htz:W0.heap.size≤w6.heap.size:=hS6.size
    refine wpAnyU_op (i:=8) (by kernel_rfl) rfl rfl (fun K hK => ?_)
    go_simp
    refine hK.out _ _ (fun _=>hS7) ?_
    clear hK K
    try simp only [Act.put,List.setIfInBounds_toArray,List.set_cons_zero,List.set_cons_succ]
    change wpAnyU _ _ _ _ _ _ _ _ _ (w6.alloc (.cells #[.slice none 0 0,.slice none 0 0,.slice none 0 0] 29))
    generalize w6.alloc (.cells #[.slice none 0 0,.slice none 0 0,.slice none 0 0] 29)=w7 at hS7 hrz hatz ⊢
    generalize w6.heap.size=tz at hrz hatz htz ⊢
    clear hat hb6 hS6 hSw
    obtain⟨v0,v1,v2,vf⟩:=blk3 hrz
    have hSs:=sw3_below hS7 htz (.slice A5 (x).1.1.length c5) (.slice D5 (x).1.2.length d5) (.slice G5 (x).2.length g5)
    have hcl:=ClN.store hatz hrz
    refine wpAnyU_op (i:=9) (by kernel_rfl) rfl rfl (fun K hK => ?_)
    go_simp
    refine hK.out _ _ (fun _=>hSs) ?_
    clear hK K
    try simp only [Act.put,List.setIfInBounds_toArray,List.set_cons_zero,List.set_cons_succ]
    refine wpAnyU_op (i:=10) (by kernel_rfl) rfl rfl (fun K hK => ?_)
    go_simp
    refine hK.out _ _ (fun _=>hSs) ?_
    clear hK K
    try simp only [Act.put,List.setIfInBounds_toArray,List.set_cons_zero,List.set_cons_succ]
    refine wpAnyU_done (by kernel_rfl) ?_ _
    clear v0 v1 v2 vf
    go_wp2
    go_meet
    exact⟨rfl,⟨_,rfl,htz,A5,c5,D5,d5,G5,g5,hcl⟩,hSs⟩
   ·have hS7:Below W0.heap.size W0 (W0.drew.alloc (.cells #[.slice none 0 0,.slice none 0 0,.slice none 0 0] 29)):=hSw.alloc hSw.size _
    have hrz:(W0.drew.alloc (.cells #[.slice none 0 0,.slice none 0 0,.slice none 0 0] 29)).heap[W0.heap.size]? = some (.cells #[.slice none 0 0,.slice none 0 0,.slice none 0 0] 29 (0,0)):=heap_alloc_new W0.drew _
    have htz:W0.heap.size≤W0.heap.size:=hSw.size
    go_simp
    refine hK.out _ _ (fun _=>hS7) ?_
    clear hK K
    try simp only [Act.put,List.setIfInBounds_toArray,List.set_cons_zero,List.set_cons_succ]
    change wpAnyU _ _ _ _ _ _ _ _ _ (W0.drew.alloc (.cells #[.slice none 0 0,.slice none 0 0,.slice none 0 0] 29))
    generalize W0.drew.alloc (.cells #[.slice none 0 0,.slice none 0 0,.slice none 0 0] 29)=w7 at hS7 hrz ⊢
    refine wpAnyU_op (i:=4) (by kernel_rfl) rfl rfl (fun K hK => ?_)
    go_wp2_with fail
    refine (HDL.out _ hS7).mono ?_
    rintro e w8 ⟨A5,c5,D5,d5,G5,g5,rfl,hat,hb8⟩
    have hl7:=(Array.getElem?_eq_some_iff.1 hrz).1
    have hS8:=hS7.trans (hb8.mono hS7.size)
    replace hrz:=(hb8.block _ hl7).trans hrz
    have hatz:=ClN.mk_ hat (fun q _=>rfl) (t:=W0.heap.size) (lo:=W0.heap.size) (fun q hq=>⟨by have:=hq.1;omega,by have:=hq.1;omega,hq.2⟩)
    refine hK.out _ _ (fun _=>hS8) ?_
    clear hK K
    try simp only [Act.put,List.setIfInBounds_toArray,List.set_cons_zero,List.set_cons_succ]
    clear hSw hS7 hl7 hat hb8
    have hSw:=hS8
    refine wpAnyU_takeD (i:=5) (v := ?_) rfl rfl (by kernel_rfl) (by kernel_rfl) (by kernel_rfl) (by kernel_rfl) (fun _ _ _ h=>h) (by rfl) ?_ hSw ?_
    rotate_left 1
    ·intro W9 hW9
     try dsimp only at hW9
     obtain _:=trivial
     go_simp
     try with_reducible rfl
    try simp only [List.setIfInBounds_toArray,List.set_cons_zero,List.set_cons_succ]
    refine wpAnyU_takeD (i:=6) (v := ?_) rfl rfl (by kernel_rfl) (by kernel_rfl) (by kernel_rfl) (by kernel_rfl) (fun _ _ _ h=>h) (by rfl) ?_ hSw ?_
    rotate_left 1
    ·intro W9 hW9
     try dsimp only at hW9
     obtain _:=trivial
     go_simp
     try with_reducible rfl
    try simp only [List.setIfInBounds_toArray,List.set_cons_zero,List.set_cons_succ]
    refine wpAnyU_takeD (i:=7) (v := ?_) rfl rfl (by kernel_rfl) (by kernel_rfl) (by kernel_rfl) (by kernel_rfl) (fun _ _ _ h=>h) (by rfl) ?_ hSw ?_
    rotate_left 1
    ·intro W9 hW9
     try dsimp only at hW9
     obtain _:=trivial
     go_simp
     try with_reducible rfl
    try simp only [List.setIfInBounds_toArray,List.set_cons_zero,List.set_cons_succ]
    clear hSw
    obtain⟨v0,v1,v2,vf⟩:=blk3 hrz
    have hSs:=sw3_below hS8 htz (.slice A5 (x).1.1.length c5) (.slice D5 (x).1.2.length d5) (.slice G5 (x).2.length g5)
    have hcl:=ClN.store hatz hrz
    refine wpAnyU_op (i:=9) (by kernel_rfl) rfl rfl (fun K hK => ?_)
    go_simp
    refine hK.out _ _ (fun _=>hSs) ?_
    clear hK K
    try simp only [Act.put,List.setIfInBounds_toArray,List.set_cons_zero,List.set_cons_succ]
    refine wpAnyU_op (i:=10) (by kernel_rfl) rfl rfl (fun K hK => ?_)
    go_simp
    refine hK.out _ _ (fun _=>hSs) ?_
    clear hK K
    try simp only [Act.put,List.setIfInBounds_toArray,List.set_cons_zero,List.set_cons_succ]
    refine wpAnyU_done (by kernel_rfl) ?_ _
    clear v0 v1 v2 vf
    go_wp2
    go_meet
    exact⟨rfl,⟨_,rfl,htz,A5,c5,D5,d5,G5,g5,hcl⟩,hSs⟩
  ·have hS7:Below W0.heap.size W0 (W0.drew.alloc (.cells #[.slice none 0 0,.slice none 0 0,.slice none 0 0] 29)):=hSw.alloc hSw.size _
   have hrz:(W0.drew.alloc (.cells #[.slice none 0 0,.slice none 0 0,.slice none 0 0] 29)).heap[W0.heap.size]? = some (.cells #[.slice none 0 0,.slice none 0 0,.slice none 0 0] 29 (0,0)):=heap_alloc_new W0.drew _
   have htz:W0.heap.size≤W0.heap.size:=hSw.size
   go_simp
   refine hK.out _ _ (fun _=>hS7) ?_
   clear hK K
   try simp only [Act.put,List.setIfInBounds_toArray,List.set_cons_zero,List.set_cons_succ]
   change wpAnyU _ _ _ _ _ _ _ _ _ (W0.drew.alloc (.cells #[.slice none 0 0,.slice none 0 0,.slice none 0 0] 29))
   generalize W0.drew.alloc (.cells #[.slice none 0 0,.slice none 0 0,.slice none 0 0] 29)=w7 at hS7 hrz ⊢
   refine wpAnyU_op (i:=3) (by kernel_rfl) rfl rfl (fun K hK => ?_)
   go_wp2_with fail
   refine (name_any i hi4 _).mono ?_
   rintro e w6 ⟨rfl,rfl⟩
   refine hK.out _ _ (fun _=>hS7) ?_
   clear hK K
   try simp only [Act.put,List.setIfInBounds_toArray,List.set_cons_zero,List.set_cons_succ]
   refine wpAnyU_op (i:=4) (by kernel_rfl) rfl rfl (fun K hK => ?_)
   go_wp2_with fail
   refine (HDL.out _ hS7).mono ?_
   rintro e w8 ⟨A5,c5,D5,d5,G5,g5,rfl,hat,hb8⟩
   have hl7:=(Array.getElem?_eq_some_iff.1 hrz).1
   have hS8:=hS7.trans (hb8.mono hS7.size)
   replace hrz:=(hb8.block _ hl7).trans hrz
   have hatz:=ClN.mk_ hat (fun q _=>rfl) (t:=W0.heap.size) (lo:=W0.heap.size) (fun q hq=>⟨by have:=hq.1;omega,by have:=hq.1;omega,hq.2⟩)
   refine hK.out _ _ (fun _=>hS8) ?_
   clear hK K
   try simp only [Act.put,List.setIfInBounds_toArray,List.set_cons_zero,List.set_cons_succ]
   clear hSw hS7 hl7 hat hb8
   have hSw:=hS8
   refine wpAnyU_takeD (i:=5) (v := ?_) rfl rfl (by kernel_rfl) (by kernel_rfl) (by kernel_rfl) (by kernel_rfl) (fun _ _ _ h=>h) (by rfl) ?_ hSw ?_
   rotate_left 1
   ·intro W9 hW9
    try dsimp only at hW9
    obtain _:=trivial
    go_simp
    try with_reducible rfl
   try simp only [List.setIfInBounds_toArray,List.set_cons_zero,List.set_cons_succ]
   refine wpAnyU_takeD (i:=6) (v := ?_) rfl rfl (by kernel_rfl) (by kernel_rfl) (by kernel_rfl) (by kernel_rfl) (fun _ _ _ h=>h) (by rfl) ?_ hSw ?_
   rotate_left 1
   ·intro W9 hW9
    try dsimp only at hW9
    obtain _:=trivial
    go_simp
    try with_reducible rfl
   try simp only [List.setIfInBounds_toArray,List.set_cons_zero,List.set_cons_succ]
   refine wpAnyU_takeD (i:=7) (v := ?_) rfl rfl (by kernel_rfl) (by kernel_rfl) (by kernel_rfl) (by kernel_rfl) (fun _ _ _ h=>h) (by rfl) ?_ hSw ?_
   rotate_left 1
   ·intro W9 hW9
    try dsimp only at hW9
    obtain _:=trivial
    go_simp
    try with_reducible rfl
   try simp only [List.setIfInBounds_toArray,List.set_cons_zero,List.set_cons_succ]
   clear hSw
   obtain⟨v0,v1,v2,vf⟩:=blk3 hrz
   have hSs:=sw3_below hS8 htz (.slice A5 (x).1.1.length c5) (.slice D5 (x).1.2.length d5) (.slice G5 (x).2.length g5)
   have hcl:=ClN.store hatz hrz
   refine wpAnyU_op (i:=9) (by kernel_rfl) rfl rfl (fun K hK => ?_)
   go_simp
   refine hK.out _ _ (fun _=>hSs) ?_
   clear hK K
   try simp only [Act.put,List.setIfInBounds_toArray,List.set_cons_zero,List.set_cons_succ]
   refine wpAnyU_op (i:=10) (by kernel_rfl) rfl rfl (fun K hK => ?_)
   go_simp
   refine hK.out _ _ (fun _=>hSs) ?_
   clear hK K
   try simp only [Act.put,List.setIfInBounds_toArray,List.set_cons_zero,List.set_cons_succ]
   refine wpAnyU_done (by kernel_rfl) ?_ _
   clear v0 v1 v2 vf
   go_wp2
   go_meet
   exact⟨rfl,⟨_,rfl,htz,A5,c5,D5,d5,G5,g5,hcl⟩,hSs⟩
 case rest =>
  obtain⟨rfl,⟨tz,rfl,htz,A5,c5,D5,d5,G5,g5,hcl⟩,hbx⟩:=hcut
  have hrw:=(hbx.block sb (by omega)).trans HROW.out
  have hrr:=(hbx.block (sb+1+1) (by omega)).trans HRES.out
  obtain⟨v0,v1,v2,vf⟩:=blk3 hcl.row
  obtain⟨h0,h1,h2,_⟩:=HC5.out wc hbx
  obtain⟨⟨h53,hf⟩,_,y2⟩:=HCI.out wc hbx
  have HRW:=Lib.hid hrw
  have HRR:=Lib.hid hrr
  have hbw:Below w.heap.size w wc:=hB0.trans (hbx.mono hB0.size)
  clear hrw hrr
  cases hq:s.th i with
  | true =>
    rw [hq] at y2
    obtain⟨rfl,_⟩:=HD.out.2 hq
    have HS:Hid (cStep s (kd,wh,(v,st,data))={ s with c:=x,th:=upd s.th i false }):=by
     have he:evI (kd,wh,(v,st,data))=i:=by unfold evI;simp only;omega
     unfold cStep
     simp only [he]
     rw [if_neg (by omega),if_neg (by omega),if_neg (by omega),if_neg (by omega),if_neg (by omega),if_pos hq,HX.out];exact rfl
    obtain⟨Wn,hWn⟩:∃ W,((((wc.setCell ⟨sb,53,none⟩ (.bool true)).setCell ⟨sb,0,none⟩ (.slice A5 x.1.1.length c5)).setCell ⟨sb,1,none⟩ (.slice D5 x.1.2.length d5)).setCell ⟨sb,2,none⟩ (.slice G5 x.2.length g5)).setCell ⟨sb,49+i,none⟩ (.bool false)=W:=⟨_,rfl⟩
    have r5:=row_set (row_set (row_set (row_set (row_set HRW.out 53 (.bool true)) 0 (.slice A5 x.1.1.length c5)) 1 (.slice D5 x.1.2.length d5)) 2 (.slice G5 x.2.length g5)) (49+i) (.bool false)
    obtain⟨row',hrow'⟩:∃ r,((((row.setIfInBounds 53 (.bool true)).setIfInBounds 0 (.slice A5 x.1.1.length c5)).setIfInBounds 1 (.slice D5 x.1.2.length d5)).setIfInBounds 2 (.slice G5 x.2.length g5)).setIfInBounds (49+i) (.bool false)=r:=⟨_,rfl⟩
    rw [hrow',hWn] at r5
    have HRQ:=Lib.hid (((congrArg (fun r:Array Value=>((((r.setIfInBounds 53 (.bool true)).setIfInBounds 0 (.slice A5 x.1.1.length c5)).setIfInBounds 1 (.slice D5 x.1.2.length d5)).setIfInBounds 2 (.slice G5 x.2.length g5)).setIfInBounds (49+i) (.bool false)) HR.out).symm.trans hrow').symm.trans (row_del (s':={ s with c:=x,th:=upd s.th i false }) hi4 rfl))
    clear hrow'
    have hkN:∀ b,b≠sb→Wn.heap[b]? = wc.heap[b]? := fun b hb=>by
     rw [← hWn]
     exact (heap_setCell_other _ _ _ _ hb).trans ((heap_setCell_other _ _ _ _ hb).trans ((heap_setCell_other _ _ _ _ hb).trans ((heap_setCell_other _ _ _ _ hb).trans (heap_setCell_other _ _ _ _ hb))))
    have hzN:Wn.heap.size=wc.heap.size:=by rw [← hWn];simp [World.setCell]
    have hbN:Below w.heap.size w Wn:=by rw [← hWn];exact ((((hbw.setCell (p:=⟨sb,53,none⟩) hwsb.1 _).setCell (p:=⟨sb,0,none⟩) hwsb.1 _).setCell (p:=⟨sb,1,none⟩) hwsb.1 _).setCell (p:=⟨sb,2,none⟩) hwsb.1 _).setCell (p:=⟨sb,49+i,none⟩) hwsb.1 _
    have HWN:=Lib.hid hWn
    have R5:=Lib.hid r5
    clear hWn r5
    go_upto_region 25 with (fail)
    rw [HWN.out]
    clear HWN h0 h1 h2 h53 hf y2 v0 v1 v2 vf
    have hrN:=(hkN (sb+1+1) (by omega)).trans HRR.out
    have hMN:StM { s with c:=x,th:=upd s.th i false } A5 c5 D5 d5 G5 g5 B bc sa sc ca cc (fun q=>(S q∨w.heap.size≤q)∧q<Wn.heap.size∧q≠sb+1+1) Wn :=
     StM.mk2 (s':={ s with c:=x,th:=upd s.th i false }) HM0.out (hcl.at_.keep (fun q hq=>hkN q (by have:=hq.1;omega)) (fun q hq=>⟨Or.inr (by have:=hq.1;omega),by rw [hzN];exact hq.2.2,by have:=hq.1;omega⟩)) hbN (fun q hq=>by omega) rfl rfl rfl
    have HMN:=Lib.hid hMN
    have HRN:=Lib.hid hrN
    clear hMN hrN hkN hcl
    have HAL:=Lib.hid (st_all (s':={ s with c:=x,th:=upd s.th i false }) (B':=B) (bc':=bc) (sa':=sa) (sc':=sc) (ca':=ca) (cc':=cc) HRQ.out)
    -- the state's row is loaded whole and stored into the result
    go_wp2_with (first | (refine wpList_load_row rfl 79 _ rfl sb rfl 79 row' (0,0) _ R5.out Tryz.underlying79 rfl HAL.out.2 ?_) | (refine wpList_store_row rfl 79 _ _ rfl (sb+1+1) row' rfl rfl 79 _ HRN.out HAL.out.2 (st_size HAL.out.2 (by kernel_rfl) (by kernel_rfl)) HAL.out.1 ?_))
    have hz:=setRow_heap Wn (sb+1+1) _ row' _ _ HRN.out
    have hret:=st_ret (S:=S) (w:=w) (rb:=sb+1+1) (row:=row') HRQ.out (by omega) hbN HMN.out
    generalize Wn.setRow (sb+1+1) row'=W3 at hz hret ⊢
    refine bodyPost_ret (v := .agg row') (results_cell_row (p:=4) (ty:=79) rfl _ _ (sb+1+1) _ row' (0,0) _ rfl hz Tryz.underlying79 rfl HAL.out.2) rfl ?_
    rw [HS.out];exact hret
  | false =>
    rw [hq] at y2
    obtain rfl:=HD.out.1 hq
    have HS:Hid (cStep s (kd,wh,(v,st,data))=s):=by
     have he:evI (kd,wh,(v,st,data))=i:=by unfold evI;simp only;omega
     unfold cStep
     simp only [he]
     rw [if_neg (by omega),if_neg (by omega),if_neg (by omega),if_neg (by omega),if_neg (by omega),if_neg (by rw [hq];decide)];exact rfl
    clear v0 v1 v2 vf hcl
    -- the state as it was, its last cell stored once more (world wc)
    obtain⟨Wn,hWn⟩:∃ W,wc.setCell ⟨sb,53,none⟩ (.bool true)=W:=⟨_,rfl⟩
    have r5:=row_set HRW.out 53 (.bool true)
    have hre:row.setIfInBounds 53 (.bool true)=row:=by rw [HR.out];exact row_53
    rw [hre,hWn] at r5
    have hkN:∀ b,b≠sb→Wn.heap[b]? = wc.heap[b]? := fun b hb=>by rw [← hWn];exact heap_setCell_other _ _ _ _ hb
    have hzN:Wn.heap.size=wc.heap.size:=by rw [← hWn];simp [World.setCell]
    have hbN:Below w.heap.size w Wn:=by rw [← hWn];exact hbw.setCell (p:=⟨sb,53,none⟩) hwsb.1 _
    have HWN:=Lib.hid hWn
    have R5:=Lib.hid r5
    clear hWn r5 hre
    go_upto_region 25 with (fail)
    rw [HWN.out]
    clear HWN
    have hrN:=(hkN (sb+1+1) (by omega)).trans HRR.out
    have hMN:StM s A c D d G g B bc sa sc ca cc (fun q=>(S q∨w.heap.size≤q)∧q<Wn.heap.size∧q≠sb+1+1) Wn :=
     StM.mk2 (s':=s) HM0.out (HM0.out.cls.keep (fun q hq=>hbN.block q hq.2) (fun q hq=>⟨Or.inl hq.1,by have:=hbN.size;have:=hq.2;omega,by have:=hq.2;omega⟩)) hbN (fun q hq=>by omega) rfl rfl rfl
    have HMN:=Lib.hid hMN
    have HRN:=Lib.hid hrN
    clear hMN hrN hkN
    have HAL:=Lib.hid (st_all (s':=s) (B':=B) (bc':=bc) (sa':=sa) (sc':=sc) (ca':=ca) (cc':=cc) HR.out)
    -- the state's row is loaded whole and stored into the result
    go_wp2_with (first | (refine wpList_load_row rfl 79 _ rfl sb rfl 79 row (0,0) _ R5.out Tryz.underlying79 rfl HAL.out.2 ?_) | (refine wpList_store_row rfl 79 _ _ rfl (sb+1+1) row rfl rfl 79 _ HRN.out HAL.out.2 (st_size HAL.out.2 (by kernel_rfl) (by kernel_rfl)) HAL.out.1 ?_))
    have hz:=setRow_heap Wn (sb+1+1) _ row _ _ HRN.out
    have hret:=st_ret (S:=S) (w:=w) (rb:=sb+1+1) (row:=row) HR.out (by omega) hbN HMN.out
    generalize Wn.setRow (sb+1+1) row=W3 at hz hret ⊢
    refine bodyPost_ret (v := .agg row) (results_cell_row (p:=4) (ty:=79) rfl _ _ (sb+1+1) _ row (0,0) _ rfl hz Tryz.underlying79 rfl HAL.out.2) rfl ?_
    rw [HS.out];exact hret
end Go.Proofs.YtgndgkjefgjamaaGreat
namespace Go.Proofs.YtgndgkjefgjamaaGreat
open Go.RowKit Go.Shelf
attribute [local go_sem] Oper.semAt_some

set_option maxHeartbeats 4000000 in
set_option maxRecDepth 100000 in
theorem row_sn {s:CSt} {A D G B:Option Addr} {c d g bc:Nat} {sa ca:Nat→Option Addr} {sc cc:Nat→Nat} {n:Nat} (hn:n<40):((stl s A c D d G g B bc sa sc ca cc):Array Value)[4+n]? = some (.slice (sa n) (s.sn n).length (sc n)):=by
 have h:n=0∨n=1∨n=2∨n=3∨n=4∨n=5∨n=6∨n=7∨n=8∨n=9∨n=10∨n=11∨n=12∨n=13∨n=14∨n=15∨n=16∨n=17∨n=18∨n=19∨n=20∨n=21∨n=22∨n=23∨n=24∨n=25∨n=26∨n=27∨n=28∨n=29∨n=30∨n=31∨n=32∨n=33∨n=34∨n=35∨n=36∨n=37∨n=38∨n=39:=by omega
 rcases h with rfl | rfl | rfl | rfl | rfl | rfl | rfl | rfl | rfl | rfl | rfl | rfl | rfl | rfl | rfl | rfl | rfl | rfl | rfl | rfl | rfl | rfl | rfl | rfl | rfl | rfl | rfl | rfl | rfl | rfl | rfl | rfl | rfl | rfl | rfl | rfl | rfl | rfl | rfl | rfl <;> simp [stl]
set_option maxHeartbeats 4000000 in
set_option maxRecDepth 100000 in
theorem row_cre {s s':CSt} {x:Cls} {i:Nat} (hi:i<4) (hs:s'={ s with c:=x,th:=upd s.th i true,cl:=upd s.cl i (s.sn s.nw) }) {A D G B A5 D5 G5:Option Addr} {c d g bc c5 d5 g5:Nat} {sa ca:Nat→Option Addr} {sc cc:Nat→Nat} :
  ((((((stl s A c D d G g B bc sa sc ca cc):Array Value).setIfInBounds 0 (.slice A5 x.1.1.length c5)).setIfInBounds 1 (.slice D5 x.1.2.length d5)).setIfInBounds 2 (.slice G5 x.2.length g5)).setIfInBounds (49+i) (.bool true)).setIfInBounds (45+i) (.slice (sa s.nw) (s.sn s.nw).length (sc s.nw))=stl s' A5 c5 D5 d5 G5 g5 B bc sa sc (upd ca i (sa s.nw)) (upd cc i (sc s.nw)):=by
 subst hs
 rcases or4 hi with rfl | rfl | rfl | rfl <;> simp [stl,upd]
set_option maxHeartbeats 8000000 in
set_option maxRecDepth 100000 in
theorem sclone0_any (a:Int) (k i:Nat) (s:CSt) (A D G B Dw:Option Addr) (c d g bc dw wl:Nat) (sa:Nat→Option Addr) (sc:Nat→Nat) (ca:Nat→Option Addr) (cc:Nat→Nat) (S:Nat→Prop) (row:Array Value) (hR:row=(stl s A c D d G g B bc sa sc ca cc)) (kd wh v st:Int) (data:List Sec) (w:World) (ha:1≤a∧a≤12) (hk:k≤1000) (h:CInv [a,4] k s) (hM:StM s A c D d G g B bc sa sc ca cc (fun q=>S q∧q<w.heap.size) w)
  (hkd:0≤kd∧kd<256) (hwh:0≤wh∧wh<256) (hi:wh % 4=i) (hwl:data.length=wl) (h4:SlAt encSec w (Bl w.heap.size) Dw data) (hvs:I64 v∧I64 st) (hdl:wl≤1000) (hdc:wl≤dw∧dw≤maxLen) (hk3:kd % 6=0) (hk9:k≤30) :
  Calls Tryz.prog 138 #[.agg row,.agg #[.int .u8 kd,.int .u8 wh,.int .i64 v,.int .i64 st,.slice Dw wl dw]] w (StRet S (cStep s (kd,wh,(v,st,data))) w):=by
 obtain⟨sb,hsb⟩:∃ sb,w.heap.size=sb:=⟨_,rfl⟩
 have hi4:i<4:=by omega
 have hii:(0:Int)≤i∧(i:Int)<4:=by omega
 have hi0:(0:Int)≤i:=by omega
 have hi9:(i:Int)<4:=by omega
 have hmod:wh.tmod 4=(i:Int):=by rw [Int.tmod_eq_emod_of_nonneg hwh.1];exact hi
 obtain⟨kr,hkr⟩:∃ kr,kd % 6=kr:=⟨_,rfl⟩
 have hmod6:kd.tmod 6=kr:=by rw [Int.tmod_eq_emod_of_nonneg hkd.1];exact hkr
 obtain⟨W0,hW0⟩:∃ W0,((w.alloc (.cells row 79)).alloc (.cells #[.int .u8 kd,.int .u8 wh,.int .i64 v,.int .i64 st,.slice Dw wl dw] 149)).alloc (.cells #[.slice none 0 0,.slice none 0 0,.slice none 0 0,.slice none 0 0,.slice none 0 0,.slice none 0 0,.slice none 0 0,.slice none 0 0,.slice none 0 0,.slice none 0 0,.slice none 0 0,.slice none 0 0,.slice none 0 0,.slice none 0 0,.slice none 0 0,.slice none 0 0,.slice none 0 0,.slice none 0 0,.slice none 0 0,.slice none 0 0,.slice none 0 0,.slice none 0 0,.slice none 0 0,.slice none 0 0,.slice none 0 0,.slice none 0 0,.slice none 0 0,.slice none 0 0,.slice none 0 0,.slice none 0 0,.slice none 0 0,.slice none 0 0,.slice none 0 0,.slice none 0 0,.slice none 0 0,.slice none 0 0,.slice none 0 0,.slice none 0 0,.slice none 0 0,.slice none 0 0,.slice none 0 0,.slice none 0 0,.slice none 0 0,.slice none 0 0,.int .i64 0,.slice none 0 0,.slice none 0 0,.slice none 0 0,.slice none 0 0,.bool false,.bool false,.bool false,.bool false,.bool false] 79)=W0:=⟨_,rfl⟩
 have hB0:Below w.heap.size w W0:=by rw [← hW0];exact ext_alloc (ext_alloc (ext_alloc (Below.refl _ _)))
 have hz0:sb+1+1<W0.heap.size:=by rw [← hW0, ← hsb];simp
 have hrow:W0.heap[sb]? = some (.cells row 79 (0,0)):=by rw [← hW0, ← hsb];exact (Below.heap_alloc _ _ _ (by simp <;> omega)).trans ((Below.heap_alloc _ _ _ (by simp)).trans (heap_alloc_new _ _))
 have hev:W0.heap[sb+1]? = some (.cells #[.int .u8 kd,.int .u8 wh,.int .i64 v,.int .i64 st,.slice Dw wl dw] 149 (0,0)):=by rw [← hW0, ← hsb];exact (Below.heap_alloc _ _ _ (by simp)).trans (heap_new2 _ _ _)
 have hres:W0.heap[sb+1+1]? = some (.cells #[.slice none 0 0,.slice none 0 0,.slice none 0 0,.slice none 0 0,.slice none 0 0,.slice none 0 0,.slice none 0 0,.slice none 0 0,.slice none 0 0,.slice none 0 0,.slice none 0 0,.slice none 0 0,.slice none 0 0,.slice none 0 0,.slice none 0 0,.slice none 0 0,.slice none 0 0,.slice none 0 0,.slice none 0 0,.slice none 0 0,.slice none 0 0,.slice none 0 0,.slice none 0 0,.slice none 0 0,.slice none 0 0,.slice none 0 0,.slice none 0 0,.slice none 0 0,.slice none 0 0,.slice none 0 0,.slice none 0 0,.slice none 0 0,.slice none 0 0,.slice none 0 0,.slice none 0 0,.slice none 0 0,.slice none 0 0,.slice none 0 0,.slice none 0 0,.slice none 0 0,.slice none 0 0,.slice none 0 0,.slice none 0 0,.slice none 0 0,.int .i64 0,.slice none 0 0,.slice none 0 0,.slice none 0 0,.slice none 0 0,.bool false,.bool false,.bool false,.bool false,.bool false] 79 (0,0)):=by rw [← hW0, ← hsb];exact heap_new3 _ _ _ _
 have HW0:=Lib.hid hW0
 have HSB:=Lib.hid hsb
 have HM0:=Lib.hid hM
 have HROW:=Lib.hid hrow
 have HEV:=Lib.hid hev
 have HRES:=Lib.hid hres
 have hwsb:w.heap.size≤sb∧sb≤w.heap.size:=by omega
 have HC5:Hid (∀ W,Below W0.heap.size W0 W→W.cell? ⟨sb,0,none⟩=some (.slice A s.c.1.1.length c)∧W.cell? ⟨sb,1,none⟩=some (.slice D s.c.1.2.length d)∧W.cell? ⟨sb,2,none⟩=some (.slice G s.c.2.length g)∧W.cell? ⟨sb,44,none⟩=some (.int .i64 (s.nw:Nat))):=fun W hb=>by
  have hrow2:=(hb.block sb (by omega)).trans hrow
  rw [hR] at hrow2
  obtain⟨h0,h1,h2,h3,h4,h5,h6,h7,h8,h9,h10,h11,h12,h13,h14,h15,h16,h17,h18,h19,h20,h21,h22,h23,h24,h25,h26,h27,h28,h29,h30,h31,h32,h33,h34,h35,h36,h37,h38,h39,h40,h41,h42,h43,h44,h45,h46,h47,h48,h49,h50,h51,h52,h53,hf⟩:=blk54 hrow2
  exact⟨h0,h1,h2,h44⟩
 have HCI:Hid (∀ W,Below W0.heap.size W0 W→(W.cell? ⟨sb,53,none⟩=some (.bool true)∧∀ j,W.frozen? ⟨sb,j,none⟩=false)∧W.cell? ⟨sb,45+i,none⟩=some (.slice (ca i) (s.cl i).length (cc i))∧W.cell? ⟨sb,49+i,none⟩=some (.bool (s.th i))):=fun W hb=>by
  have hrow2:=(hb.block sb (by omega)).trans hrow
  rw [hR] at hrow2
  obtain⟨h0,h1,h2,h3,h4,h5,h6,h7,h8,h9,h10,h11,h12,h13,h14,h15,h16,h17,h18,h19,h20,h21,h22,h23,h24,h25,h26,h27,h28,h29,h30,h31,h32,h33,h34,h35,h36,h37,h38,h39,h40,h41,h42,h43,h44,h45,h46,h47,h48,h49,h50,h51,h52,h53,hf⟩:=blk54 hrow2
  refine⟨⟨h53,hf⟩, ?_⟩
  clear hb hrow hrow2 hM hi hmod HM0 HROW
  match i,hi4 with
  | 0,_=>exact⟨h45,h49⟩
  | 1,_=>exact⟨h46,h50⟩
  | 2,_=>exact⟨h47,h51⟩
  | 3,_=>exact⟨h48,h52⟩
 have HCL:Hid (∀ W,Below W0.heap.size W0 W→ClAt s.c A c D d G g (Bl W.heap.size) W):=fun W hb=>hM.cls.keep (fun q hq=>(hB0.trans (hb.mono hB0.size)).block q hq.2) (fun q hq=>by have:=hq.2;have:=hB0.size;have:=hb.size;show q<W.heap.size;omega)
 have H4:Hid (∀ W,Below W0.heap.size W0 W→SlAt encSec W (Bl W.heap.size) Dw data):=fun W hb=>h4.fwd (hB0.trans (hb.mono hB0.size))
 have HEC:Hid (∀ W,Below W0.heap.size W0 W→W.cell? ⟨sb+1,2,none⟩=some (.int .i64 v)∧W.cell? ⟨sb+1,3,none⟩=some (.int .i64 st)∧W.cell? ⟨sb+1,4,none⟩=some (.slice Dw wl dw)):=fun W hb=>by
  have h:=(hb.block (sb+1) (by omega)).trans hev
  exact⟨cell_of_row W (sb+1) 2 _ _ _ h,cell_of_row W (sb+1) 3 _ _ _ h,cell_of_row W (sb+1) 4 _ _ _ h⟩
 have ev0:W0.cell? ⟨sb+1,0,none⟩=some (.int .u8 kd):=cell_of_row W0 (sb+1) 0 _ _ _ hev
 have ev1:W0.cell? ⟨sb+1,1,none⟩=some (.int .u8 wh):=cell_of_row W0 (sb+1) 1 _ _ _ hev
 have HR:=Lib.hid hR
 clear hrow hres hM hev hR
 go_enter Tryz.func138,Tryz.ntmps138
 go_upto_region 3 with (fail)
 clear hW0 ev0 ev1
 try rw [HW0.out]
 clear HW0
 obtain rfl:kr=0:=by omega
 have hn40:s.nw<40:=by have:=h.nw;omega
 have HCS:Hid (∀ W,Below W0.heap.size W0 W→W.cell? ⟨sb,4+s.nw,none⟩=some (.slice (sa s.nw) (s.sn s.nw).length (sc s.nw))):=fun W hb=>by
  rw [cell_of_row W sb (4+s.nw) _ _ _ ((hb.block sb (by omega)).trans HROW.out),HR.out]
  exact row_sn hn40
 obtain⟨x,hx⟩:∃ x,creS s.c (nmC i) s.nw=x:=⟨_,rfl⟩
 obtain⟨n,hn⟩:∃ n,creE s.c (nmC i) s.nw=n:=⟨_,rfl⟩
 have hnm:(nmC i).size≤maxLen:=by show 1≤maxLen;unfold maxLen;omega
 have hni:I64 (s.nw:Int):=by have:=h.nw;unfold I64;omega
 have HDL:=Lib.hid (fun W (hb:Below W0.heap.size W0 W)=>csCreate h ha hk (HCL.out W hb) hnm hni hx hn)
 have hd:=h.cre hi4
 rw [hn] at hd
 have HX:=Lib.hid hx
 have HD:=Lib.hid hd
 have HN:=Lib.hid hn
 have hSw:Below W0.heap.size W0 W0.drew:=(Below.refl _ _).drew
 clear hx hn hd hnm hni
 go_upto_region 4 with (fail)
 go_cut [6,7] (fun p f wx=>f = .int .i64 n∧(∃ tz,p = .pointer (some ⟨tz,0,none⟩)∧W0.heap.size≤tz∧∃ A5 c5 D5 d5 G5 g5,ClN W0.heap.size tz x A5 c5 D5 d5 G5 g5 wx)∧Below W0.heap.size W0 wx)
 case first =>
  refine wp_region_U (fun W'=>Below W0.heap.size W0 W') 13 (by kernel_rfl) ?_
  refine wpAnyU_takeD (i:=0) (v := ?_) rfl rfl (by kernel_rfl) (by kernel_rfl) (by kernel_rfl) (by kernel_rfl) (fun _ _ _ h=>h) (by rfl) ?_ hSw ?_
  rotate_left 1
  ·intro W9 hW9
   try dsimp only at hW9
   obtain _:=trivial
   go_simp
   try with_reducible rfl
  try simp only [List.setIfInBounds_toArray,List.set_cons_zero,List.set_cons_succ]
  refine wpAnyU_takeD (i:=1) (v := ?_) rfl rfl (by kernel_rfl) (by kernel_rfl) (by kernel_rfl) (by kernel_rfl) (fun _ _ _ h=>h) (by rfl) ?_ hSw ?_
  rotate_left 1
  ·intro W9 hW9
   try dsimp only at hW9
   obtain⟨q0,q1,q2,q3⟩:=HC5.out W9 hW9
   go_simp
   try with_reducible rfl
  try simp only [List.setIfInBounds_toArray,List.set_cons_zero,List.set_cons_succ]
  refine wpAnyU_takeD (i:=2) (v := ?_) rfl rfl (by kernel_rfl) (by kernel_rfl) (by kernel_rfl) (by kernel_rfl) (fun _ _ _ h=>h) (by rfl) ?_ hSw ?_
  rotate_left 1
  ·intro W9 hW9
   try dsimp only at hW9
   obtain _:=trivial
   go_simp
   try with_reducible rfl
  try simp only [List.setIfInBounds_toArray,List.set_cons_zero,List.set_cons_succ]
  refine wpAnyU_takeD (i:=4) (v := ?_) rfl rfl (by kernel_rfl) (by kernel_rfl) (by kernel_rfl) (by kernel_rfl) (fun _ _ _ h=>h) (by rfl) ?_ hSw ?_
  rotate_left 1
  ·intro W9 hW9
   try dsimp only at hW9
   obtain _:=trivial
   go_simp
   try with_reducible rfl
  try simp only [List.setIfInBounds_toArray,List.set_cons_zero,List.set_cons_succ]
  refine wpAnyU_takeD (i:=5) (v := ?_) rfl rfl (by kernel_rfl) (by kernel_rfl) (by kernel_rfl) (by kernel_rfl) (fun _ _ _ h=>h) (by rfl) ?_ hSw ?_
  rotate_left 1
  ·intro W9 hW9
   try dsimp only at hW9
   obtain⟨q0,q1,q2,q3⟩:=HC5.out W9 hW9
   go_simp
   try with_reducible rfl
  try simp only [List.setIfInBounds_toArray,List.set_cons_zero,List.set_cons_succ]
  refine wpAnyU_two (i:=3) (j:=10) (by kernel_rfl) rfl rfl rfl rfl (fun K hK => ?_) (fun K hK => ?_)
  ·go_wp2_with fail
   refine (name_any i hi4 _).mono ?_
   rintro e w6 ⟨rfl,rfl⟩
   refine hK.out _ _ (fun _=>hSw) ?_
   clear hK K
   try simp only [Act.put,List.setIfInBounds_toArray,List.set_cons_zero,List.set_cons_succ]
   refine wpAnyU_two (i:=6) (j:=10) (by kernel_rfl) rfl rfl rfl rfl (fun K hK => ?_) (fun K hK => ?_)
   ·go_wp2_with fail
    refine (HDL.out _ hSw).mono ?_
    rintro e w6 ⟨A5,c5,D5,d5,G5,g5,rfl,hat,hb6⟩
    have hS6:=hSw.trans (hb6.mono hSw.size)
    have hsz:=hSw.size
    refine hK.out _ _ (fun _=>hS6) ?_
    clear hK K
    try simp only [Act.put,List.setIfInBounds_toArray,List.set_cons_zero,List.set_cons_succ]
    clear hSw
    have hSw:=hS6
    refine wpAnyU_takeD (i:=7) (v := ?_) rfl rfl (by kernel_rfl) (by kernel_rfl) (by kernel_rfl) (by kernel_rfl) (fun _ _ _ h=>h) (by rfl) ?_ hSw ?_
    rotate_left 1
    ·intro W9 hW9
     try dsimp only at hW9
     obtain _:=trivial
     go_simp
     try with_reducible rfl
    try simp only [List.setIfInBounds_toArray,List.set_cons_zero,List.set_cons_succ]
    refine wpAnyU_takeD (i:=8) (v := ?_) rfl rfl (by kernel_rfl) (by kernel_rfl) (by kernel_rfl) (by kernel_rfl) (fun _ _ _ h=>h) (by rfl) ?_ hSw ?_
    rotate_left 1
    ·intro W9 hW9
     try dsimp only at hW9
     obtain _:=trivial
     go_simp
     try with_reducible rfl
    try simp only [List.setIfInBounds_toArray,List.set_cons_zero,List.set_cons_succ]
    refine wpAnyU_takeD (i:=9) (v := ?_) rfl rfl (by kernel_rfl) (by kernel_rfl) (by kernel_rfl) (by kernel_rfl) (fun _ _ _ h=>h) (by rfl) ?_ hSw ?_
    rotate_left 1
    ·intro W9 hW9
     try dsimp only at hW9
     obtain _:=trivial
     go_simp
     try with_reducible rfl
    try simp only [List.setIfInBounds_toArray,List.set_cons_zero,List.set_cons_succ]
    have hS7:Below W0.heap.size W0 (w6.alloc (.cells #[.slice none 0 0,.slice none 0 0,.slice none 0 0] 29)):=hS6.alloc hS6.size _
    have hrz:(w6.alloc (.cells #[.slice none 0 0,.slice none 0 0,.slice none 0 0] 29)).heap[w6.heap.size]? = some (.cells #[.slice none 0 0,.slice none 0 0,.slice none 0 0] 29 (0,0)):=heap_alloc_new _ _
    have hatz:=ClN.mk_ hat (fun q hq=>Below.heap_alloc w6 (.cells #[.slice none 0 0,.slice none 0 0,.slice none 0 0] 29) q hq.2) (t:=w6.heap.size) (lo:=W0.heap.size) (fun q hq=>⟨by have:=hq.1;omega,by have:=hq.2;omega,by have:=hq.2;simp;omega⟩)
    have htz:W0.heap.size≤w6.heap.size:=hS6.size
    refine wpAnyU_op (i:=10) (by kernel_rfl) rfl rfl (fun K hK => ?_)
    go_simp
    refine hK.out _ _ (fun _=>hS7) ?_
    clear hK K
    try simp only [Act.put,List.setIfInBounds_toArray,List.set_cons_zero,List.set_cons_succ]
    change wpAnyU _ _ _ _ _ _ _ _ _ (w6.alloc (.cells #[.slice none 0 0,.slice none 0 0,.slice none 0 0] 29))
    generalize w6.alloc (.cells #[.slice none 0 0,.slice none 0 0,.slice none 0 0] 29)=w7 at hS7 hrz hatz ⊢
    generalize w6.heap.size=tz at hrz hatz htz ⊢
    clear hat hb6 hS6 hSw
    obtain⟨v0,v1,v2,vf⟩:=blk3 hrz
    have hSs:=sw3_below hS7 htz (.slice A5 (x).1.1.length c5) (.slice D5 (x).1.2.length d5) (.slice G5 (x).2.length g5)
    have hcl:=ClN.store hatz hrz
    refine wpAnyU_op (i:=11) (by kernel_rfl) rfl rfl (fun K hK => ?_)
    go_simp
    refine hK.out _ _ (fun _=>hSs) ?_
    clear hK K
    try simp only [Act.put,List.setIfInBounds_toArray,List.set_cons_zero,List.set_cons_succ]
    refine wpAnyU_op (i:=12) (by kernel_rfl) rfl rfl (fun K hK => ?_)
    go_simp
    refine hK.out _ _ (fun _=>hSs) ?_
    clear hK K
    try simp only [Act.put,List.setIfInBounds_toArray,List.set_cons_zero,List.set_cons_succ]
    refine wpAnyU_done (by kernel_rfl) ?_ _
    clear v0 v1 v2 vf
    go_wp2
    go_meet
    exact⟨rfl,⟨_,rfl,htz,A5,c5,D5,d5,G5,g5,hcl⟩,hSs⟩
   ·have hS7:Below W0.heap.size W0 (W0.drew.alloc (.cells #[.slice none 0 0,.slice none 0 0,.slice none 0 0] 29)):=hSw.alloc hSw.size _
    have hrz:(W0.drew.alloc (.cells #[.slice none 0 0,.slice none 0 0,.slice none 0 0] 29)).heap[W0.heap.size]? = some (.cells #[.slice none 0 0,.slice none 0 0,.slice none 0 0] 29 (0,0)):=heap_alloc_new W0.drew _
    have htz:W0.heap.size≤W0.heap.size:=hSw.size
    go_simp
    refine hK.out _ _ (fun _=>hS7) ?_
    clear hK K
    try simp only [Act.put,List.setIfInBounds_toArray,List.set_cons_zero,List.set_cons_succ]
    change wpAnyU _ _ _ _ _ _ _ _ _ (W0.drew.alloc (.cells #[.slice none 0 0,.slice none 0 0,.slice none 0 0] 29))
    generalize W0.drew.alloc (.cells #[.slice none 0 0,.slice none 0 0,.slice none 0 0] 29)=w7 at hS7 hrz ⊢
    refine wpAnyU_op (i:=6) (by kernel_rfl) rfl rfl (fun K hK => ?_)
    go_wp2_with fail
    refine (HDL.out _ hS7).mono ?_
    rintro e w8 ⟨A5,c5,D5,d5,G5,g5,rfl,hat,hb8⟩
    have hl7:=(Array.getElem?_eq_some_iff.1 hrz).1
    have hS8:=hS7.trans (hb8.mono hS7.size)
    replace hrz:=(hb8.block _ hl7).trans hrz
    have hatz:=ClN.mk_ hat (fun q _=>rfl) (t:=W0.heap.size) (lo:=W0.heap.size) (fun q hq=>⟨by have:=hq.1;omega,by have:=hq.1;omega,hq.2⟩)
    refine hK.out _ _ (fun _=>hS8) ?_
    clear hK K
    try simp only [Act.put,List.setIfInBounds_toArray,List.set_cons_zero,List.set_cons_succ]
    clear hSw hS7 hl7 hat hb8
    have hSw:=hS8
    refine wpAnyU_takeD (i:=7) (v := ?_) rfl rfl (by kernel_rfl) (by kernel_rfl) (by kernel_rfl) (by kernel_rfl) (fun _ _ _ h=>h) (by rfl) ?_ hSw ?_
    rotate_left 1
    ·intro W9 hW9
     try dsimp only at hW9
     obtain _:=trivial
     go_simp
     try with_reducible rfl
    try simp only [List.setIfInBounds_toArray,List.set_cons_zero,List.set_cons_succ]
    refine wpAnyU_takeD (i:=8) (v := ?_) rfl rfl (by kernel_rfl) (by kernel_rfl) (by kernel_rfl) (by kernel_rfl) (fun _ _ _ h=>h) (by rfl) ?_ hSw ?_
    rotate_left 1
    ·intro W9 hW9
     try dsimp only at hW9
     obtain _:=trivial
     go_simp
     try with_reducible rfl
    try simp only [List.setIfInBounds_toArray,List.set_cons_zero,List.set_cons_succ]
    refine wpAnyU_takeD (i:=9) (v := ?_) rfl rfl (by kernel_rfl) (by kernel_rfl) (by kernel_rfl) (by kernel_rfl) (fun _ _ _ h=>h) (by rfl) ?_ hSw ?_
    rotate_left 1
    ·intro W9 hW9
     try dsimp only at hW9
     obtain _:=trivial
     go_simp
     try with_reducible rfl
    try simp only [List.setIfInBounds_toArray,List.set_cons_zero,List.set_cons_succ]
    clear hSw
    obtain⟨v0,v1,v2,vf⟩:=blk3 hrz
    have hSs:=sw3_below hS8 htz (.slice A5 (x).1.1.length c5) (.slice D5 (x).1.2.length d5) (.slice G5 (x).2.length g5)
    have hcl:=ClN.store hatz hrz
    refine wpAnyU_op (i:=11) (by kernel_rfl) rfl rfl (fun K hK => ?_)
    go_simp
    refine hK.out _ _ (fun _=>hSs) ?_
    clear hK K
    try simp only [Act.put,List.setIfInBounds_toArray,List.set_cons_zero,List.set_cons_succ]
    refine wpAnyU_op (i:=12) (by kernel_rfl) rfl rfl (fun K hK => ?_)
    go_simp
    refine hK.out _ _ (fun _=>hSs) ?_
    clear hK K
    try simp only [Act.put,List.setIfInBounds_toArray,List.set_cons_zero,List.set_cons_succ]
    refine wpAnyU_done (by kernel_rfl) ?_ _
    clear v0 v1 v2 vf
    go_wp2
    go_meet
    exact⟨rfl,⟨_,rfl,htz,A5,c5,D5,d5,G5,g5,hcl⟩,hSs⟩
  ·have hS7:Below W0.heap.size W0 (W0.drew.alloc (.cells #[.slice none 0 0,.slice none 0 0,.slice none 0 0] 29)):=hSw.alloc hSw.size _
   have hrz:(W0.drew.alloc (.cells #[.slice none 0 0,.slice none 0 0,.slice none 0 0] 29)).heap[W0.heap.size]? = some (.cells #[.slice none 0 0,.slice none 0 0,.slice none 0 0] 29 (0,0)):=heap_alloc_new W0.drew _
   have htz:W0.heap.size≤W0.heap.size:=hSw.size
   go_simp
   refine hK.out _ _ (fun _=>hS7) ?_
   clear hK K
   try simp only [Act.put,List.setIfInBounds_toArray,List.set_cons_zero,List.set_cons_succ]
   change wpAnyU _ _ _ _ _ _ _ _ _ (W0.drew.alloc (.cells #[.slice none 0 0,.slice none 0 0,.slice none 0 0] 29))
   generalize W0.drew.alloc (.cells #[.slice none 0 0,.slice none 0 0,.slice none 0 0] 29)=w7 at hS7 hrz ⊢
   refine wpAnyU_op (i:=3) (by kernel_rfl) rfl rfl (fun K hK => ?_)
   go_wp2_with fail
   refine (name_any i hi4 _).mono ?_
   rintro e w6 ⟨rfl,rfl⟩
   refine hK.out _ _ (fun _=>hS7) ?_
   clear hK K
   try simp only [Act.put,List.setIfInBounds_toArray,List.set_cons_zero,List.set_cons_succ]
   refine wpAnyU_op (i:=6) (by kernel_rfl) rfl rfl (fun K hK => ?_)
   go_wp2_with fail
   refine (HDL.out _ hS7).mono ?_
   rintro e w8 ⟨A5,c5,D5,d5,G5,g5,rfl,hat,hb8⟩
   have hl7:=(Array.getElem?_eq_some_iff.1 hrz).1
   have hS8:=hS7.trans (hb8.mono hS7.size)
   replace hrz:=(hb8.block _ hl7).trans hrz
   have hatz:=ClN.mk_ hat (fun q _=>rfl) (t:=W0.heap.size) (lo:=W0.heap.size) (fun q hq=>⟨by have:=hq.1;omega,by have:=hq.1;omega,hq.2⟩)
   refine hK.out _ _ (fun _=>hS8) ?_
   clear hK K
   try simp only [Act.put,List.setIfInBounds_toArray,List.set_cons_zero,List.set_cons_succ]
   clear hSw hS7 hl7 hat hb8
   have hSw:=hS8
   refine wpAnyU_takeD (i:=7) (v := ?_) rfl rfl (by kernel_rfl) (by kernel_rfl) (by kernel_rfl) (by kernel_rfl) (fun _ _ _ h=>h) (by rfl) ?_ hSw ?_
   rotate_left 1
   ·intro W9 hW9
    try dsimp only at hW9
    obtain _:=trivial
    go_simp
    try with_reducible rfl
   try simp only [List.setIfInBounds_toArray,List.set_cons_zero,List.set_cons_succ]
   refine wpAnyU_takeD (i:=8) (v := ?_) rfl rfl (by kernel_rfl) (by kernel_rfl) (by kernel_rfl) (by kernel_rfl) (fun _ _ _ h=>h) (by rfl) ?_ hSw ?_
   rotate_left 1
   ·intro W9 hW9
    try dsimp only at hW9
    obtain _:=trivial
    go_simp
    try with_reducible rfl
   try simp only [List.setIfInBounds_toArray,List.set_cons_zero,List.set_cons_succ]
   refine wpAnyU_takeD (i:=9) (v := ?_) rfl rfl (by kernel_rfl) (by kernel_rfl) (by kernel_rfl) (by kernel_rfl) (fun _ _ _ h=>h) (by rfl) ?_ hSw ?_
   rotate_left 1
   ·intro W9 hW9
    try dsimp only at hW9
    obtain _:=trivial
    go_simp
    try with_reducible rfl
   try simp only [List.setIfInBounds_toArray,List.set_cons_zero,List.set_cons_succ]
   clear hSw
   obtain⟨v0,v1,v2,vf⟩:=blk3 hrz
   have hSs:=sw3_below hS8 htz (.slice A5 (x).1.1.length c5) (.slice D5 (x).1.2.length d5) (.slice G5 (x).2.length g5)
   have hcl:=ClN.store hatz hrz
   refine wpAnyU_op (i:=11) (by kernel_rfl) rfl rfl (fun K hK => ?_)
   go_simp
   refine hK.out _ _ (fun _=>hSs) ?_
   clear hK K
   try simp only [Act.put,List.setIfInBounds_toArray,List.set_cons_zero,List.set_cons_succ]
   refine wpAnyU_op (i:=12) (by kernel_rfl) rfl rfl (fun K hK => ?_)
   go_simp
   refine hK.out _ _ (fun _=>hSs) ?_
   clear hK K
   try simp only [Act.put,List.setIfInBounds_toArray,List.set_cons_zero,List.set_cons_succ]
   refine wpAnyU_done (by kernel_rfl) ?_ _
   clear v0 v1 v2 vf
   go_wp2
   go_meet
   exact⟨rfl,⟨_,rfl,htz,A5,c5,D5,d5,G5,g5,hcl⟩,hSs⟩
 case rest =>
  obtain⟨rfl,⟨tz,rfl,htz,A5,c5,D5,d5,G5,g5,hcl⟩,hbx⟩:=hcut
  have hrw:=(hbx.block sb (by omega)).trans HROW.out
  have hrr:=(hbx.block (sb+1+1) (by omega)).trans HRES.out
  obtain⟨v0,v1,v2,vf⟩:=blk3 hcl.row
  obtain⟨h0,h1,h2,h44⟩:=HC5.out wc hbx
  obtain⟨⟨h53,hf⟩,h45,y2⟩:=HCI.out wc hbx
  have HRW:=Lib.hid hrw
  have HRR:=Lib.hid hrr
  have hbw:Below w.heap.size w wc:=hB0.trans (hbx.mono hB0.size)
  clear hrw hrr
  cases hq:s.th i with
  | true =>
    rw [hq] at y2
    obtain rfl:=HD.out.1 hq
    have HS:Hid (cStep s (kd,wh,(v,st,data))=s):=by
     have he:evI (kd,wh,(v,st,data))=i:=by unfold evI;simp only;omega
     unfold cStep
     simp only [he]
     rw [if_neg (by omega),if_neg (by omega),if_neg (by omega),if_pos (by omega),if_pos hq];exact rfl
    clear v0 v1 v2 vf hcl
    -- the state as it was, its last cell stored once more (world wc)
    obtain⟨Wn,hWn⟩:∃ W,wc.setCell ⟨sb,53,none⟩ (.bool true)=W:=⟨_,rfl⟩
    have r5:=row_set HRW.out 53 (.bool true)
    have hre:row.setIfInBounds 53 (.bool true)=row:=by rw [HR.out];exact row_53
    rw [hre,hWn] at r5
    have hkN:∀ b,b≠sb→Wn.heap[b]? = wc.heap[b]? := fun b hb=>by rw [← hWn];exact heap_setCell_other _ _ _ _ hb
    have hzN:Wn.heap.size=wc.heap.size:=by rw [← hWn];simp [World.setCell]
    have hbN:Below w.heap.size w Wn:=by rw [← hWn];exact hbw.setCell (p:=⟨sb,53,none⟩) hwsb.1 _
    have HWN:=Lib.hid hWn
    have R5:=Lib.hid r5
    clear hWn r5 hre
    go_upto_region 7 with (fail)
    rw [HWN.out]
    clear HWN
    have hrN:=(hkN (sb+1+1) (by omega)).trans HRR.out
    have hMN:StM s A c D d G g B bc sa sc ca cc (fun q=>(S q∨w.heap.size≤q)∧q<Wn.heap.size∧q≠sb+1+1) Wn :=
     StM.mk2 (s':=s) HM0.out (HM0.out.cls.keep (fun q hq=>hbN.block q hq.2) (fun q hq=>⟨Or.inl hq.1,by have:=hbN.size;have:=hq.2;omega,by have:=hq.2;omega⟩)) hbN (fun q hq=>by omega) rfl rfl rfl
    have HMN:=Lib.hid hMN
    have HRN:=Lib.hid hrN
    clear hMN hrN hkN
    have HAL:=Lib.hid (st_all (s':=s) (B':=B) (bc':=bc) (sa':=sa) (sc':=sc) (ca':=ca) (cc':=cc) HR.out)
    -- the state's row is loaded whole and stored into the result
    go_wp2_with (first | (refine wpList_load_row rfl 79 _ rfl sb rfl 79 row (0,0) _ R5.out Tryz.underlying79 rfl HAL.out.2 ?_) | (refine wpList_store_row rfl 79 _ _ rfl (sb+1+1) row rfl rfl 79 _ HRN.out HAL.out.2 (st_size HAL.out.2 (by kernel_rfl) (by kernel_rfl)) HAL.out.1 ?_))
    have hz:=setRow_heap Wn (sb+1+1) _ row _ _ HRN.out
    have hret:=st_ret (S:=S) (w:=w) (rb:=sb+1+1) (row:=row) HR.out (by omega) hbN HMN.out
    generalize Wn.setRow (sb+1+1) row=W3 at hz hret ⊢
    refine bodyPost_ret (v := .agg row) (results_cell_row (p:=4) (ty:=79) rfl _ _ (sb+1+1) _ row (0,0) _ rfl hz Tryz.underlying79 rfl HAL.out.2) rfl ?_
    rw [HS.out];exact hret
  | false =>
    rw [hq] at y2
    obtain⟨hd1,hd2⟩:=HD.out.2 hq
    by_cases hn0:n=0
    case neg =>
     obtain rfl:n=7:=by omega
     have HS:Hid (cStep s (kd,wh,(v,st,data))=s):=by
      have he:evI (kd,wh,(v,st,data))=i:=by unfold evI;simp only;omega
      unfold cStep
      simp only [he]
      rw [if_neg (by omega),if_neg (by omega),if_neg (by omega),if_pos (by omega),if_neg (by rw [hq];decide),if_neg (by rw [HN.out];decide)];exact rfl
     clear v0 v1 v2 vf hcl hd1 hd2 hn0
     -- the state as it was, its last cell stored once more (world wc)
     obtain⟨Wn,hWn⟩:∃ W,wc.setCell ⟨sb,53,none⟩ (.bool true)=W:=⟨_,rfl⟩
     have r5:=row_set HRW.out 53 (.bool true)
     have hre:row.setIfInBounds 53 (.bool true)=row:=by rw [HR.out];exact row_53
     rw [hre,hWn] at r5
     have hkN:∀ b,b≠sb→Wn.heap[b]? = wc.heap[b]? := fun b hb=>by rw [← hWn];exact heap_setCell_other _ _ _ _ hb
     have hzN:Wn.heap.size=wc.heap.size:=by rw [← hWn];simp [World.setCell]
     have hbN:Below w.heap.size w Wn:=by rw [← hWn];exact hbw.setCell (p:=⟨sb,53,none⟩) hwsb.1 _
     have HWN:=Lib.hid hWn
     have R5:=Lib.hid r5
     clear hWn r5 hre
     go_upto_region 25 with (fail)
     rw [HWN.out]
     clear HWN
     have hrN:=(hkN (sb+1+1) (by omega)).trans HRR.out
     have hMN:StM s A c D d G g B bc sa sc ca cc (fun q=>(S q∨w.heap.size≤q)∧q<Wn.heap.size∧q≠sb+1+1) Wn :=
      StM.mk2 (s':=s) HM0.out (HM0.out.cls.keep (fun q hq=>hbN.block q hq.2) (fun q hq=>⟨Or.inl hq.1,by have:=hbN.size;have:=hq.2;omega,by have:=hq.2;omega⟩)) hbN (fun q hq=>by omega) rfl rfl rfl
     have HMN:=Lib.hid hMN
     have HRN:=Lib.hid hrN
     clear hMN hrN hkN
     have HAL:=Lib.hid (st_all (s':=s) (B':=B) (bc':=bc) (sa':=sa) (sc':=sc) (ca':=ca) (cc':=cc) HR.out)
     -- the state's row is loaded whole and stored into the result
     go_wp2_with (first | (refine wpList_load_row rfl 79 _ rfl sb rfl 79 row (0,0) _ R5.out Tryz.underlying79 rfl HAL.out.2 ?_) | (refine wpList_store_row rfl 79 _ _ rfl (sb+1+1) row rfl rfl 79 _ HRN.out HAL.out.2 (st_size HAL.out.2 (by kernel_rfl) (by kernel_rfl)) HAL.out.1 ?_))
     have hz:=setRow_heap Wn (sb+1+1) _ row _ _ HRN.out
     have hret:=st_ret (S:=S) (w:=w) (rb:=sb+1+1) (row:=row) HR.out (by omega) hbN HMN.out
     generalize Wn.setRow (sb+1+1) row=W3 at hz hret ⊢
     refine bodyPost_ret (v := .agg row) (results_cell_row (p:=4) (ty:=79) rfl _ _ (sb+1+1) _ row (0,0) _ rfl hz Tryz.underlying79 rfl HAL.out.2) rfl ?_
     rw [HS.out];exact hret
    subst hn0
    have hsn:=HCS.out wc hbx
    have hnn0:(0:Int)≤(s.nw:Int):=by omega
    have hnn9:(s.nw:Int)<40:=by omega
    clear hd1 hd2
    go_upto_region 9 with (fail)
    have HS:Hid (cStep s (kd,wh,(v,st,data))={ s with c:=x,th:=upd s.th i true,cl:=upd s.cl i (s.sn s.nw) }):=by
     have he:evI (kd,wh,(v,st,data))=i:=by unfold evI;simp only;omega
     unfold cStep
     simp only [he]
     rw [if_neg (by omega),if_neg (by omega),if_neg (by omega),if_pos (by omega),if_neg (by rw [hq];decide),if_pos HN.out,HX.out];exact rfl
    obtain⟨Wn,hWn⟩:∃ W,(((((wc.setCell ⟨sb,0,none⟩ (.slice A5 x.1.1.length c5)).setCell ⟨sb,1,none⟩ (.slice D5 x.1.2.length d5)).setCell ⟨sb,2,none⟩ (.slice G5 x.2.length g5)).setCell ⟨sb,49+i,none⟩ (.bool true)).setCell ⟨sb,45+i,none⟩ (.slice (sa s.nw) (s.sn s.nw).length (sc s.nw))).drew=W:=⟨_,rfl⟩
    have r4:=row_set (row_set (row_set (row_set (row_set HRW.out 0 (.slice A5 x.1.1.length c5)) 1 (.slice D5 x.1.2.length d5)) 2 (.slice G5 x.2.length g5)) (49+i) (.bool true)) (45+i) (.slice (sa s.nw) (s.sn s.nw).length (sc s.nw))
    obtain⟨row',hrow'⟩:∃ r,((((row.setIfInBounds 0 (.slice A5 x.1.1.length c5)).setIfInBounds 1 (.slice D5 x.1.2.length d5)).setIfInBounds 2 (.slice G5 x.2.length g5)).setIfInBounds (49+i) (.bool true)).setIfInBounds (45+i) (.slice (sa s.nw) (s.sn s.nw).length (sc s.nw))=r:=⟨_,rfl⟩
    rw [hrow'] at r4
    have r5:Wn.heap[sb]? = some (.cells row' 79 (0,0)):=by rw [← hWn];exact r4
    clear r4
    have HRQ:=Lib.hid (((congrArg (fun r:Array Value=>((((r.setIfInBounds 0 (.slice A5 x.1.1.length c5)).setIfInBounds 1 (.slice D5 x.1.2.length d5)).setIfInBounds 2 (.slice G5 x.2.length g5)).setIfInBounds (49+i) (.bool true)).setIfInBounds (45+i) (.slice (sa s.nw) (s.sn s.nw).length (sc s.nw))) HR.out).symm.trans hrow').symm.trans (row_cre (s':={ s with c:=x,th:=upd s.th i true,cl:=upd s.cl i (s.sn s.nw) }) hi4 rfl))
    clear hrow'
    have hkN:∀ b,b≠sb→Wn.heap[b]? = wc.heap[b]? := fun b hb=>by
     rw [← hWn]
     exact (heap_setCell_other _ _ _ _ hb).trans ((heap_setCell_other _ _ _ _ hb).trans ((heap_setCell_other _ _ _ _ hb).trans ((heap_setCell_other _ _ _ _ hb).trans (heap_setCell_other _ _ _ _ hb))))
    have hzN:Wn.heap.size=wc.heap.size:=by rw [← hWn];simp [World.setCell]
    have hbN:Below w.heap.size w Wn:=by rw [← hWn];exact (((((hbw.setCell (p:=⟨sb,0,none⟩) hwsb.1 _).setCell (p:=⟨sb,1,none⟩) hwsb.1 _).setCell (p:=⟨sb,2,none⟩) hwsb.1 _).setCell (p:=⟨sb,49+i,none⟩) hwsb.1 _).setCell (p:=⟨sb,45+i,none⟩) hwsb.1 _).drew
    have HWN:=Lib.hid hWn
    have R5:=Lib.hid r5
    clear hWn r5
    go_region
    rw [HWN.out]
    clear HWN h0 h1 h2 h44 h53 hf h45 y2 v0 v1 v2 vf hsn
    have hrN:=(hkN (sb+1+1) (by omega)).trans HRR.out
    have hkW:∀ q,(S q∧q<w.heap.size)→Wn.heap[q]? = w.heap[q]? := fun q hq=>hbN.block q hq.2
    have hSW:∀ q,(S q∧q<w.heap.size)→(S q∨w.heap.size≤q)∧q<Wn.heap.size∧q≠sb+1+1:=fun q hq=>⟨Or.inl hq.1,by have:=hbN.size;have:=hq.2;omega,by have:=hq.2;omega⟩
    have hMN:StM { s with c:=x,th:=upd s.th i true,cl:=upd s.cl i (s.sn s.nw) } A5 c5 D5 d5 G5 g5 B bc sa sc (upd ca i (sa s.nw)) (upd cc i (sc s.nw)) (fun q=>(S q∨w.heap.size≤q)∧q<Wn.heap.size∧q≠sb+1+1) Wn :=
     ⟨hcl.at_.keep (fun q hq=>hkN q (by have:=hq.1;omega)) (fun q hq=>⟨Or.inr (by have:=hq.1;omega),by rw [hzN];exact hq.2.2,by have:=hq.1;omega⟩),
      ⟨HM0.out.cur.1,HM0.out.cur.2.1,(HM0.out.cur.2.2.blk hkW).more hSW⟩,fun j hj=>(HM0.out.sns j hj).keep hkW hSW,fun j hj=>by
       by_cases hji:j=i
       ·subst hji
        show ImA (upd ca j (sa s.nw) j) (upd cc j (sc s.nw) j) (upd s.cl j (s.sn s.nw) j) _ _
        rw [upd_same,upd_same,upd_same];exact (HM0.out.sns s.nw hn40).keep hkW hSW
       ·show ImA (upd ca i (sa s.nw) j) (upd cc i (sc s.nw) j) (upd s.cl i (s.sn s.nw) j) _ _
        rw [upd_ne _ _ hji,upd_ne _ _ hji,upd_ne _ _ hji];exact (HM0.out.cli j hj).keep hkW hSW⟩
    have HMN:=Lib.hid hMN
    have HRN:=Lib.hid hrN
    clear hMN hrN hkN hcl hkW hSW
    have HAL:=Lib.hid (st_all (s':={ s with c:=x,th:=upd s.th i true,cl:=upd s.cl i (s.sn s.nw) }) (B':=B) (bc':=bc) (sa':=sa) (sc':=sc) (ca':=upd ca i (sa s.nw)) (cc':=upd cc i (sc s.nw)) HRQ.out)
    -- the state's row is loaded whole and stored into the result
    go_wp2_with (first | (refine wpList_load_row rfl 79 _ rfl sb rfl 79 row' (0,0) _ R5.out Tryz.underlying79 rfl HAL.out.2 ?_) | (refine wpList_store_row rfl 79 _ _ rfl (sb+1+1) row' rfl rfl 79 _ HRN.out HAL.out.2 (st_size HAL.out.2 (by kernel_rfl) (by kernel_rfl)) HAL.out.1 ?_))
    have hz:=setRow_heap Wn (sb+1+1) _ row' _ _ HRN.out
    have hret:=st_ret (S:=S) (w:=w) (rb:=sb+1+1) (row:=row') HRQ.out (by omega) hbN HMN.out
    generalize Wn.setRow (sb+1+1) row'=W3 at hz hret ⊢
    refine bodyPost_ret (v := .agg row') (results_cell_row (p:=4) (ty:=79) rfl _ _ (sb+1+1) _ row' (0,0) _ rfl hz Tryz.underlying79 rfl HAL.out.2) rfl ?_
    rw [HS.out];exact hret
end Go.Proofs.YtgndgkjefgjamaaGreat
namespace Go.Proofs.YtgndgkjefgjamaaGreat
open Go.RowKit Go.Shelf
attribute [local go_sem] Oper.semAt_some

set_option maxHeartbeats 2000000 in
set_option maxRecDepth 100000 in
theorem apply37_any (A Dw:Option Addr) (c n dw wl:Nat) (im r:Img) (v st:Int) (data:List Sec) (w:World) (hn:im.length=n) (hwl:data.length=wl) (h1:SlAt (encSl encSec) w (Bl w.heap.size) A im) (h4:SlAt encSec w (Bl w.heap.size) Dw data) (hvs:I64 v∧I64 st) (hdc:wl≤dw∧dw≤maxLen) (hnn:n≤1000) (hz:sizesN (lens im)=0) (hf:fitsN (lens im) (v,st,data)=0) (hr:putAll im [(v,st,data)]=r) :
  Calls Tryz.prog 137 #[.slice A n c,.agg #[.int .i64 v,.int .i64 st,.slice Dw wl dw]] w fun e w'=>∃ A' c',e = .returned (.slice A' r.length c')∧r.length≤c'∧c'≤maxLen∧SlAt (encSl encSec) w' (Nw w.heap.size w'.heap.size) A' r∧Below w.heap.size w w':=by
 subst hn hwl
 obtain⟨n0,hn0⟩:∃ n0,w.heap.size=n0:=⟨_,rfl⟩
 obtain⟨W1,hW1⟩:∃ W1,(w.alloc (.cells #[.int .i64 v,.int .i64 st,.slice Dw data.length dw] 45)).alloc (.cells #[.int .i64 v,.int .i64 st,.slice Dw data.length dw] 45)=W1:=⟨_,rfl⟩
 have hb1:Below w.heap.size w W1:=by rw [← hW1];exact ext_alloc (ext_alloc (Below.refl _ _))
 have hr1:W1.heap[n0+1]? = some (.cells #[.int .i64 v,.int .i64 st,.slice Dw data.length dw] 45 (0,0)):=by rw [← hW1, ← hn0];exact heap_new2 _ _ _
 have hl1:=(Array.getElem?_eq_some_iff.1 hr1).1
 have hsl:SlAt encWr W1 (Bl W1.heap.size) (some ⟨n0+1,0,none⟩) [(v,st,data)]:=litS (E:=encWr) (S0:=Bl w.heap.size) (css:=[[.int .i64 v,.int .i64 st,.slice Dw data.length dw]]) hr1 rfl ⟨wr_mk (x:=(v,st,data)) hvs.1 hvs.2 hdc.1 hdc.2 (h4.below hb1),trivial⟩ (fun b hb=>by have:b<w.heap.size:=hb;have:=hb1.size;show b<W1.heap.size;omega) hl1 (fun h=>by have:n0+1<w.heap.size:=h;omega)
 have hap:=applyL_ok (im:=im) (l:=[(v,st,data)]) hz (fun x hx=>by rw [List.mem_singleton.1 hx];exact hf)
 have HAP:=Lib.hid (refApply07_any A (some ⟨n0+1,0,none⟩) c 1 im.length 1 im [(v,st,data)] W1 rfl rfl (h1.fwd hb1) (by omega) hsl (by decide))
 rw [hap.1,hap.2,hr] at HAP
 have HW1:=Lib.hid hW1
 have HB1:=Lib.hid hb1
 clear h1 h4 hsl hap hr hb1 hr1 hl1 hW1
 go_enter Tryz.func137,Tryz.ntmps137
 go_wp2_with fail
 try rw [HW1.out]
 refine HAP.out.mono ?_
 rintro e w2 ⟨A7,c7,i7,rfl,a1,a2,a3,hb2⟩
 have HA3:=Lib.hid a3
 clear a3 HAP
 go_wp2_with fail
 go_ret
 exact⟨A7,c7,rfl,a1,a2,HA3.out.more (fun g hg=>⟨by have:=hg.1;have:=HB1.out.size;omega,hg.2⟩),ext_trans HB1.out hb2⟩
end Go.Proofs.YtgndgkjefgjamaaGreat
namespace Go.Proofs.YtgndgkjefgjamaaGreat

section
variable {P:Program} {ops:Array Oper} {Q:Exit→Act→World→Prop} {md:Region.Mode} {S:World→Prop} {k:Nat}
theorem waits_unlisted {i:Nat} {listed:Array Bool} (h:waitsFor md ops k i=true) (h0:listed.getD i true=false):¬ k∈Region.ready md ops listed:=fun hk=>by
 obtain⟨_,o,ho,hall⟩:=mem_ready.1 hk
 unfold waitsFor at h
 rw [ho] at h
 simp only [Array.any_eq_true] at h
 obtain⟨j,hj,hb⟩:=h
 simp only [Bool.and_eq_true,beq_iff_eq] at hb
 have h1:=hall _ (Array.getElem_mem hj) hb.1
 rw [hb.2] at h1
 rcases Nat.lt_or_ge i listed.size with h' | h'
 ·simp [h'] at h0 h1;rw [h0] at h1;cases h1
 ·simp [Array.getElem?_eq_none h'] at h1
theorem wpAnyU_firstT {i:Nat} {oi:Oper} {v:Value} (hi:ops[i]? = some oi) (hsel:∀ (j:Nat) (o:Oper) cs b,ops[j]? = some o→o.op ≠ .select cs b)
  (hQ:∀ c a w,Q (.panic c) (a.put oi.dst v) w→Q (.panic c) a w) (hik:i≠k) {m:Nat} (hwm:waitsFor md ops k m=true) (hwt:waitsFor md ops m i=true) (him:i≠m) :
  ∀ (fuel:Nat) (listed:Array Bool) (a:Act) (w:World),
    (∀ j oj,ops[j]? = some oj→j≠i→listed.getD j true=false→(∀ e∈oj.after,Region.binds md e=true→e.on≠i)→oi.apart ops oj=true) →
    i∈Region.ready md ops listed→listed.getD m true=false→YieldsIf P ops S oi v a→S w →
    wpAnyU P md ops Q S k fuel (listed.setIfInBounds i true) (a.put oi.dst v) w→wpAnyU P md ops Q S k (fuel+1) listed a w:=by
 intro fuel
 induction fuel with
 | zero =>
   intro listed a w _ hr hm hy hS H
   refine⟨fun h=>(by rw [h] at hr;cases hr),fun j hj => ?_⟩
   by_cases hji:j=i
   ·subst hji;exact hy.wpOp hi hS ⟨fun _=>hS,H⟩
   ·have:=ready_mono hj hji
    rw [H.1] at this
    cases this
 | succ fuel ih =>
   intro listed a w hfree hr hm hy hS H
   refine⟨fun h=>(by rw [h] at hr;cases hr),fun j hj => ?_⟩
   by_cases hji:j=i
   ·subst hji;exact hy.wpOp hi hS ⟨fun _=>hS,H⟩
   ·have hjk:j≠k:=fun e=>by subst e;exact waits_unlisted hwm hm hj
    have hjm:j≠m:=fun e=>by subst e;exact waits_not hwt hr hj
    have h1:=H.2 j (ready_mono hj hji)
    obtain⟨hjun,oj,hoj,hall⟩:=mem_ready.1 hj
    have hnot:∀ e∈oj.after,Region.binds md e=true→e.on≠i:=fun e he hb heq=>by
     have h1:=hall e he hb
     have h0:=(mem_ready.1 hr).1
     rw [heq] at h1
     rcases Nat.lt_or_ge i listed.size with h' | h'
     ·simp [h'] at h0 h1;rw [h0] at h1;cases h1
     ·simp [Array.getElem?_eq_none h'] at h1
    have h2:=wpOp_putIf hoj (hfree j oj hoj hji hjun hnot) (fun cs b=>hsel i oi cs b hi) (fun cs b=>hsel j oj cs b hoj) hQ hy h1
    have hfree':∀ m ok,ops[m]? = some ok→m≠i→(listed.setIfInBounds j true).getD m true=false →
      (∀ e∈ok.after,Region.binds md e=true→e.on≠i)→oi.apart ops ok=true:=fun m ok hm hmi hun hno=>by
     refine hfree m ok hm hmi ?_ hno
     by_cases hjm:j=m
     ·subst hjm;exact hjun
     ·rw [getD_set_ne true hjm] at hun;exact hun
    refine wpOp_mono (fun a' w' h3=>⟨h3.2.1,ih (listed.setIfInBounds j true) a' w' hfree' (ready_mono hr (Ne.symm hji)) (by rw [getD_set_ne true hjm];exact hm) h3.1 (h3.2.1 hjk) ?_⟩) h2
    rw [Array.setIfInBounds_comm _ _ hji]
    exact h3.2.2
theorem wpAnyU_takeT {i:Nat} (m:Nat) {oi:Oper} {v:Value} {fuel:Nat} {listed:Array Bool} {a:Act} {w:World} (hi:ops[i]? = some oi)
  (hs:Region.noSelect ops=true) (hf:Region.free md ops listed i=true) (hr:(Region.ready md ops listed).contains i=true) (hk:(waitsFor md ops k m && waitsFor md ops m i && !(i==k) && !(i==m) && !(listed.getD m true))=true)
  (hQ:∀ c a w,Q (.panic c) (a.put oi.dst v) w→Q (.panic c) a w) (hw:Region.wanted oi (yielded ops a.tmps)=true) (hy:∀ w,S w→(execOp a.eval oi).run P w = .ok (.value v) w) (hS:S w)
  (h:wpAnyU P md ops Q S k fuel (listed.setIfInBounds i true) (a.put oi.dst v) w):wpAnyU P md ops Q S k (fuel+1) listed a w:=by
 simp only [Bool.and_eq_true,Bool.not_eq_true',beq_eq_false_iff_ne] at hk
 exact wpAnyU_firstT hi (Region.noSelect_spec hs) hQ hk.1.1.2 hk.1.1.1.1 hk.1.1.1.2 hk.1.2 fuel listed a w (Region.free_spec hi hf) (by simpa using hr) hk.2 (Or.inl ⟨hw,hy⟩) hS h
theorem wpAnyU_takeTD {i:Nat} (m:Nat) {oi:Oper} {v:Value} {d:Nat} {fuel:Nat} {listed:Array Bool} {a:Act} {w:World} (hi:ops[i]? = some oi) (hd:oi.dst=some d)
  (hs:Region.noSelect ops=true) (hf:Region.free md ops listed i=true) (hr:(Region.ready md ops listed).contains i=true) (hk:(waitsFor md ops k m && waitsFor md ops m i && !(i==k) && !(i==m) && !(listed.getD m true))=true)
  (hQ:∀ c a w,Q (.panic c) (a.put (some d) v) w→Q (.panic c) a w) (hw:Region.wanted oi (yielded ops a.tmps)=true) (hy:∀ w,S w→(execOp a.eval oi).run P w = .ok (.value v) w) (hS:S w)
  (h:wpAnyU P md ops Q S k fuel (listed.setIfInBounds i true) { tmps:=a.tmps.setIfInBounds d v,defers:=a.defers } w):wpAnyU P md ops Q S k (fuel+1) listed a w :=
 wpAnyU_takeT m (v:=v) hi hs hf hr hk (by rw [hd];exact hQ) hw hy hS (by rw [hd];exact h)
end
end Go.Proofs.YtgndgkjefgjamaaGreat

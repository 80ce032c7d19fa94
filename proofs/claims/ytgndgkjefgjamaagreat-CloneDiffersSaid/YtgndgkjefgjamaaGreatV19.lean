/-
  The law's run over clones: the walk.; The law's small over events; the law of a run: the images of clones are what they should be.; The reference's bitmaps of one word: bit, Check, Fits, Get: the walks.; The reference's bitmaps of one word: New, Copy, Set, FromExtents: the walks.; The reference's bitmap of extents, of one word: the walk.; Plain words: what the law of a clone's changed sectors asks of a run. No program in sight.; Drawn regions: a load may be taken first where the condition holds behind every operation. No program in sight.
-/
import Derived.BigQuiet
import Derived.Deep.DeepCutAuto
import Derived.Laws.Bits64b
import Derived.BigRegion
import Derived.Test.YtgndgkjefgjamaaGreatV01
import Derived.Test.YtgndgkjefgjamaaGreatV02
import Derived.Test.YtgndgkjefgjamaaGreatV03
import Derived.Test.YtgndgkjefgjamaaGreatV04
import Derived.Test.YtgndgkjefgjamaaGreatV05
import Derived.Test.YtgndgkjefgjamaaGreatV06
import Derived.Test.YtgndgkjefgjamaaGreatV07
import Derived.Test.YtgndgkjefgjamaaGreatV08
import Derived.Test.YtgndgkjefgjamaaGreatV09
import Derived.Test.YtgndgkjefgjamaaGreatV10
import Derived.Test.YtgndgkjefgjamaaGreatV11
import Derived.Test.YtgndgkjefgjamaaGreatV12
import Derived.Test.YtgndgkjefgjamaaGreatV13
import Derived.Test.YtgndgkjefgjamaaGreatV14
import Derived.Test.YtgndgkjefgjamaaGreatV15
import Derived.Test.YtgndgkjefgjamaaGreatV16
import Derived.Test.YtgndgkjefgjamaaGreatV17
import Derived.Test.YtgndgkjefgjamaaGreatV18
set_option linter.unusedVariables false
set_option linter.unusedSimpArgs false
set_option linter.unusedSectionVars false
set_option linter.unnecessarySimpa false
namespace Go.Proofs.YtgndgkjefgjamaaGreat
open Go.RowKit Go.Shelf
attribute [local go_sem] Oper.semAt_some

def RunRet (s':CSt) (w:World) (e:Ending) (w':World):Prop :=
 ∃ row A' c' D' d' G' g' B' bc' sa' sc' ca' cc',e = .returned (.tuple #[.agg row,.bool true])∧row=(stl s' A' c' D' d' G' g' B' bc' sa' sc' ca' cc')∧StM s' A' c' D' d' G' g' B' bc' sa' sc' ca' cc' (Bl w'.heap.size) w'∧Below w.heap.size w w'
def RunSt (s':CSt) (sb rb:Nat) (W:World):Prop :=
 ∃ row A' c' D' d' G' g' B' bc' sa' sc' ca' cc',row=(stl s' A' c' D' d' G' g' B' bc' sa' sc' ca' cc')∧W.heap[sb]? = some (.cells row 79 (0,0))∧StM s' A' c' D' d' G' g' B' bc' sa' sc' ca' cc' (fun q=>(q≠sb∧q≠rb)∧q<W.heap.size) W
theorem results_cell_row2 {P:Program} {fn:Func} {p q:Tmp} {ty:TypeId} (h:fn.results = #[.cell p ty,.tmp q]) (tmps:Array Value) (w:World) (g:Nat) (t:TypeId) (cs:Array Value) (fr:Nat × Nat) (d:TypeDesc) (v:Value)
  (hp:tmps.getD p undef = .pointer (some ⟨g,0,none⟩)) (hq:tmps.getD q undef=v) (hg:w.heap[g]? = some (.cells cs t fr))
  (hu:P.underlying ty=some d) (hd:(match d with | .struct _ | .array _ _=>true | _=>false)=true) (hi:(P.info? ty).map (·.size)=some cs.size) :
  (results fn tmps).run P w = .ok (.tuple #[.agg cs,v]) w:=by
 have hp':tmps[p]?.getD undef = .pointer (some ⟨g,0,none⟩):=by simpa using hp
 have hq':tmps[q]?.getD undef=v:=by simpa using hq
 simp [results,h,hp',hq',asAddr,run_loadVar_row w g t ty cs fr d hg hu hd hi]
set_option maxHeartbeats 8000000 in
set_option maxRecDepth 100000 in
theorem run37_any (A0:Option Addr) (c0 n:Nat) (sz a:Int) (es:List CEv) (im:Img) (w:World) (hn:es.length=n) (h0:SlAt encEv w (Bl w.heap.size) A0 es) (hl:n≤30) (hsm:∀ e∈es,e.2.2.2.2.length≤20) (hsz:0≤sz∧sz<256) (ha:1+sz % 12=a) (him:[a,4].map zimg=im) :
  Calls Tryz.prog 37 #[.int .u8 sz,.slice A0 n c0] w (RunRet (cRun im es n) w):=by
 have ha12:1≤a∧a≤12:=by omega
 obtain⟨m,hm⟩:∃ m,sz % 12=m:=⟨_,rfl⟩
 have hmt:sz.tmod 12=m:=by rw [Int.tmod_eq_emod_of_nonneg hsz.1];exact hm
 have hm12:0≤m∧m<12:=by omega
 obtain rfl:a=1+m:=by omega
 have hz0:sizesN [1+m,4]=0:=by
  unfold sizesN
  rw [if_neg (by simp),if_neg]
  simp [badSz]
  omega
 have hlen:lens im=[1+m,4]:=by
  rw [← him]
  simp [lens,lenI,zimg]
  omega
 have HINV:=Lib.hid (fun k (h1:k≤es.length)=>cRun_inv (es:=es) hlen hz0 k h1 (by omega))
 have HIM:=Lib.hid him
 have HLEN:=Lib.hid hlen
 have hil:im.length≤2:=by rw [← him];simp
 obtain⟨rb,hrb⟩:∃ rb,w.heap.size=rb:=⟨_,rfl⟩
 obtain⟨W0,hW0⟩:∃ W0,w.alloc (.cells #[.slice none 0 0,.slice none 0 0,.slice none 0 0,.slice none 0 0,.slice none 0 0,.slice none 0 0,.slice none 0 0,.slice none 0 0,.slice none 0 0,.slice none 0 0,.slice none 0 0,.slice none 0 0,.slice none 0 0,.slice none 0 0,.slice none 0 0,.slice none 0 0,.slice none 0 0,.slice none 0 0,.slice none 0 0,.slice none 0 0,.slice none 0 0,.slice none 0 0,.slice none 0 0,.slice none 0 0,.slice none 0 0,.slice none 0 0,.slice none 0 0,.slice none 0 0,.slice none 0 0,.slice none 0 0,.slice none 0 0,.slice none 0 0,.slice none 0 0,.slice none 0 0,.slice none 0 0,.slice none 0 0,.slice none 0 0,.slice none 0 0,.slice none 0 0,.slice none 0 0,.slice none 0 0,.slice none 0 0,.slice none 0 0,.slice none 0 0,.int .i64 0,.slice none 0 0,.slice none 0 0,.slice none 0 0,.slice none 0 0,.bool false,.bool false,.bool false,.bool false,.bool false] 79)=W0:=⟨_,rfl⟩
 have hb0:Below w.heap.size w W0:=by rw [← hW0];exact ext_alloc (Below.refl _ _)
 have hr0:W0.heap[rb]? = some (.cells #[.slice none 0 0,.slice none 0 0,.slice none 0 0,.slice none 0 0,.slice none 0 0,.slice none 0 0,.slice none 0 0,.slice none 0 0,.slice none 0 0,.slice none 0 0,.slice none 0 0,.slice none 0 0,.slice none 0 0,.slice none 0 0,.slice none 0 0,.slice none 0 0,.slice none 0 0,.slice none 0 0,.slice none 0 0,.slice none 0 0,.slice none 0 0,.slice none 0 0,.slice none 0 0,.slice none 0 0,.slice none 0 0,.slice none 0 0,.slice none 0 0,.slice none 0 0,.slice none 0 0,.slice none 0 0,.slice none 0 0,.slice none 0 0,.slice none 0 0,.slice none 0 0,.slice none 0 0,.slice none 0 0,.slice none 0 0,.slice none 0 0,.slice none 0 0,.slice none 0 0,.slice none 0 0,.slice none 0 0,.slice none 0 0,.slice none 0 0,.int .i64 0,.slice none 0 0,.slice none 0 0,.slice none 0 0,.slice none 0 0,.bool false,.bool false,.bool false,.bool false,.bool false] 79 (0,0)):=by rw [← hW0, ← hrb];exact heap_alloc_new _ _
 have hrl:rb<W0.heap.size:=(Array.getElem?_eq_some_iff.1 hr0).1
 have HR0:=Lib.hid hr0
 have H0:Hid (∀ W,Below w.heap.size w W→SlAt encEv W (Bl w.heap.size) A0 es):=fun W hb=>h0.below hb
 -- the literal of the two sizes
 obtain⟨W1,hW1⟩:∃ W1,W0.alloc (.cells #[.int .i64 (1+m),.int .i64 4] 3)=W1:=⟨_,rfl⟩
 have hb1:Below W0.heap.size W0 W1:=by rw [← hW1];exact ext_alloc (Below.refl _ _)
 obtain⟨lb,hlb⟩:∃ lb,W0.heap.size=lb:=⟨_,rfl⟩
 have hlr:W1.heap[lb]? = some (.cells #[.int .i64 (1+m),.int .i64 4] 3 (0,0)):=by rw [← hW1, ← hlb];exact heap_alloc_new _ _
 have hll:=(Array.getElem?_eq_some_iff.1 hlr).1
 have hsl:SlAt encInt W1 (Bl W1.heap.size) (some ⟨lb,0,none⟩) [1+m,4]:=litS (E:=encInt) (S0:=fun _=>False) (css:=[[.int .i64 (1+m)],[.int .i64 4]]) hlr rfl ⟨⟨rfl,by unfold I64;omega⟩,⟨rfl,by unfold I64;omega⟩,trivial⟩ (fun _ hh=>hh.elim) hll (fun hh=>hh)
 have HNW:=Lib.hid (refNew07_any (some ⟨lb,0,none⟩) 2 2 [1+m,4] W1 rfl hsl hz0)
 rw [him] at HNW
 have HW0:=Lib.hid hW0
 have HW1:=Lib.hid hW1
 have HLB:=Lib.hid hlb
 clear h0 hr0 hm hsl hlr him hlen
 go_enter Tryz.func37,Tryz.ntmps37
 go_upto_region 1 with (fail)
 try rw [HW0.out]
 clear hW0
 go_wp2_with fail
 try rw [HW1.out]
 refine HNW.out.mono ?_
 rintro e w2 ⟨Bi,bi,rfl,i1,i2,i3,hb2⟩
 have HI3:=Lib.hid i3
 have hB2:Below W0.heap.size W0 w2:=ext_trans hb1 hb2
 have HBG:=Lib.hid (begin_any Bi bi im.length im w2 rfl (i3.more (fun q hq=>hq.2)) ⟨by omega,fun r hr=>by
  have h1:lenI r∈Proofs.YtgndgkjefgjamaaGreat.lens im:=List.mem_map.2 ⟨r,hr,rfl⟩
  rw [HLEN.out] at h1
  unfold lenI at h1
  simp at h1
  omega,by simp,fun x hx=>by cases hx⟩ (by rw [HLEN.out];exact hz0))
 clear HNW i3 hW1 hlb
 go_wp2_with fail
 refine HBG.out.mono ?_
 rintro e w3 ⟨A5,c5,D5,d5,G5,g5,rfl,hat,hb3⟩
 have HAT:=Lib.hid hat
 clear HBG hat
 go_upto_region 3 with (fail)
 obtain⟨cb,hcb⟩:∃ cb,w3.heap.size=cb:=⟨_,rfl⟩
 obtain⟨w4,hw4⟩:∃ W,w3.alloc (.cells #[.slice A5 im.length c5,.slice D5 1 d5,.slice G5 0 g5] 29)=W:=⟨_,rfl⟩
 have hr4:w4.heap[cb]? = some (.cells #[.slice A5 im.length c5,.slice D5 1 d5,.slice G5 0 g5] 29 (0,0)):=by rw [← hw4, ← hcb];exact heap_alloc_new _ _
 obtain⟨v0,v1,v2,vf⟩:=blk3 hr4
 rw [hw4]
 have HB4:Hid (Below W0.heap.size W0 w4):=by rw [← hw4];exact (ext_trans hB2 hb3).alloc (ext_trans hB2 hb3).size _
 have HAT4:Hid (ClAt ((im,[(1,0,[])]),[]) A5 c5 D5 d5 G5 g5 (fun q=>W0.heap.size≤q∧q<w4.heap.size) w4):=by
  rw [← hw4]
  exact HAT.out.keep (fun q hq=>Below.heap_alloc _ _ _ hq.2) (fun q hq=>⟨by have:=hq.1;have:=hB2.size;omega,by have:=hq.2;simp;omega⟩)
 have HI4:Hid (SlAt (encSl encSec) w4 (fun q=>W0.heap.size≤q∧q<w4.heap.size) Bi im):=by
  have h34:Below w2.heap.size w2 w4:=by rw [← hw4];exact hb3.alloc hb3.size _
  exact (HI3.out.blk (fun q hq=>h34.block q hq.2)).more (fun q hq=>⟨by have:=hq.1;have:=hb1.size;omega,by have:=hq.2;have:=h34.size;omega⟩)
 clear hw4
 obtain⟨sb,hsb⟩:∃ sb,w4.heap.size=sb:=⟨_,rfl⟩
 obtain⟨wz,hwz⟩:∃ W,w4.alloc (.cells #[.slice none 0 0,.slice none 0 0,.slice none 0 0,.slice none 0 0,.slice none 0 0,.slice none 0 0,.slice none 0 0,.slice none 0 0,.slice none 0 0,.slice none 0 0,.slice none 0 0,.slice none 0 0,.slice none 0 0,.slice none 0 0,.slice none 0 0,.slice none 0 0,.slice none 0 0,.slice none 0 0,.slice none 0 0,.slice none 0 0,.slice none 0 0,.slice none 0 0,.slice none 0 0,.slice none 0 0,.slice none 0 0,.slice none 0 0,.slice none 0 0,.slice none 0 0,.slice none 0 0,.slice none 0 0,.slice none 0 0,.slice none 0 0,.slice none 0 0,.slice none 0 0,.slice none 0 0,.slice none 0 0,.slice none 0 0,.slice none 0 0,.slice none 0 0,.slice none 0 0,.slice none 0 0,.slice none 0 0,.slice none 0 0,.slice none 0 0,.int .i64 0,.slice none 0 0,.slice none 0 0,.slice none 0 0,.slice none 0 0,.bool false,.bool false,.bool false,.bool false,.bool false] 79)=W:=⟨_,rfl⟩
 have HRZ:Hid (wz.heap[sb]? = some (.cells #[.slice none 0 0,.slice none 0 0,.slice none 0 0,.slice none 0 0,.slice none 0 0,.slice none 0 0,.slice none 0 0,.slice none 0 0,.slice none 0 0,.slice none 0 0,.slice none 0 0,.slice none 0 0,.slice none 0 0,.slice none 0 0,.slice none 0 0,.slice none 0 0,.slice none 0 0,.slice none 0 0,.slice none 0 0,.slice none 0 0,.slice none 0 0,.slice none 0 0,.slice none 0 0,.slice none 0 0,.slice none 0 0,.slice none 0 0,.slice none 0 0,.slice none 0 0,.slice none 0 0,.slice none 0 0,.slice none 0 0,.slice none 0 0,.slice none 0 0,.slice none 0 0,.slice none 0 0,.slice none 0 0,.slice none 0 0,.slice none 0 0,.slice none 0 0,.slice none 0 0,.slice none 0 0,.slice none 0 0,.slice none 0 0,.slice none 0 0,.int .i64 0,.slice none 0 0,.slice none 0 0,.slice none 0 0,.slice none 0 0,.bool false,.bool false,.bool false,.bool false,.bool false] 79 (0,0))):=by rw [← hwz, ← hsb];exact heap_alloc_new _ _
 have HBZ:Hid (Below W0.heap.size W0 wz):=by rw [← hwz];exact HB4.out.alloc HB4.out.size _
 have HBZ4:Hid (∀ q,q<w4.heap.size→wz.heap[q]? = w4.heap[q]?):=by rw [← hwz];exact fun q hq=>Below.heap_alloc _ _ _ hq
 have HSZ:Hid (wz.heap.size=sb+1):=by rw [← hwz, ← hsb];simp [Hid]
 obtain⟨row0,hrow0⟩:∃ r:Array Value,#[.slice A5 im.length c5,.slice D5 1 d5,.slice G5 0 g5,.slice Bi im.length bi,.slice none 0 0,.slice none 0 0,.slice none 0 0,.slice none 0 0,.slice none 0 0,.slice none 0 0,.slice none 0 0,.slice none 0 0,.slice none 0 0,.slice none 0 0,.slice none 0 0,.slice none 0 0,.slice none 0 0,.slice none 0 0,.slice none 0 0,.slice none 0 0,.slice none 0 0,.slice none 0 0,.slice none 0 0,.slice none 0 0,.slice none 0 0,.slice none 0 0,.slice none 0 0,.slice none 0 0,.slice none 0 0,.slice none 0 0,.slice none 0 0,.slice none 0 0,.slice none 0 0,.slice none 0 0,.slice none 0 0,.slice none 0 0,.slice none 0 0,.slice none 0 0,.slice none 0 0,.slice none 0 0,.slice none 0 0,.slice none 0 0,.slice none 0 0,.slice none 0 0,.int .i64 1,.slice none 0 0,.slice none 0 0,.slice none 0 0,.slice none 0 0,.bool false,.bool false,.bool false,.bool false,.bool true]=r:=⟨_,rfl⟩
 have HRW0:=Lib.hid hrow0
 have HALL:Hid (row0.all (·.oneCell')=true∧(Tryz.prog.info? 79).map (·.size)=some row0.size∧row0.size=54):=by
  rw [← hrow0];exact⟨by simp [Value.oneCell'],by kernel_rfl,by simp⟩
 clear hrow0
 go_upto_region 4 with (first | (refine wpList_store_row rfl 79 _ _ rfl sb row0 rfl (congrArg Value.agg HRW0.out) 79 _ HRZ.out HALL.out.2.1 (st_size HALL.out.2.1 (by kernel_rfl) (by kernel_rfl)) HALL.out.1 ?_) | fail)
 obtain⟨w5,hw5⟩:∃ W,wz.setRow sb row0=W:=⟨_,rfl⟩
 have hr5:w5.heap[sb]? = some (.cells row0 79 (0,0)):=by rw [← hw5];exact setRow_heap wz sb _ row0 _ _ HRZ.out
 have hcs:w5.cell? ⟨sb,5,none⟩=some (.slice none 0 0):=by rw [cell_of_row w5 sb 5 _ _ _ hr5, ← HRW0.out];rfl
 have hfz:w5.frozen? ⟨sb,5,none⟩=false:=by simp [World.frozen?,hr5]
 rw [hw5]
 obtain⟨w6,hw6⟩:∃ W,w5.setCell ⟨sb,5,none⟩ (.slice Bi im.length bi)=W:=⟨_,rfl⟩
 go_upto_region 5 with (fail)
 have hr6:w6.heap[sb]? = some (.cells (row0.setIfInBounds 5 (.slice Bi im.length bi)) 79 (0,0)):=by rw [← hw6];exact row_set hr5 5 _
 have h6:∀ q,q<w4.heap.size→w6.heap[q]? = w4.heap[q]? := fun q hq=>by
  rw [← hw6, ← hw5]
  exact (heap_setCell_other _ _ _ _ (by show q≠sb;omega)).trans ((setRow_other wz sb q row0 (by omega)).trans (HBZ4.out q hq))
 have hz6:w6.heap.size=sb+1:=by rw [← hw6, ← hw5];simp only [World.setCell,Array.size_modify,setRow_size];exact HSZ.out
 have hB6:Below w.heap.size w w6:=by
  rw [← hw6, ← hw5]
  exact (below_setRow (ext_trans hb0 HBZ.out) (by have:=hb0.size;have:=HB4.out.size;omega) row0).setCell (p:=⟨sb,5,none⟩) (by show w.heap.size≤sb;have:=hb0.size;have:=HB4.out.size;omega) _
 have hst6:Hid (RunSt (cRun im es 0) sb rb w6):=by
  refine⟨_,A5,c5,D5,d5,G5,g5,Bi,bi,fun j=>if j=1 then Bi else none,fun j=>if j=1 then bi else 0,fun _=>none,fun _=>0, ?_,hr6, ?_, ?_, ?_, ?_⟩
  ·rw [← HRW0.out];rfl
  ·exact HAT4.out.keep (fun q hq=>h6 q hq.2) (fun q hq=>⟨⟨by have:=hq.2;omega,by have:=hq.1;omega⟩,by have:=hq.2;omega⟩)
  ·exact⟨i1,i2,(HI4.out.blk (fun q hq=>h6 q hq.2)).more (fun q hq=>⟨⟨by have:=hq.2;omega,by have:=hq.1;omega⟩,by have:=hq.2;omega⟩)⟩
  ·intro j hj
   by_cases h1:j=1
   ·subst h1
    exact⟨i1,i2,(HI4.out.blk (fun q hq=>h6 q hq.2)).more (fun q hq=>⟨⟨by have:=hq.2;omega,by have:=hq.1;omega⟩,by have:=hq.2;omega⟩)⟩
   ·show ImA (if j=1 then Bi else none) (if j=1 then bi else 0) (if j=1 then im else []) _ _
    rw [if_neg h1,if_neg h1,if_neg h1]
    exact⟨by simp,by simp,SlAt.nil_⟩
  ·intro j hj
   exact⟨by simp [cRun,cSt0],by simp,SlAt.nil_⟩
 have hrb6:Hid (∃ z:Array Value,w6.heap[rb]? = some (.cells z 79 (0,0))∧z.size=54):=⟨_,(h6 rb (by have:=HB4.out.size;omega)).trans ((HB4.out.block rb hrl).trans HR0.out),by simp⟩
 have hsb6:rb<sb∧sb<w6.heap.size:=⟨by have:=HB4.out.size;omega,by omega⟩
 clear hr4 hr5 hr6 hw5 hcs hfz hwz HR0 HRW0 HALL HRZ HBZ HBZ4 HSZ HB4 HAT4 HI4 HAT HI3 v0 v1 v2 vf hb0 hb1 hb2 hb3 h6 hz6 hsb hcb
 clear hw6
 generalize hbig:(Value.agg #[.slice A5 im.length c5,.slice D5 1 d5,.slice G5 0 g5,.slice Bi im.length bi,.slice none 0 0,.slice none 0 0,.slice none 0 0,.slice none 0 0,.slice none 0 0,.slice none 0 0,.slice none 0 0,.slice none 0 0,.slice none 0 0,.slice none 0 0,.slice none 0 0,.slice none 0 0,.slice none 0 0,.slice none 0 0,.slice none 0 0,.slice none 0 0,.slice none 0 0,.slice none 0 0,.slice none 0 0,.slice none 0 0,.slice none 0 0,.slice none 0 0,.slice none 0 0,.slice none 0 0,.slice none 0 0,.slice none 0 0,.slice none 0 0,.slice none 0 0,.slice none 0 0,.slice none 0 0,.slice none 0 0,.slice none 0 0,.slice none 0 0,.slice none 0 0,.slice none 0 0,.slice none 0 0,.slice none 0 0,.slice none 0 0,.slice none 0 0,.slice none 0 0,.int .i64 1,.slice none 0 0,.slice none 0 0,.slice none 0 0,.slice none 0 0,.bool false,.bool false,.bool false,.bool false,.bool true])=big
 clear hbig
 have HS1:Hid (∀ wr,Below w.heap.size w wr→SlAt encEv wr (Bl w.heap.size) A0 es):=H0.out
 subst hn
 clear H0 HLB HW0 HW1
 go_upto_region 6 with (fail)
 go_loopw [11] (fun i wr=>∃ k:Nat,k≤es.length∧i = .int .i64 k∧Below w.heap.size w wr∧Hid (RunSt (cRun im es k) sb rb wr)∧Hid (∃ z:Array Value,wr.heap[rb]? = some (.cells z 79 (0,0))∧z.size=54)∧(rb<sb∧sb<wr.heap.size)) (fun i _=>es.length - (intOf i).toNat)
 case atStart=>exact⟨0,by omega,rfl,hB6,hst6,hrb6,hsb6⟩
 case round =>
  clear hst6 hrb6 hB6 hsb6
  obtain⟨wo,rfl⟩:∃ wo:World,wo=wr:=⟨_,rfl⟩
  obtain⟨k,hk,rfl,hB,hst,hrbx,hsb1,hsb2⟩:=hrel
  obtain⟨row,A,c,D,d,G,g,B,bc,sa,sc,ca,cc,hR,hrow,hM⟩:=hst.out
  have HRW:=Lib.hid hrow
  have HRR:=Lib.hid hR
  have HMM:=Lib.hid hM
  have HAL:=Lib.hid (st_all hR)
  have h53:∀ W,Below wo.heap.size wo W→W.cell? ⟨sb,53,none⟩=some (.bool true):=fun W hb=>by
   rw [cell_of_row W sb 53 _ _ _ ((hb.block sb hsb2).trans HRW.out),HRR.out];rfl
  have H53:=Lib.hid h53
  have c53:=h53 wo (Below.refl _ _)
  have hkz:(0:Int)≤k:=by omega
  have hk30:(k:Int)≤30:=by omega
  clear hst hrow hR hM h53
  by_cases hlt:k<es.length
  ·obtain⟨b,off,Dw,dw,rfl,hb,e0,e1,e2,e3,e4,hk1,hk2,hv1,hv2,hc1,hc2,hsd⟩:=(HS1.out wo hB).ev hlt
   have hki:(k:Int)<es.length:=by omega
   have hk29:(k:Int)<30:=by omega
   have hsmk:=hsm _ (List.getElem_mem hlt)
   have hcs:=cRun_succ im hlt
   obtain⟨⟨kd,wh,v,st,data⟩,he⟩:∃ x,es[k]=x:=⟨_,rfl⟩
   rw [he] at e0 e1 e2 e3 e4 hk1 hk2 hv1 hv2 hc1 hsd hsmk hcs
   simp only at e0 e1 e2 e3 e4 hk1 hk2 hv1 hv2 hc1 hsd hsmk
   have hbl:b<wo.heap.size:=by have h1:b<w.heap.size:=hb;have:=hB.size;omega
   have HEV:Hid (∀ W,Below wo.heap.size wo W→W.cell? ⟨b,off+k * 5,none⟩=some (.int .u8 kd)∧W.cell? ⟨b,off+k * 5+1,none⟩=some (.int .u8 wh)∧W.cell? ⟨b,off+k * 5+2,none⟩=some (.int .i64 v)∧W.cell? ⟨b,off+k * 5+3,none⟩=some (.int .i64 st)∧W.cell? ⟨b,off+k * 5+4,none⟩=some (.slice Dw data.length dw)):=fun W hbw=>⟨(hbw.cell (p:=⟨b,off+k * 5,none⟩) hbl).trans e0,(hbw.cell (p:=⟨b,off+k * 5+1,none⟩) hbl).trans e1,(hbw.cell (p:=⟨b,off+k * 5+2,none⟩) hbl).trans e2,(hbw.cell (p:=⟨b,off+k * 5+3,none⟩) hbl).trans e3,(hbw.cell (p:=⟨b,off+k * 5+4,none⟩) hbl).trans e4⟩
   have hinv:=HINV.out k hk
   have hinv2:=HINV.out (k+1) hlt
   obtain⟨s,hs⟩:∃ s,cRun im es k=s:=⟨_,rfl⟩
   rw [hs] at hinv hcs HRR HMM
   have HST:=Lib.hid (fun W (hbw:Below wo.heap.size wo W)=>sstep_any (1+m) k (wh % 4).toNat s A D G B Dw c d g bc dw data.length sa sc ca cc (fun q=>q≠sb∧q≠rb) row HRR.out kd wh v st data W ha12 (by omega) hinv (HMM.out.keep (fun q hq=>hbw.block q hq.2) (fun q hq=>⟨hq.1,by have:=hq.2;have:=hbw.size;omega⟩)) hk1 hk2 (by omega) rfl ((hsd.more (Bl.mono hB.size)).fwd hbw) ⟨hv1,hv2⟩ (by omega) ⟨hc1,hc2⟩)
   rw [← hcs] at HST
   obtain⟨s',hs'⟩:∃ s',cRun im es (k+1)=s':=⟨_,rfl⟩
   rw [hs'] at HST hinv2
   have HS':=Lib.hid hs'
   have HINV2:=Lib.hid hinv2
   have hSw:Below wo.heap.size wo wo.drew:=(Below.refl _ _).drew
   clear e0 e1 e2 e3 e4 hv1 hv2 hc1 hc2 hsd hsmk hcs hinv hinv2 hs hs' he hk1 hk2 HS1
   go_upto_region 8 with (fail)
   refine wp_region_U (fun W'=>Below wo.heap.size wo W') 6 (by kernel_rfl) ?_
   refine wpAnyU_takeD (i:=0) (v := .agg row) rfl rfl (by kernel_rfl) (by kernel_rfl) (by kernel_rfl) (by kernel_rfl) (fun _ _ _ h=>h) (by rfl) ?_ hSw ?_
   ·intro W9 hW9
    exact exec_load_row 79 _ rfl sb rfl 79 row (0,0) _ ((hW9.block sb hsb2).trans HRW.out) Tryz.underlying79 rfl HAL.out.2
   try simp only [List.setIfInBounds_toArray,List.set_cons_zero,List.set_cons_succ]
   refine wpAnyU_takeD (i:=1) (v := ?_) rfl rfl (by kernel_rfl) (by kernel_rfl) (by kernel_rfl) (by kernel_rfl) (fun _ _ _ h=>h) (by rfl) ?_ hSw ?_
   rotate_left 1
   ·intro W9 hW9
    try dsimp only at hW9
    obtain _:=trivial
    go_simp
    try with_reducible rfl
   try simp only [List.setIfInBounds_toArray,List.set_cons_zero,List.set_cons_succ]
   refine wpAnyU_takeD (i:=2) (v := ?_) rfl rfl (by kernel_rfl) (by kernel_rfl) (by kernel_rfl) (by kernel_rfl) (fun _ _ _ h=>h) (by rfl) ?_ hSw ?_
   rotate_left 1
   ·intro W9 hW9
    try dsimp only at hW9
    obtain _:=trivial
    go_simp
    try with_reducible rfl
   try simp only [List.setIfInBounds_toArray,List.set_cons_zero,List.set_cons_succ]
   refine wpAnyU_takeD (i:=3) (v := ?_) rfl rfl (by kernel_rfl) (by kernel_rfl) (by kernel_rfl) (by kernel_rfl) (fun _ _ _ h=>h) (by rfl) ?_ hSw ?_
   rotate_left 1
   ·intro W9 hW9
    try dsimp only at hW9
    obtain _:=trivial
    go_simp
    try with_reducible rfl
   try simp only [List.setIfInBounds_toArray,List.set_cons_zero,List.set_cons_succ]
   refine wpAnyU_takeD (i:=4) (v := ?_) rfl rfl (by kernel_rfl) (by kernel_rfl) (by kernel_rfl) (by kernel_rfl) (fun _ _ _ h=>h) (by rfl) ?_ hSw ?_
   rotate_left 1
   ·intro W9 hW9
    try dsimp only at hW9
    obtain⟨q0,q1,q2,q3,q4⟩:=HEV.out W9 hW9
    go_simp
    try with_reducible rfl
   try simp only [List.setIfInBounds_toArray,List.set_cons_zero,List.set_cons_succ]
   refine wpAnyU_op (i:=5) (by kernel_rfl) rfl rfl (fun K hK => ?_)
   go_wp2_with fail
   refine (HST.out wo.drew hSw).mono ?_
   rintro e w7 ⟨row',A',c',D',d',G',g',B',bc',sa',sc',ca',cc',rfl,hR',hM',hb7⟩
   have hS7:Below wo.heap.size wo w7:=ext_trans hSw hb7
   have HR2:=Lib.hid hR'
   have HM2:=Lib.hid hM'
   have HAL2:=Lib.hid (st_all hR')
   have hrow7:=(hS7.block sb hsb2).trans HRW.out
   clear hR' hM' HST
   refine hK.out _ _ (fun _=>hS7) ?_
   clear hK K
   try simp only [Act.put,List.setIfInBounds_toArray,List.set_cons_zero,List.set_cons_succ]
   refine wpAnyU_op (i:=6) (by kernel_rfl) rfl rfl (fun K hK => ?_)
   refine wp_store_row 79 _ _ rfl sb row' rfl rfl 79 _ hrow7 HAL2.out.2 (by rw [show row.size=54 from by rw [HRR.out];rfl];rw [show row'.size=54 from by rw [HR2.out];rfl]) HAL2.out.1 ?_
   refine hK.out _ _ (fun h=>absurd rfl h) ?_
   clear hK K
   refine wpAnyU_done (by kernel_rfl) ?_ _
   obtain⟨w8,hw8⟩:∃ W,w7.setRow sb row'=W:=⟨_,rfl⟩
   have hrow8:w8.heap[sb]? = some (.cells row' 79 (0,0)):=by rw [← hw8];exact setRow_heap w7 sb _ row' _ _ hrow7
   have hk8:∀ q,q≠sb→w8.heap[q]? = w7.heap[q]? := fun q hq=>by rw [← hw8];exact setRow_other w7 sb q row' hq
   have hz8:w8.heap.size=w7.heap.size:=by rw [← hw8];exact setRow_size _ _ _
   have hkp:∀ q,((q≠sb∧q≠rb)∨wo.drew.heap.size≤q)∧q<w7.heap.size→w8.heap[q]? = w7.heap[q]? := fun q hq=>hk8 q (by
    rcases hq.1 with h1 | h1
    ·exact h1.1
    ·have h2:wo.heap.size≤q:=h1
     omega)
   have HRT:=Lib.hid (right_any (1+m) (k+1) s' A' D' G' B' c' d' g' bc' sa' sc' ca' cc' w8 ha12 (by omega) HINV2.out (HM2.out.keep hkp (fun q hq=>by rw [hz8];exact hq.2)))
   rw [← HR2.out] at HRT
   have HST8:Hid (RunSt s' sb rb w8):=⟨row',A',c',D',d',G',g',B',bc',sa',sc',ca',cc',HR2.out,hrow8,HM2.out.keep hkp (fun q hq=>⟨by
    rcases hq.1 with h1 | h1
    ·exact h1
    ·have h2:wo.heap.size≤q:=h1
     omega,by rw [hz8];exact hq.2⟩)⟩
   have hrb8:Hid (∃ z:Array Value,w8.heap[rb]? = some (.cells z 79 (0,0))∧z.size=54):=by
    obtain⟨z,hz,hz2⟩:=hrbx.out
    exact⟨z,(hk8 rb (by omega)).trans ((hS7.block rb (by omega)).trans hz),hz2⟩
   have hB8:Below w.heap.size w w8:=by rw [← hw8];exact below_setRow (ext_trans hB hS7) (by omega) row'
   have hsz8:rb<sb∧sb<w8.heap.size:=⟨by omega,by rw [hz8];have:=hS7.size;omega⟩
   have HROW8:=Lib.hid hrow8
   rw [hw8]
   clear hw8 hrow7 hrow8 hk8 hz8 hkp hS7 hb7 hSw HRW HAL HM2 HMM hrbx hB H53 c53 HEV
   go_wp2_with (first | (refine wpList_load_row rfl 79 _ rfl sb rfl 79 row' (0,0) _ HROW8.out Tryz.underlying79 rfl HAL2.out.2 ?_) | fail)
   refine HRT.out.mono ?_
   rintro e w9 ⟨rfl,hb9⟩
   have hst9:Hid (RunSt (cRun im es (k+1)) sb rb w9):=by
    rw [HS'.out]
    obtain⟨row,A,c,D,d,G,g,B,bc,sa,sc,ca,cc,hR,hrow,hM⟩:=HST8.out
    exact⟨row,A,c,D,d,G,g,B,bc,sa,sc,ca,cc,hR,(hb9.block sb hsz8.2).trans hrow,hM.keep (fun q hq=>hb9.block q hq.2) (fun q hq=>⟨hq.1,by have:=hq.2;have:=hb9.size;omega⟩)⟩
   have hrb9:Hid (∃ z:Array Value,w9.heap[rb]? = some (.cells z 79 (0,0))∧z.size=54):=by
    obtain⟨z,hz,hz2⟩:=hrb8.out
    exact⟨z,(hb9.block rb (by omega)).trans hz,hz2⟩
   have hB9:Below w.heap.size w w9:=ext_trans hB8 hb9
   have hsz9:rb<sb∧sb<w9.heap.size:=⟨hsz8.1,by have:=hb9.size;omega⟩
   clear HRT HST8 hrb8 hb9 hB8 HROW8 hsz8
   go_wp2_with fail
   go_roundw
   case rel=>exact⟨k+1,hlt,by go_num,hB9,hst9,hrb9,hsz9⟩
   case measure=>simp [intOf];omega
  ·have hkk:k=es.length:=by omega
   subst hkk
   obtain⟨z,hz,hz2⟩:=hrbx.out
   have HZ:=Lib.hid hz
   have HZ2:=Lib.hid hz2
   have hne:rb≠sb:=by omega
   have hSw:wo.drew.heap[sb]? = some (.cells row 79 (0,0)):=HRW.out
   clear hz hz2
   go_upto_region 11 with (fail)
   refine wp_region_U (fun W'=>W'.heap[sb]? = some (.cells row 79 (0,0))) 4 (by kernel_rfl) ?_
   refine wpAnyU_takeD (i:=0) (v := .agg row) rfl rfl (by kernel_rfl) (by kernel_rfl) (by kernel_rfl) (by kernel_rfl) (fun _ _ _ h=>h) (by rfl) ?_ hSw ?_
   ·intro W9 hW9
    exact exec_load_row 79 _ rfl sb rfl 79 row (0,0) _ hW9 Tryz.underlying79 rfl HAL.out.2
   try simp only [List.setIfInBounds_toArray,List.set_cons_zero,List.set_cons_succ]
   refine wpAnyU_takeD (i:=1) (v := ?_) rfl rfl (by kernel_rfl) (by kernel_rfl) (by kernel_rfl) (by kernel_rfl) (fun _ _ _ h=>h) (by rfl) ?_ hSw ?_
   rotate_left 1
   ·intro W9 hW9
    try dsimp only at hW9
    obtain _:=trivial
    go_simp
    try with_reducible rfl
   try simp only [List.setIfInBounds_toArray,List.set_cons_zero,List.set_cons_succ]
   refine wpAnyU_takeD (i:=2) (v := ?_) rfl rfl (by kernel_rfl) (by kernel_rfl) (by kernel_rfl) (by kernel_rfl) (fun _ _ _ h=>h) (by rfl) ?_ hSw ?_
   rotate_left 1
   ·intro W9 hW9
    try dsimp only at hW9
    obtain q0:=(show W9.cell? ⟨sb,53,none⟩=some (.bool true) by rw [cell_of_row W9 sb 53 _ _ _ hW9,HRR.out];rfl)
    go_simp
    try with_reducible rfl
   try simp only [List.setIfInBounds_toArray,List.set_cons_zero,List.set_cons_succ]
   refine wpAnyU_op (i:=3) (by kernel_rfl) rfl rfl (fun K hK => ?_)
   refine wp_store_row 79 _ _ rfl rb row rfl rfl 79 _ HZ.out HAL.out.2 (by rw [HZ2.out,show row.size=54 from by rw [HRR.out];rfl]) HAL.out.1 ?_
   have hS3:(wo.drew.setRow rb row).heap[sb]? = some (.cells row 79 (0,0)):=(setRow_other wo.drew rb sb row (by omega)).trans HRW.out
   refine hK.out _ _ (fun _=>hS3) ?_
   clear hK K
   try simp only [Act.put,List.setIfInBounds_toArray,List.set_cons_zero,List.set_cons_succ]
   refine wpAnyU_op (i:=4) (by kernel_rfl) rfl rfl (fun K hK => ?_)
   go_simp
   refine hK.out _ _ (fun h=>absurd rfl h) ?_
   clear hK K
   refine wpAnyU_done (by kernel_rfl) ?_ _
   obtain⟨w8,hw8⟩:∃ W,wo.drew.setRow rb row=W:=⟨_,rfl⟩
   have hrow8:w8.heap[rb]? = some (.cells row 79 (0,0)):=by rw [← hw8];exact setRow_heap wo.drew rb _ row _ _ HZ.out
   have hB8:Below w.heap.size w w8:=by rw [← hw8];exact below_setRow hB.drew (by omega) row
   have HM8:Hid (StM (cRun im es es.length) A c D d G g B bc sa sc ca cc (Bl w8.heap.size) w8):=HMM.out.keep (fun q hq=>by rw [← hw8];exact setRow_other wo.drew rb q row hq.1.2) (fun q hq=>by have h1:=hq.2;show q<w8.heap.size;rw [← hw8,setRow_size];exact h1)
   have HROW8:=Lib.hid hrow8
   rw [hw8]
   clear hw8 hrow8 hS3 hSw
   go_wp2
   refine bodyPost_ret (v := .tuple #[.agg row,.bool true]) (results_cell_row2 (p:=4) (q:=5) (ty:=79) rfl _ _ rb _ row (0,0) _ (.bool true) rfl rfl HROW8.out Tryz.underlying79 rfl HAL.out.2) rfl ?_
   exact⟨row,A,c,D,d,G,g,B,bc,sa,sc,ca,cc,rfl,HRR.out,HM8.out,hB8⟩
end Go.Proofs.YtgndgkjefgjamaaGreat
namespace Go.Proofs.YtgndgkjefgjamaaGreat
open Go.RowKit Go.Shelf
attribute [local go_sem] Oper.semAt_some

def smE (e:CEv):Bool:=decide (e.2.2.2.2.length≤20)
def smallEv (es:List CEv):Bool:=es.all smE && decide (es.length≤30)
theorem smallEv_iff {es:List CEv}:smallEv es=true↔(∀ e∈es,e.2.2.2.2.length≤20)∧es.length≤30:=by
 unfold smallEv smE
 simp [List.all_eq_true]
set_option maxHeartbeats 2000000 in
set_option maxRecDepth 100000 in
theorem small37_any (A:Option Addr) (c n:Nat) (es:List CEv) (w:World) (hn:es.length=n) (h0:SlAt encEv w (Bl w.heap.size) A es) (hl:n≤9223372036854775807) (q:Bool) (hq:smallEv es=q) :
  Calls Tryz.prog 36 #[.slice A n c] w fun e w'=>e = .returned (.bool q)∧w'=w:=by
 subst hn
 have HQ:=Lib.hid hq
 have H0:=Lib.hid h0
 clear hq h0
 go_enter Tryz.func36,Tryz.ntmps36
 go_wp2
 go_loopw [3] (fun i wr=>wr=w∧∃ k:Nat,k≤es.length∧i = .int .i64 k∧Hid (∀ x∈es.take k,smE x=true)) (fun i _=>es.length - (intOf i).toNat)
 case atStart=>exact⟨rfl,0,by omega,rfl,by simp [Hid]⟩
 case round =>
  obtain⟨rfl,k,hk,rfl,hp⟩:=hrel
  by_cases hlt:k<es.length
  ·obtain⟨b,off,Dw,dw,rfl,hb,e0,e1,e2,e3,e4,hk1,hk2,hv1,hv2,hc1,hc2,hsd⟩:=H0.out.ev hlt
   have hnn:(0:Int)≤k:=by omega
   have hki:(k:Int)<es.length:=by omega
   obtain⟨x,hx⟩:∃ x,es[k]=x:=⟨_,rfl⟩
   have HX:=Lib.hid hx
   rw [hx] at e4 hc1
   obtain⟨m,hm⟩:∃ m,x.2.2.2.2.length=m:=⟨_,rfl⟩
   have HM:=Lib.hid hm
   rw [hm] at e4 hc1
   unfold maxLen at hc2
   clear e0 e1 e2 e3 hk1 hk2 hv1 hv2 hsd hx hm
   by_cases c1:20<m
   ·have c1':decide ((20:Int)<(m:Int))=true:=by simp;omega
    go_wp2
    go_ret
    refine⟨ret_bool ?_,rfl⟩
    rw [← HQ.out]
    symm
    cases hs:smallEv es with
    | false=>rfl
    | true =>
      have:=(smallEv_iff.1 hs).1 _ (List.getElem_mem hlt)
      rw [HX.out,HM.out] at this
      omega
   ·have c1':decide ((20:Int)<(m:Int))=false:=by simp;omega
    go_wp2
    go_roundw
    case rel =>
     refine⟨by trivial,k+1,hlt,by go_num, ?_⟩
     intro y hy
     rw [List.take_succ_eq_append_getElem hlt] at hy
     rcases List.mem_append.1 hy with hy | hy
     ·exact hp.out y hy
     ·rw [List.mem_singleton.1 hy,HX.out]
      unfold smE
      rw [HM.out]
      simp;omega
    case measure=>simp [intOf];omega
  ·have hkk:k=es.length:=by omega
   subst hkk
   have hp':=hp.out
   rw [List.take_length] at hp'
   have hqq:q=decide (es.length≤30):=by
    rw [← HQ.out]
    unfold smallEv
    rw [show es.all smE=true from List.all_eq_true.2 hp'];rfl
   have HQQ:=Lib.hid hqq
   clear hp' hqq
   by_cases c2:es.length≤30
   ·have c2':decide ((es.length:Int)≤30)=true:=by simp;omega
    go_wp2
    go_ret
    exact⟨ret_bool (by rw [HQQ.out];simp [c2]),rfl⟩
   ·have c2':decide ((es.length:Int)≤30)=false:=by simp;omega
    go_wp2
    go_ret
    exact⟨ret_bool (by rw [HQQ.out];simp [c2]),rfl⟩
end Go.Proofs.YtgndgkjefgjamaaGreat
namespace Go.Proofs.YtgndgkjefgjamaaGreat
open Go.RowKit Go.Shelf
attribute [local go_sem] Oper.semAt_some

theorem and1_u64 (U i:Nat) (hU:U<18446744073709551616):bits .and .u64 ((U / 2 ^ i:Nat):Int) 1=(((U / 2 ^ i) % 2:Nat):Int):=by
 have h:=bits_and_u64_nat (U / 2 ^ i) 1 (Nat.lt_of_le_of_lt (Nat.div_le_self _ _) hU) (by omega)
 rw [show ((1:Nat):Int)=1 from rfl] at h
 rw [h,Nat.and_one_is_mod]
theorem testBit_eq (U i:Nat):U.testBit i=decide ((((U / 2 ^ i) % 2:Nat):Int)=1):=by
 rw [Nat.testBit_eq_decide_div_mod_eq]
 exact decide_eq_decide.2 (by omega)
theorem bit_val (U i:Nat) (hU:U<18446744073709551616):(bits .and .u64 ((U:Int) / 2 ^ i) 1==1)=U.testBit i:=by
 have h:((U:Int) / 2 ^ i)=((U / 2 ^ i:Nat):Int):=by simp
 rw [h,and1_u64 U i hU,testBit_eq,Bool.eq_iff_iff]
 simp
set_option maxHeartbeats 2000000 in
theorem bit02_any (n:Int) (b off wc U i:Nat) (w:World) (hi:i<64) (hU:U<18446744073709551616) (hc:w.cell? ⟨b,off,none⟩=some (.int .u64 U)) :
  Calls Tryz.prog 96 #[.agg #[.int .i64 n,.slice (some ⟨b,off,none⟩) 1 wc],.int .i64 i] w fun e w'=>e = .returned (.bool (U.testBit i))∧Below w.heap.size w w':=by
 have hi0:(0:Int)≤i:=by omega
 have hi6:(i:Int)<64:=by omega
 have hq:(i:Int).tdiv 64=0:=by rw [Int.tdiv_eq_ediv_of_nonneg hi0];omega
 have hr:(i:Int).tmod 64=i:=by rw [Int.tmod_eq_emod_of_nonneg hi0];omega
 obtain⟨W0,hW0⟩:∃ W,w.alloc (.cells #[.int .i64 n,.slice (some ⟨b,off,none⟩) 1 wc] 90)=W:=⟨_,rfl⟩
 have hb0:Below w.heap.size w W0:=by rw [← hW0];exact ext_alloc (Below.refl _ _)
 have hbl:b<w.heap.size:=block_lt_of_cell hc
 have hr0:W0.heap[w.heap.size]? = some (.cells #[.int .i64 n,.slice (some ⟨b,off,none⟩) 1 wc] 90 (0,0)):=by rw [← hW0];exact heap_alloc_new _ _
 obtain⟨v0,v1,_⟩:=blk2 hr0
 have hc0:W0.cell? ⟨b,off,none⟩=some (.int .u64 U):=(hb0.cell (p:=⟨b,off,none⟩) hbl).trans hc
 clear hr0 hc
 go_enter Tryz.func96,Tryz.ntmps96
 go_wp2
 go_ret
 exact⟨ret_bool (bit_val U i hU),hb0⟩
set_option maxHeartbeats 2000000 in
theorem check02_any (n b off wc U:Nat) (w:World) (hn:1≤n∧n≤64) (hU:U<18446744073709551616) (hz:∀ j,n≤j→j<64→U.testBit j=false) (hc:w.cell? ⟨b,off,none⟩=some (.int .u64 U)) :
  Calls Tryz.prog 95 #[.agg #[.int .i64 n,.slice (some ⟨b,off,none⟩) 1 wc]] w fun e w'=>e = .returned (.int .i64 0)∧Below w.heap.size w w':=by
 have hn0:(1:Int)≤n:=by omega
 have hn6:(n:Int)≤64:=by omega
 have hq:((n:Int)+63).tdiv 64=1:=by rw [Int.tdiv_eq_ediv_of_nonneg (by omega)];omega
 have HZ:=Lib.hid hz
 clear hz
 obtain⟨W0,hW0⟩:∃ W,w.alloc (.cells #[.int .i64 n,.slice (some ⟨b,off,none⟩) 1 wc] 90)=W:=⟨_,rfl⟩
 have hb0:Below w.heap.size w W0:=by rw [← hW0];exact ext_alloc (Below.refl _ _)
 have hbl:b<w.heap.size:=block_lt_of_cell hc
 obtain⟨xb,hxb⟩:∃ xb,w.heap.size=xb:=⟨_,rfl⟩
 have hr0:W0.heap[xb]? = some (.cells #[.int .i64 n,.slice (some ⟨b,off,none⟩) 1 wc] 90 (0,0)):=by rw [← hW0, ← hxb];exact heap_alloc_new _ _
 have hxl:xb<W0.heap.size:=(Array.getElem?_eq_some_iff.1 hr0).1
 have HV:Hid (∀ W,Below W0.heap.size W0 W→W.cell? ⟨xb,0,none⟩=some (.int .i64 n)∧W.cell? ⟨xb,1,none⟩=some (.slice (some ⟨b,off,none⟩) 1 wc)∧W.cell? ⟨b,off,none⟩=some (.int .u64 U)):=fun W hb=>by
  obtain⟨v0,v1,_⟩:=blk2 ((hb.block xb hxl).trans hr0)
  exact⟨v0,v1,((hb0.trans (hb.mono hb0.size)).cell (p:=⟨b,off,none⟩) hbl).trans hc⟩
 obtain⟨v0,v1,v2⟩:=HV.out W0 (Below.refl _ _)
 clear hr0 hc
 go_enter Tryz.func95,Tryz.ntmps95
 go_wp2
 clear hW0
 go_loopw [3] (fun i wr=>∃ k:Nat,n≤k∧k≤64∧i = .int .i64 k∧Below W0.heap.size W0 wr) (fun i _=>64 - (intOf i).toNat)
 case atStart=>exact⟨n,Nat.le_refl _,hn.2,rfl,Below.refl _ _⟩
 case round =>
  obtain⟨wo,rfl⟩:∃ wo:World,wo=wr:=⟨_,rfl⟩
  obtain⟨k,hk1,hk2,rfl,hB⟩:=hrel
  clear v0 v1 v2
  obtain⟨v0,v1,v2⟩:=HV.out wo hB
  have hk0:(0:Int)≤k:=by omega
  by_cases hlt:k<64
  ·have hki:(k:Int)<64:=by omega
   have HBT:=Lib.hid (bit02_any n b off wc U k wo hlt hU v2)
   rw [HZ.out k hk1 hlt] at HBT
   go_wp2_with fail
   refine HBT.out.mono ?_
   rintro e w5 ⟨rfl,hb5⟩
   have hB5:Below W0.heap.size W0 w5:=ext_trans hB hb5
   clear v0 v1 v2 HBT
   go_wp2_with fail
   go_roundw
   case rel=>exact⟨k+1,by omega,by omega,by go_num,hB5⟩
   case measure=>simp [intOf];omega
  ·obtain rfl:k=64:=by omega
   go_wp2
   go_ret
   exact⟨rfl,ext_trans hb0 hB⟩
set_option maxHeartbeats 2000000 in
theorem fits02_any (st ct n:Nat) (w:World) (h:st+ct≤n) (hn:n≤64) :
  Calls Tryz.prog 162 #[.agg #[.int .i64 st,.int .i64 ct],.int .i64 n] w fun e w'=>e = .returned (.bool true)∧Below w.heap.size w w':=by
 have h1:(0:Int)≤st:=by omega
 have h2:(0:Int)≤ct:=by omega
 have h3:(st:Int)≤n:=by omega
 have h4:(ct:Int)≤n - st:=by omega
 have h5:(n:Int)≤64:=by omega
 obtain⟨W0,hW0⟩:∃ W,w.alloc (.cells #[.int .i64 st,.int .i64 ct] 104)=W:=⟨_,rfl⟩
 have hb0:Below w.heap.size w W0:=by rw [← hW0];exact ext_alloc (Below.refl _ _)
 have hr0:W0.heap[w.heap.size]? = some (.cells #[.int .i64 st,.int .i64 ct] 104 (0,0)):=by rw [← hW0];exact heap_alloc_new _ _
 obtain⟨v0,v1,_⟩:=blk2 hr0
 clear hr0
 go_enter Tryz.func162,Tryz.ntmps162
 go_wp2
 go_ret
 exact⟨rfl,hb0⟩
set_option maxHeartbeats 2000000 in
theorem get02_any (n b off wc U i:Nat) (w:World) (hn:1≤n∧n≤64) (hi:i<n) (hU:U<18446744073709551616) (hz:∀ j,n≤j→j<64→U.testBit j=false) (hc:w.cell? ⟨b,off,none⟩=some (.int .u64 U)) :
  Calls Tryz.prog 42 #[.agg #[.int .i64 n,.slice (some ⟨b,off,none⟩) 1 wc],.int .i64 i] w fun e w'=>e = .returned (.bool (U.testBit i))∧Below w.heap.size w w':=by
 have hi0:(0:Int)≤i:=by omega
 have hin:(i:Int)<n:=by omega
 have HZ:=Lib.hid hz
 clear hz
 obtain⟨W0,hW0⟩:∃ W,w.alloc (.cells #[.int .i64 n,.slice (some ⟨b,off,none⟩) 1 wc] 90)=W:=⟨_,rfl⟩
 have hb0:Below w.heap.size w W0:=by rw [← hW0];exact ext_alloc (Below.refl _ _)
 have hbl:b<w.heap.size:=block_lt_of_cell hc
 obtain⟨xb,hxb⟩:∃ xb,w.heap.size=xb:=⟨_,rfl⟩
 have hr0:W0.heap[xb]? = some (.cells #[.int .i64 n,.slice (some ⟨b,off,none⟩) 1 wc] 90 (0,0)):=by rw [← hW0, ← hxb];exact heap_alloc_new _ _
 have hxl:xb<W0.heap.size:=(Array.getElem?_eq_some_iff.1 hr0).1
 have HV:Hid (∀ W,Below W0.heap.size W0 W→W.cell? ⟨xb,0,none⟩=some (.int .i64 n)∧W.cell? ⟨xb,1,none⟩=some (.slice (some ⟨b,off,none⟩) 1 wc)∧W.cell? ⟨b,off,none⟩=some (.int .u64 U)):=fun W hb=>by
  obtain⟨v0,v1,_⟩:=blk2 ((hb.block xb hxl).trans hr0)
  exact⟨v0,v1,((hb0.trans (hb.mono hb0.size)).cell (p:=⟨b,off,none⟩) hbl).trans hc⟩
 obtain⟨v0,v1,v2⟩:=HV.out W0 (Below.refl _ _)
 clear hr0 hc
 have HCK:=Lib.hid (check02_any n b off wc U W0 hn hU HZ.out v2)
 go_enter Tryz.func42,Tryz.ntmps42
 go_wp2_with fail
 refine HCK.out.mono ?_
 rintro e w5 ⟨rfl,hb5⟩
 clear v0 v1 v2 HCK hW0
 obtain⟨v0,v1,v2⟩:=HV.out w5 hb5
 have HBT:=Lib.hid (bit02_any n b off wc U i w5 (by omega) hU v2)
 go_wp2_with fail
 refine HBT.out.mono ?_
 rintro e w6 ⟨rfl,hb6⟩
 clear v0 v1 v2 HBT
 go_wp2
 go_ret
 exact⟨rfl,ext_trans hb0 (ext_trans hb5 hb6)⟩
end Go.Proofs.YtgndgkjefgjamaaGreat
namespace Go.Proofs.YtgndgkjefgjamaaGreat
open Go.RowKit Go.Shelf
attribute [local go_sem] Oper.semAt_some

def WRow (g U:Nat) (W:World):Prop:=∃ L:Array Value,W.heap[g]? = some (.cells L 205 (0,0))∧L[0]? = some (.int .u64 U)
theorem WRow.below {g U:Nat} {W W':World} (h:WRow g U W) (hb:Below W.heap.size W W'):WRow g U W':=by
 obtain⟨L,h1,h2⟩:=h
 exact⟨L,(hb.block g (Array.getElem?_eq_some_iff.1 h1).1).trans h1,h2⟩
theorem WRow.cell {g U:Nat} {W:World} (h:WRow g U W):W.cell? ⟨g,0,none⟩=some (.int .u64 U)∧W.frozen? ⟨g,0,none⟩=false:=by
 obtain⟨L,h1,h2⟩:=h
 exact⟨by rw [cell_of_row W g 0 _ _ _ h1];exact h2,by simp [World.frozen?,h1]⟩
theorem WRow.set {g U V:Nat} {W:World} (h:WRow g U W):WRow g V (W.setCell ⟨g,0,none⟩ (.int .u64 V)):=by
 obtain⟨L,h1,h2⟩:=h
 refine⟨L.setIfInBounds 0 (.int .u64 V),by simp [World.setCell,Array.getElem?_modify,h1], ?_⟩
 have hl:0<L.size:=(Array.getElem?_eq_some_iff.1 h2).1
 simp [hl]
theorem tyU64b:SliceTy Tryz.prog 88 205 1 8:=sliceTy_mk (z := .int .u64 0) Tryz.underlying88 (by kernel_rfl) rfl (by decide)
theorem slat1 {w:World} {S:Nat→Prop} {b off U:Nat} (hc:w.cell? ⟨b,off,none⟩=some (.int .u64 U)) (hU:U<18446744073709551616) (hS:S b):SlAt encU64 w S (some ⟨b,off,none⟩) [(U:Int)]:=by
 refine fun _=>⟨b,off,rfl,hS,fun i x hx => ?_⟩
 match i,hx with
 | 0,hx =>
   have hx':x=(U:Int):=by simpa using hx.symm
   subst hx'
   refine⟨[.int .u64 (U:Int)],fun j v hv => ?_,rfl,by omega,by omega⟩
   match j,hv with
   | 0,hv =>
     have hv':v = .int .u64 (U:Int):=by simpa using hv.symm
     subst hv'
     simpa using hc
theorem own_wrow {w:World} {base c U:Nat} {S:Nat→Prop} {A:Option Addr} (h:Own encU64 w base 205 S (.slice A 1 c) [(U:Int)]):∃ g,A=some ⟨g,0,none⟩∧base≤g∧WRow g U w:=by
 obtain⟨css,⟨hlen,hor⟩,hall,_⟩:=h
 rcases css with _ | ⟨cs,_ | ⟨c2,r⟩⟩
 ·exact hall.elim
 ·obtain⟨⟨rfl,_⟩,_⟩:=hall
  rcases hor with ⟨_,h0⟩ | ⟨g,cap,cur,he,hb,hg,hn,hm,hs,ht⟩
  ·simp at h0
  ·simp only [Value.slice.injEq] at he
   obtain⟨rfl,_,rfl⟩:=he
   refine⟨g,rfl,hb,cur,hg, ?_⟩
   have h1:(cur.toList.take 1)[0]? = some (Value.int .u64 U):=by
    have h2:cur.toList.take (1 * 1)=[[Value.int .u64 (U:Int)]].flatten:=ht
    rw [Nat.one_mul] at h2
    rw [h2];rfl
   rw [List.getElem?_take] at h1
   simpa using h1
 ·exact hall.2.elim
theorem results_cell_rowB {P:Program} {fn:Func} {p q:Tmp} {ty:TypeId} (h:fn.results = #[.cell p ty,.tmp q]) (tmps:Array Value) (w:World) (g:Nat) (t:TypeId) (cs:Array Value) (fr:Nat × Nat) (d:TypeDesc) (v:Value)
  (hp:tmps.getD p undef = .pointer (some ⟨g,0,none⟩)) (hq:tmps.getD q undef=v) (hg:w.heap[g]? = some (.cells cs t fr))
  (hu:P.underlying ty=some d) (hd:(match d with | .struct _ | .array _ _=>true | _=>false)=true) (hi:(P.info? ty).map (·.size)=some cs.size) :
  (results fn tmps).run P w = .ok (.tuple #[.agg cs,v]) w:=by
 have hp':tmps[p]?.getD undef = .pointer (some ⟨g,0,none⟩):=by simpa using hp
 have hq':tmps[q]?.getD undef=v:=by simpa using hq
 simp [results,h,hp',hq',asAddr,run_loadVar_row w g t ty cs fr d hg hu hd hi]
theorem set2_row {w:World} {b:Nat} {T:TypeId} {x y:Value} (h:w.heap[b]? = some (.cells #[x,y] T (0,0))) (u v:Value):((w.setCell ⟨b,0,none⟩ u).setCell ⟨b,1,none⟩ v).heap[b]? = some (.cells #[u,v] T (0,0)):=by
 rw [heap_setCell_same _ _ _ _ _ _ (heap_setCell_same _ _ _ _ _ _ h)];rfl
theorem set2_other {w:World} {b q:Nat} (h:q≠b) (u v:Value):((w.setCell ⟨b,0,none⟩ u).setCell ⟨b,1,none⟩ v).heap[q]? = w.heap[q]? :=
 (heap_setCell_other _ _ _ _ h).trans (heap_setCell_other _ _ _ _ h)
theorem WRow.set2 {g U b:Nat} {W:World} (h:WRow g U W) (hb:g≠b) (u v:Value):WRow g U ((W.setCell ⟨b,0,none⟩ u).setCell ⟨b,1,none⟩ v):=by
 obtain⟨L,h1,h2⟩:=h
 exact⟨L,(set2_other hb _ _).trans h1,h2⟩
def BmAt (n U:Nat) (lo:Nat) (v:Value) (W:World):Prop:=∃ g wc,v = .agg #[.int .i64 n,.slice (some ⟨g,0,none⟩) 1 wc]∧lo≤g∧WRow g U W
set_option maxHeartbeats 2000000 in
theorem copy02_any (n b off wc U:Nat) (w:World) (hU:U<18446744073709551616) (hc:w.cell? ⟨b,off,none⟩=some (.int .u64 U)) :
  Calls Tryz.prog 163 #[.agg #[.int .i64 n,.slice (some ⟨b,off,none⟩) 1 wc]] w fun e w'=>(∃ v,e = .returned v∧BmAt n U w.heap.size v w')∧Below w.heap.size w w':=by
 obtain⟨xb,hxb⟩:∃ xb,w.heap.size=xb:=⟨_,rfl⟩
 obtain⟨W0,hW0⟩:∃ W,(w.alloc (.cells #[.int .i64 n,.slice (some ⟨b,off,none⟩) 1 wc] 90)).alloc (.cells #[.int .i64 0,.slice none 0 0] 90)=W:=⟨_,rfl⟩
 have hb0:Below w.heap.size w W0:=by rw [← hW0];exact ext_alloc (ext_alloc (Below.refl _ _))
 have hbl:b<w.heap.size:=block_lt_of_cell hc
 have hr0:W0.heap[xb]? = some (.cells #[.int .i64 n,.slice (some ⟨b,off,none⟩) 1 wc] 90 (0,0)):=by rw [← hW0, ← hxb];exact (Below.heap_alloc _ _ _ (by simp)).trans (heap_alloc_new _ _)
 have hr1:W0.heap[xb+1]? = some (.cells #[.int .i64 0,.slice none 0 0] 90 (0,0)):=by rw [← hW0, ← hxb];exact heap_new2 _ _ _
 have hxl:xb+1<W0.heap.size:=(Array.getElem?_eq_some_iff.1 hr1).1
 have HV:Hid (∀ W,Below W0.heap.size W0 W→W.cell? ⟨xb,0,none⟩=some (.int .i64 n)∧W.cell? ⟨xb,1,none⟩=some (.slice (some ⟨b,off,none⟩) 1 wc)∧W.cell? ⟨b,off,none⟩=some (.int .u64 U)):=fun W hb=>by
  obtain⟨v0,v1,_⟩:=blk2 ((hb.block xb (by omega)).trans hr0)
  exact⟨v0,v1,((hb0.trans (hb.mono hb0.size)).cell (p:=⟨b,off,none⟩) hbl).trans hc⟩
 have HR1:=Lib.hid hr1
 have HXB:=Lib.hid hxb
 have hSw:Below W0.heap.size W0 W0.drew:=(Below.refl _ _).drew
 clear hr0 hr1 hc
 go_enter Tryz.func163,Tryz.ntmps163
 go_upto_region 1 with (fail)
 try rw [hW0]
 clear hW0
 refine wp_region_U (fun W'=>Below W0.heap.size W0 W') 7 (by kernel_rfl) ?_
 refine wpAnyU_takeD (i:=0) (v := ?_) rfl rfl (by kernel_rfl) (by kernel_rfl) (by kernel_rfl) (by kernel_rfl) (fun _ _ _ h=>h) (by rfl) ?_ hSw ?_
 rotate_left 1
 ·intro W9 hW9
  try dsimp only at hW9
  obtain _:=trivial
  go_simp
  try with_reducible rfl
 try simp only [List.setIfInBounds_toArray,List.set_cons_zero,List.set_cons_succ]
 refine wpAnyU_takeD (i:=1) (v := ?_) rfl rfl (by kernel_rfl) (by kernel_rfl) (by kernel_rfl) (by kernel_rfl) (fun _ _ _ h=>h) (by rfl) ?_ hSw ?_
 rotate_left 1
 ·intro W9 hW9
  try dsimp only at hW9
  obtain⟨q0,q1,q2⟩:=HV.out W9 hW9
  go_simp
  try with_reducible rfl
 try simp only [List.setIfInBounds_toArray,List.set_cons_zero,List.set_cons_succ]
 refine wpAnyU_takeD (i:=3) (v := ?_) rfl rfl (by kernel_rfl) (by kernel_rfl) (by kernel_rfl) (by kernel_rfl) (fun _ _ _ h=>h) (by rfl) ?_ hSw ?_
 rotate_left 1
 ·intro W9 hW9
  try dsimp only at hW9
  obtain _:=trivial
  go_simp
  try with_reducible rfl
 try simp only [List.setIfInBounds_toArray,List.set_cons_zero,List.set_cons_succ]
 refine wpAnyU_takeD (i:=4) (v := ?_) rfl rfl (by kernel_rfl) (by kernel_rfl) (by kernel_rfl) (by kernel_rfl) (fun _ _ _ h=>h) (by rfl) ?_ hSw ?_
 rotate_left 1
 ·intro W9 hW9
  try dsimp only at hW9
  obtain⟨q0,q1,q2⟩:=HV.out W9 hW9
  go_simp
  try with_reducible rfl
 try simp only [List.setIfInBounds_toArray,List.set_cons_zero,List.set_cons_succ]
 refine wpAnyU_op (i:=2) (by kernel_rfl) rfl rfl (fun K hK => ?_)
 go_simp
 have hS1:Below W0.heap.size W0 (W0.alloc (.cells #[] 205)).drew:=((Below.refl _ _).alloc (Nat.le_refl _) _).drew
 have hO:=Lib.hid (show Own encU64 (W0.alloc (.cells #[] 205)) W0.heap.size 205 (Bl W0.heap.size) (.slice (some ⟨W0.heap.size,0,none⟩) 0 0) [] from Own.make0 (cur := #[]) (Nat.le_refl _) (by unfold maxLen;omega) rfl (fun h=>Nat.lt_irrefl _ h))
 have HO:Hid (Own encU64 (W0.alloc (.cells #[] 205)).drew W0.heap.size 205 (Bl W0.heap.size) (.slice (some ⟨W0.heap.size,0,none⟩) 0 0) []):=hO.out
 have HSL:=Lib.hid (slat1 (S:=Bl W0.heap.size) ((HV.out _ hS1).2.2) hU (show b<W0.heap.size by have:=hb0.size;omega))
 have hz1:W0.heap.size≤(W0.alloc (.cells #[] 205)).drew.heap.size:=hS1.size
 refine hK.out _ _ (fun _=>hS1) ?_
 clear hK K hO hSw
 try simp only [Act.put,List.setIfInBounds_toArray,List.set_cons_zero,List.set_cons_succ]
 generalize (W0.alloc (.cells #[] 205)).drew=w1 at hS1 HO HSL hz1 ⊢
 refine wpAnyU_op (i:=5) (by kernel_rfl) rfl rfl (fun K hK => ?_)
 refine wp_appAll (E:=encU64) tyU64b rfl _ _ rfl rfl HO.out (news:=[(U:Int)]) rfl rfl HSL.out (fun g hg=>Nat.lt_of_lt_of_le hg hz1) hz1 (by unfold maxLen;simp) (by simp) ?_
 intro A5 c5 w5 hown5 hg5 hat5
 simp only [List.length_nil,Nat.zero_add,List.nil_append] at hown5
 obtain⟨g,rfl,hgl,hwr⟩:=own_wrow hown5
 have hS5:Below W0.heap.size W0 w5:=hS1.grown hg5 hz1 (fun g hg=>(HO.out.lt g hg).1)
 have hr5:=(hS5.block (xb+1) hxl).trans HR1.out
 refine hK.out _ _ (fun _=>hS5) ?_
 clear hK K hown5 hg5 hat5 HO HSL
 try simp only [Act.put,List.setIfInBounds_toArray,List.set_cons_zero,List.set_cons_succ]
 refine wpAnyU_op (i:=6) (by kernel_rfl) rfl rfl (fun K hK => ?_)
 go_simp
 refine hK.out _ _ (fun _=>hS5) ?_
 clear hK K
 try simp only [Act.put,List.setIfInBounds_toArray,List.set_cons_zero,List.set_cons_succ]
 obtain⟨v0,v1,vf⟩:=blk2 hr5
 refine wpAnyU_op (i:=7) (by kernel_rfl) rfl rfl (fun K hK => ?_)
 go_simp
 refine hK.out _ _ (fun h=>absurd rfl h) ?_
 clear hK K
 refine wpAnyU_done (by kernel_rfl) ?_ _
 have hz:=set2_row hr5 (.int .i64 (n:Int)) (.slice (some ⟨g,0,none⟩) 1 c5)
 have hw3:WRow g U ((w5.setCell ⟨xb+1,0,none⟩ (.int .i64 (n:Int))).setCell ⟨xb+1,1,none⟩ (.slice (some ⟨g,0,none⟩) 1 c5)):=by
  obtain⟨L,h1,h2⟩:=hwr
  exact⟨L,(set2_other (by omega) _ _).trans h1,h2⟩
 have hbf:Below w.heap.size w ((w5.setCell ⟨xb+1,0,none⟩ (.int .i64 (n:Int))).setCell ⟨xb+1,1,none⟩ (.slice (some ⟨g,0,none⟩) 1 c5)):=((ext_trans hb0 hS5).setCell (p:=⟨xb+1,0,none⟩) (by show w.heap.size≤xb+1;omega) _).setCell (p:=⟨xb+1,1,none⟩) (by show w.heap.size≤xb+1;omega) _
 generalize (w5.setCell ⟨xb+1,0,none⟩ (.int .i64 (n:Int))).setCell ⟨xb+1,1,none⟩ (.slice (some ⟨g,0,none⟩) 1 c5)=W3 at hz hw3 hbf ⊢
 clear v0 v1 vf hr5
 go_wp2
 refine bodyPost_ret (v := .agg #[.int .i64 (n:Int),.slice (some ⟨g,0,none⟩) 1 c5]) (results_cell_row (p:=2) (ty:=90) rfl _ _ (xb+1) _ _ (0,0) _ rfl hz Tryz.underlying90 rfl (by kernel_rfl)) rfl ?_
 exact⟨⟨_,rfl,g,c5,rfl,by have:=hb0.size;omega,hw3⟩,hbf⟩
theorem makeWord (w:World):∃ cur:Array Value,cur[0]? = some (.int .u64 0)∧(Instr.makeSlice 88 (.int .i64 1) (.int .i64 1)).run Tryz.prog w = .ok (.slice (some ⟨w.heap.size,0,none⟩) 1 1) (w.alloc (.cells cur 205)):=by
 have hinfo:(Tryz.prog.info? 205).map (fun i=>(i.zero,i.size,i.bytes))=some (some (.int .u64 0),1,8):=by kernel_rfl
 obtain⟨i,hi,hz,hsz,hby⟩:=info_parts hinfo
 have hr:=run_make (P:=Tryz.prog) w 88 205 i _ Tryz.underlying88 hi hz .i64 .i64 1 1 (by omega) (by omega) (by rw [hby];decide) (by omega)
 refine⟨_, ?_,hr⟩
 simp [madeCells,Value.cells,hsz]
set_option maxHeartbeats 2000000 in
set_option maxRecDepth 100000 in
theorem new02_any (n:Nat) (w:World) (hn:1≤n∧n≤64) :
  Calls Tryz.prog 93 #[.int .i64 n] w fun e w'=>(∃ v,e = .returned (.tuple #[v,.int .i64 0])∧BmAt n 0 w.heap.size v w')∧Below w.heap.size w w':=by
 have hn1:(1:Int)≤n:=by omega
 have hn6:(n:Int)≤64:=by omega
 have hq:((n:Int)+63).tdiv 64=1:=by rw [Int.tdiv_eq_ediv_of_nonneg (by omega)];omega
 obtain⟨xb,hxb⟩:∃ xb,w.heap.size=xb:=⟨_,rfl⟩
 obtain⟨W0,hW0⟩:∃ W,w.alloc (.cells #[.int .i64 0,.slice none 0 0] 90)=W:=⟨_,rfl⟩
 have hb0:Below w.heap.size w W0:=by rw [← hW0];exact ext_alloc (Below.refl _ _)
 have hr0:W0.heap[xb]? = some (.cells #[.int .i64 0,.slice none 0 0] 90 (0,0)):=by rw [← hW0, ← hxb];exact heap_alloc_new _ _
 obtain⟨cur,hcz,hmk⟩:=makeWord W0
 have hxl:xb<W0.heap.size:=(Array.getElem?_eq_some_iff.1 hr0).1
 obtain⟨g,hg⟩:∃ g,W0.heap.size=g:=⟨_,rfl⟩
 rw [hg] at hmk
 obtain⟨W1,hW1⟩:∃ W,W0.alloc (.cells cur 205)=W:=⟨_,rfl⟩
 have hb1:Below W0.heap.size W0 W1:=by rw [← hW1];exact ext_alloc (Below.refl _ _)
 have hr1:=(hb1.block xb hxl).trans hr0
 have hwr:WRow g 0 W1:=⟨cur,by rw [← hW1, ← hg];exact heap_alloc_new _ _,hcz⟩
 have HWR:=Lib.hid hwr
 have HR1:=Lib.hid hr1
 have HB1:=Lib.hid hb1
 obtain⟨v0,v1,vf⟩:=blk2 hr1
 clear hr0 hr1 hwr hcz hb1
 go_enter Tryz.func93,Tryz.ntmps93
 go_wp2
 clear hmk hW0 hW1 v0 v1 vf
 have hz:=set2_row HR1.out (.int .i64 (n:Int)) (.slice (some ⟨g,0,none⟩) 1 1)
 have hw3:WRow g 0 ((W1.setCell ⟨xb,0,none⟩ (.int .i64 (n:Int))).setCell ⟨xb,1,none⟩ (.slice (some ⟨g,0,none⟩) 1 1)):=by
  obtain⟨L,h1,h2⟩:=HWR.out
  exact⟨L,(set2_other (by omega) _ _).trans h1,h2⟩
 have hbf:Below w.heap.size w ((W1.setCell ⟨xb,0,none⟩ (.int .i64 (n:Int))).setCell ⟨xb,1,none⟩ (.slice (some ⟨g,0,none⟩) 1 1)):=((ext_trans hb0 HB1.out).setCell (p:=⟨xb,0,none⟩) (by show w.heap.size≤xb;omega) _).setCell (p:=⟨xb,1,none⟩) (by show w.heap.size≤xb;omega) _
 generalize (W1.setCell ⟨xb,0,none⟩ (.int .i64 (n:Int))).setCell ⟨xb,1,none⟩ (.slice (some ⟨g,0,none⟩) 1 1)=W3 at hz hw3 hbf ⊢
 refine bodyPost_ret (v := .tuple #[.agg #[.int .i64 (n:Int),.slice (some ⟨g,0,none⟩) 1 1],.int .i64 0]) (results_cell_rowB (p:=2) (q:=3) (ty:=90) rfl _ _ xb _ _ (0,0) _ (.int .i64 0) rfl rfl hz Tryz.underlying90 rfl (by kernel_rfl)) rfl ?_
 exact⟨⟨_,rfl,g,1,rfl,by have:=hb0.size;omega,hw3⟩,hbf⟩
def setW (U st:Nat):Nat→Nat
 | 0=>U
 | k+1=>setW U st k ||| 2 ^ (st+k)
theorem setW_lt {U st:Nat} (hU:U<18446744073709551616):∀ k,st+k≤64→setW U st k<18446744073709551616
 | 0,_=>hU
 | k+1,h=>by
   have h1:=setW_lt (st:=st) hU k (by omega)
   have h2:2 ^ (st+k)<2 ^ 64:=Nat.pow_lt_pow_right (by decide) (by omega)
   exact Nat.or_lt_two_pow (n:=64) h1 h2
theorem setW_bit (U st j:Nat):∀ k,(setW U st k).testBit j=(U.testBit j || decide (st≤j∧j<st+k))
 | 0=>by
   have h:decide (st≤j∧j<st+0)=false:=decide_eq_false (by omega)
   rw [h,Bool.or_false];rfl
 | k+1=>by
   rw [setW,Nat.testBit_or,setW_bit U st j k,Nat.testBit_two_pow,Bool.or_assoc]
   congr 1
   rw [Bool.eq_iff_iff]
   simp only [Bool.or_eq_true,decide_eq_true_eq]
   omega
theorem or_val (V j:Nat) (hV:V<18446744073709551616) (hj:j<64):bits .or .u64 (V:Int) (IntKind.u64.wrap (2 ^ j))=((V ||| 2 ^ j:Nat):Int):=by
 have h2:2 ^ j<2 ^ 64:=Nat.pow_lt_pow_right (by decide) hj
 have h3:2 ^ j<18446744073709551616:=h2
 have hw:IntKind.u64.wrap (2 ^ j)=((2 ^ j:Nat):Int):=by
  rw [IntKind.wrap_u64,show ((2:Int) ^ j)=((2 ^ j:Nat):Int) by simp]
  exact Int.emod_eq_of_lt (Int.natCast_nonneg _) (Int.ofNat_lt.2 h3)
 rw [hw]
 exact bits_or_u64_nat V (2 ^ j) hV h2
set_option maxHeartbeats 4000000 in
set_option maxRecDepth 100000 in
theorem change02_any (n b off wc U st ct:Nat) (w:World) (hn:1≤n∧n≤64) (hf:st+ct≤n) (hU:U<18446744073709551616) (hz:∀ j,n≤j→j<64→U.testBit j=false) (hc:w.cell? ⟨b,off,none⟩=some (.int .u64 U)) :
  Calls Tryz.prog 142 #[.agg #[.int .i64 n,.slice (some ⟨b,off,none⟩) 1 wc],.agg #[.int .i64 st,.int .i64 ct],.bool true] w fun e w'=>(∃ v,e = .returned (.tuple #[v,.int .i64 0])∧BmAt n (setW U st ct) w.heap.size v w')∧Below w.heap.size w w':=by
 obtain⟨xb,hxb⟩:∃ xb,w.heap.size=xb:=⟨_,rfl⟩
 obtain⟨W0,hW0⟩:∃ W,((w.alloc (.cells #[.int .i64 n,.slice (some ⟨b,off,none⟩) 1 wc] 90)).alloc (.cells #[.int .i64 st,.int .i64 ct] 104)).alloc (.cells #[.int .i64 0,.slice none 0 0] 90)=W:=⟨_,rfl⟩
 have hb0:Below w.heap.size w W0:=by rw [← hW0];exact ext_alloc (ext_alloc (ext_alloc (Below.refl _ _)))
 have hbl:b<w.heap.size:=block_lt_of_cell hc
 have hr0:W0.heap[xb]? = some (.cells #[.int .i64 n,.slice (some ⟨b,off,none⟩) 1 wc] 90 (0,0)):=by rw [← hW0, ← hxb];exact (Below.heap_alloc _ _ _ (by simp <;> omega)).trans ((Below.heap_alloc _ _ _ (by simp)).trans (heap_alloc_new _ _))
 have hr1:W0.heap[xb+1]? = some (.cells #[.int .i64 st,.int .i64 ct] 104 (0,0)):=by rw [← hW0, ← hxb];exact (Below.heap_alloc _ _ _ (by simp)).trans (heap_new2 _ _ _)
 have hr2:W0.heap[xb+1+1]? = some (.cells #[.int .i64 0,.slice none 0 0] 90 (0,0)):=by rw [← hW0, ← hxb];exact heap_new3 _ _ _ _
 have hxl:xb+1+1<W0.heap.size:=(Array.getElem?_eq_some_iff.1 hr2).1
 have HV:Hid (∀ W,Below W0.heap.size W0 W→(W.cell? ⟨xb,0,none⟩=some (.int .i64 n)∧W.cell? ⟨xb,1,none⟩=some (.slice (some ⟨b,off,none⟩) 1 wc)∧W.cell? ⟨b,off,none⟩=some (.int .u64 U))∧W.cell? ⟨xb+1,0,none⟩=some (.int .i64 st)∧W.cell? ⟨xb+1,1,none⟩=some (.int .i64 ct)):=fun W hb=>by
  obtain⟨v0,v1,_⟩:=blk2 ((hb.block xb (by omega)).trans hr0)
  obtain⟨e0,e1,_⟩:=blk2 ((hb.block (xb+1) (by omega)).trans hr1)
  exact⟨⟨v0,v1,((hb0.trans (hb.mono hb0.size)).cell (p:=⟨b,off,none⟩) hbl).trans hc⟩,e0,e1⟩
 have HR2:=Lib.hid hr2
 have HZ:=Lib.hid hz
 have HF:=Lib.hid hf
 have hn6:(n:Int)≤64:=by omega
 have hs0:(0:Int)≤st:=by omega
 have hs6:(st:Int)≤64:=by omega
 have hc0:(0:Int)≤ct:=by omega
 have hc6:(ct:Int)≤64:=by omega
 obtain⟨⟨v0,v1,v2⟩,e0,e1⟩:=HV.out W0 (Below.refl _ _)
 have HCK:=Lib.hid (check02_any n b off wc U W0 hn hU hz v2)
 clear hr0 hr1 hr2 hc hz hf
 go_enter Tryz.func142,Tryz.ntmps142
 go_wp2_with fail
 refine HCK.out.mono ?_
 rintro e w1 ⟨rfl,hb1⟩
 clear v0 v1 v2 e0 e1 HCK hW0
 obtain⟨⟨v0,v1,v2⟩,e0,e1⟩:=HV.out w1 hb1
 have HFT:=Lib.hid (fits02_any st ct n w1 HF.out hn.2)
 go_wp2_with fail
 refine HFT.out.mono ?_
 rintro e w2 ⟨rfl,hb2⟩
 have hB2:Below W0.heap.size W0 w2:=ext_trans hb1 hb2
 clear v0 v1 v2 e0 e1 HFT hb1 hb2
 obtain⟨⟨v0,v1,v2⟩,e0,e1⟩:=HV.out w2 hB2
 have HCP:=Lib.hid (copy02_any n b off wc U w2 hU v2)
 go_wp2_with fail
 refine HCP.out.mono ?_
 rintro e w3 ⟨⟨v,rfl,g,gc,rfl,hg,hwr⟩,hb3⟩
 have hB3:Below W0.heap.size W0 w3:=ext_trans hB2 hb3
 have hg0:W0.heap.size≤g:=by have:=hB2.size;omega
 clear v0 v1 v2 e0 e1 HCP hb3 hg
 obtain⟨⟨v0,v1,v2⟩,e0,e1⟩:=HV.out w3 hB3
 obtain⟨ob,hob⟩:∃ ob,w3.heap.size=ob:=⟨_,rfl⟩
 obtain⟨W4,hW4⟩:∃ W,w3.alloc (.cells #[.int .i64 n,.slice (some ⟨g,0,none⟩) 1 gc] 90)=W:=⟨_,rfl⟩
 have hr4:W4.heap[ob]? = some (.cells #[.int .i64 n,.slice (some ⟨g,0,none⟩) 1 gc] 90 (0,0)):=by rw [← hW4, ← hob];exact heap_alloc_new _ _
 have hgl:g<ob:=by
  obtain⟨L,h1,_⟩:=hwr
  have:=(Array.getElem?_eq_some_iff.1 h1).1
  omega
 have hb34:Below w3.heap.size w3 W4:=by rw [← hW4];exact ext_alloc (Below.refl _ _)
 have hwr4:WRow g U W4:=hwr.below hb34
 have hB4:Below W0.heap.size W0 W4:=ext_trans hB3 hb34
 have HR4:=Lib.hid hr4
 have HW4:=Lib.hid hW4
 have HWR4:=Lib.hid hwr4
 have HB4:=Lib.hid hB4
 clear hwr hwr4 hr4 hB3 hb34 hB2
 go_upto_region 6 with (fail)
 try rw [HW4.out]
 clear v0 v1 v2 e0 e1 hW4
 have hgx:g≠xb+1+1:=by omega
 have hobx:xb+1+1<ob:=by omega
 obtain⟨⟨v0,v1,v2⟩,e0,e1⟩:=HV.out W4 HB4.out
 go_wp2
 clear v0 v1 v2 e0 e1
 go_loopw [9] (fun i wr=>∃ k:Nat,k≤ct∧i = .int .i64 ((st+k:Nat):Int)∧Below W0.heap.size W0 wr∧Hid (WRow g (setW U st k) wr)∧Hid (wr.heap[ob]? = some (.cells #[.int .i64 n,.slice (some ⟨g,0,none⟩) 1 gc] 90 (0,0)))) (fun i _=>st+ct - (intOf i).toNat)
 case atStart=>exact⟨0,Nat.zero_le _,rfl,HB4.out,HWR4.out,HR4.out⟩
 case round =>
  obtain⟨wo,rfl⟩:∃ wo:World,wo=wr:=⟨_,rfl⟩
  obtain⟨k,hk,rfl,hB,hwr,hrow⟩:=hrel
  obtain⟨⟨v0,v1,v2⟩,e0,e1⟩:=HV.out wo hB
  by_cases hlt:k<ct
  ·obtain⟨j,hj⟩:∃ j,st+k=j:=⟨_,rfl⟩
   have hj6:j<64:=by have:=HF.out;omega
   have hji:(j:Int)<(st:Int)+(ct:Int):=by omega
   have hj0:(0:Int)≤j:=by omega
   have hj64:(j:Int)<64:=by omega
   have hq:(j:Int).tdiv 64=0:=by rw [Int.tdiv_eq_ediv_of_nonneg hj0];omega
   have hm:(j:Int).tmod 64=j:=by rw [Int.tmod_eq_emod_of_nonneg hj0];omega
   rw [hj]
   obtain⟨V,hV⟩:∃ V,setW U st k=V:=⟨_,rfl⟩
   have HVV:=Lib.hid hV
   have HJ:=Lib.hid hj
   obtain⟨o0,o1,_⟩:=blk2 hrow.out
   rw [hV] at hwr
   obtain⟨c0,cf⟩:=hwr.out.cell
   clear hV hj
   go_upto_region 10 with (fail)
   go_region
   have hVU:V<18446744073709551616:=by rw [← HVV.out];exact setW_lt hU k (by have:=HF.out;omega)
   have hor:bits .or .u64 (V:Int) (IntKind.u64.wrap (2 ^ j))=((V ||| 2 ^ j:Nat):Int):=or_val V j hVU hj6
   rw [hor]
   have hws:WRow g (V ||| 2 ^ j) (wo.setCell ⟨g,0,none⟩ (.int .u64 ((V ||| 2 ^ j:Nat):Int))):=hwr.out.set
   obtain⟨w5,hw5⟩:∃ W,(wo.setCell ⟨g,0,none⟩ (.int .u64 ((V ||| 2 ^ j:Nat):Int))).drew=W:=⟨_,rfl⟩
   have hwr5:Hid (WRow g (setW U st (k+1)) w5):=by
    rw [setW,HVV.out,HJ.out, ← hw5];exact hws
   have hrow5:Hid (w5.heap[ob]? = some (.cells #[.int .i64 n,.slice (some ⟨g,0,none⟩) 1 gc] 90 (0,0))):=by
    rw [← hw5];exact (heap_setCell_other _ _ _ _ (by show ob≠g;omega)).trans hrow.out
   have hB5:Below W0.heap.size W0 w5:=by rw [← hw5];exact (hB.setCell (p:=⟨g,0,none⟩) hg0 _).drew
   rw [hw5]
   clear hw5 hws hor hwr hrow hB v0 v1 v2 e0 e1 o0 o1 c0 cf
   go_wp2_with fail
   go_roundw
   case rel=>exact⟨k+1,hlt,by have:=HJ.out;go_num,hB5,hwr5,hrow5⟩
   case measure=>simp [intOf];omega
  ·obtain rfl:k=ct:=by omega
   have hji:¬ ((st+k:Nat):Int)<(st:Int)+(k:Int):=by omega
   obtain⟨o0,o1,_⟩:=blk2 hrow.out
   have hr5:=(hB.block (xb+1+1) hxl).trans HR2.out
   obtain⟨p0,p1,pf⟩:=blk2 hr5
   go_wp2
   have hBw:Below w.heap.size w wo:=by rw [hxb];exact (hxb ▸ ext_trans hb0 hB)
   clear p0 p1 pf o0 o1 e0 e1 v0 v1 v2
   -- a bitmap stored into the result's cell (block xb + 1 + 1 of world wo), then the return with the number 0
   have hz:=set2_row hr5 (.int .i64 (n:Int)) (.slice (some ⟨g,0,none⟩) 1 gc)
   have hw3:=WRow.set2 hwr.out (b:=xb+1+1) (by omega) (.int .i64 (n:Int)) (.slice (some ⟨g,0,none⟩) 1 gc)
   have hbf:Below w.heap.size w ((wo.setCell ⟨xb+1+1,0,none⟩ (.int .i64 (n:Int))).setCell ⟨xb+1+1,1,none⟩ (.slice (some ⟨g,0,none⟩) 1 gc)):=(hBw.setCell (p:=⟨xb+1+1,0,none⟩) (by show w.heap.size≤xb+1+1;omega) _).setCell (p:=⟨xb+1+1,1,none⟩) (by show w.heap.size≤xb+1+1;omega) _
   generalize (wo.setCell ⟨xb+1+1,0,none⟩ (.int .i64 (n:Int))).setCell ⟨xb+1+1,1,none⟩ (.slice (some ⟨g,0,none⟩) 1 gc)=W3 at hz hw3 hbf ⊢
   refine bodyPost_ret (v := .tuple #[.agg #[.int .i64 (n:Int),.slice (some ⟨g,0,none⟩) 1 gc],.int .i64 0]) (results_cell_rowB (p:=6) (q:=7) (ty:=90) rfl _ _ (xb+1+1) _ _ (0,0) _ (.int .i64 0) rfl rfl hz Tryz.underlying90 rfl (by kernel_rfl)) rfl ?_
   refine⟨⟨_,rfl,g,gc,rfl,by omega,hw3⟩, ?_⟩
   first | exact hbf | (rw [← hxb];exact hbf)
set_option maxHeartbeats 4000000 in
set_option maxRecDepth 100000 in
theorem set02_any (n b off wc U st ct:Nat) (w:World) (hn:1≤n∧n≤64) (hf:st+ct≤n) (hU:U<18446744073709551616) (hz:∀ j,n≤j→j<64→U.testBit j=false) (hc:w.cell? ⟨b,off,none⟩=some (.int .u64 U)) :
  Calls Tryz.prog 94 #[.agg #[.int .i64 n,.slice (some ⟨b,off,none⟩) 1 wc],.agg #[.int .i64 st,.int .i64 ct]] w fun e w'=>(∃ v,e = .returned (.tuple #[v,.int .i64 0])∧BmAt n (setW U st ct) w.heap.size v w')∧Below w.heap.size w w':=by
 obtain⟨xb,hxb⟩:∃ xb,w.heap.size=xb:=⟨_,rfl⟩
 obtain⟨W0,hW0⟩:∃ W,((w.alloc (.cells #[.int .i64 n,.slice (some ⟨b,off,none⟩) 1 wc] 90)).alloc (.cells #[.int .i64 st,.int .i64 ct] 104)).alloc (.cells #[.int .i64 0,.slice none 0 0] 90)=W:=⟨_,rfl⟩
 have hb0:Below w.heap.size w W0:=by rw [← hW0];exact ext_alloc (ext_alloc (ext_alloc (Below.refl _ _)))
 have hbl:b<w.heap.size:=block_lt_of_cell hc
 have hr0:W0.heap[xb]? = some (.cells #[.int .i64 n,.slice (some ⟨b,off,none⟩) 1 wc] 90 (0,0)):=by rw [← hW0, ← hxb];exact (Below.heap_alloc _ _ _ (by simp <;> omega)).trans ((Below.heap_alloc _ _ _ (by simp)).trans (heap_alloc_new _ _))
 have hr1:W0.heap[xb+1]? = some (.cells #[.int .i64 st,.int .i64 ct] 104 (0,0)):=by rw [← hW0, ← hxb];exact (Below.heap_alloc _ _ _ (by simp)).trans (heap_new2 _ _ _)
 have hr2:W0.heap[xb+1+1]? = some (.cells #[.int .i64 0,.slice none 0 0] 90 (0,0)):=by rw [← hW0, ← hxb];exact heap_new3 _ _ _ _
 have hxl:xb+1+1<W0.heap.size:=(Array.getElem?_eq_some_iff.1 hr2).1
 have HR2:=Lib.hid hr2
 obtain⟨v0,v1,_⟩:=blk2 hr0
 obtain⟨e0,e1,_⟩:=blk2 hr1
 have HCH:=Lib.hid (change02_any n b off wc U st ct W0 hn hf hU hz ((hb0.cell (p:=⟨b,off,none⟩) hbl).trans hc))
 clear hr0 hr1 hr2 hc hz
 go_enter Tryz.func94,Tryz.ntmps94
 go_wp2_with fail
 refine HCH.out.mono ?_
 rintro e w1 ⟨⟨v,rfl,g,gc,rfl,hg,hwr⟩,hb1⟩
 have hr5:=(hb1.block (xb+1+1) hxl).trans HR2.out
 obtain⟨p0,p1,pf⟩:=blk2 hr5
 have HB1:=Lib.hid hb1
 have HWR:=Lib.hid hwr
 have HB0:=Lib.hid hb0
 clear v0 v1 e0 e1 HCH hW0 hb1 hwr hb0
 go_wp2
 have hBw:Below w.heap.size w w1:=ext_trans HB0.out HB1.out
 clear p0 p1 pf
 -- a bitmap stored into the result's cell (block xb + 1 + 1 of world w1), then the return with the number 0
 have hz:=set2_row hr5 (.int .i64 (n:Int)) (.slice (some ⟨g,0,none⟩) 1 gc)
 have hw3:=WRow.set2 HWR.out (b:=xb+1+1) (by omega) (.int .i64 (n:Int)) (.slice (some ⟨g,0,none⟩) 1 gc)
 have hbf:Below w.heap.size w ((w1.setCell ⟨xb+1+1,0,none⟩ (.int .i64 (n:Int))).setCell ⟨xb+1+1,1,none⟩ (.slice (some ⟨g,0,none⟩) 1 gc)):=(hBw.setCell (p:=⟨xb+1+1,0,none⟩) (by show w.heap.size≤xb+1+1;omega) _).setCell (p:=⟨xb+1+1,1,none⟩) (by show w.heap.size≤xb+1+1;omega) _
 generalize (w1.setCell ⟨xb+1+1,0,none⟩ (.int .i64 (n:Int))).setCell ⟨xb+1+1,1,none⟩ (.slice (some ⟨g,0,none⟩) 1 gc)=W3 at hz hw3 hbf ⊢
 refine bodyPost_ret (v := .tuple #[.agg #[.int .i64 (n:Int),.slice (some ⟨g,0,none⟩) 1 gc],.int .i64 0]) (results_cell_rowB (p:=4) (q:=5) (ty:=90) rfl _ _ (xb+1+1) _ _ (0,0) _ (.int .i64 0) rfl rfl hz Tryz.underlying90 rfl (by kernel_rfl)) rfl ?_
 refine⟨⟨_,rfl,g,gc,rfl,by omega,hw3⟩, ?_⟩
 first | exact hbf | (rw [← hxb];exact hbf)
end Go.Proofs.YtgndgkjefgjamaaGreat
namespace Go.Proofs.YtgndgkjefgjamaaGreat
open Go.RowKit Go.Shelf
attribute [local go_sem] Oper.semAt_some

def wordL:List Ext→Nat→Nat
 | [],U=>U
 | x :: l,U=>wordL l (setW U x.1.toNat x.2.toNat)
theorem wordL_snoc (x:Ext):∀ (l:List Ext) (U:Nat),wordL (l++[x]) U=setW (wordL l U) x.1.toNat x.2.toNat
 | [],_=>rfl
 | y :: l,U=>wordL_snoc x l _
def OkEx (n:Nat) (x:Ext):Prop:=0≤x.1∧0≤x.2∧x.1+x.2≤n
theorem wordL_lt {n:Nat} (hn:n≤64):∀ (l:List Ext) (U:Nat),(∀ x∈l,OkEx n x)→U<18446744073709551616→wordL l U<18446744073709551616
 | [],_,_,h=>h
 | x :: l,U,hl,h=>wordL_lt hn l _ (fun y hy=>hl y (List.mem_cons_of_mem _ hy)) (setW_lt h _ (by obtain⟨h1,h2,h3⟩:=hl x List.mem_cons_self;omega))
theorem wordL_bit {n j:Nat} (hn:n≤64):∀ (l:List Ext) (U:Nat),(∀ x∈l,OkEx n x)→(wordL l U).testBit j=(U.testBit j || l.any (inExt j))
 | [],U,_=>by simp [wordL]
 | x :: l,U,hl=>by
   obtain⟨h1,h2,h3⟩:=hl x List.mem_cons_self
   have h:decide (x.1.toNat≤j∧j<x.1.toNat+x.2.toNat)=inExt j x:=by
    unfold inExt
    exact decide_eq_decide.2 (by omega)
   rw [wordL,wordL_bit hn l _ (fun y hy=>hl y (List.mem_cons_of_mem _ hy)),setW_bit,List.any_cons,Bool.or_assoc,h]
theorem wordL_hi {n j:Nat} (hn:n≤64) {l:List Ext} (hl:∀ x∈l,OkEx n x) (hj:n≤j):(wordL l 0).testBit j=false:=by
 rw [wordL_bit hn l 0 hl,Nat.zero_testBit,Bool.false_or,List.any_eq_false]
 intro x hx
 obtain⟨h1,h2,h3⟩:=hl x hx
 unfold inExt
 simp only [decide_eq_true_eq]
 omega
set_option maxHeartbeats 4000000 in
set_option maxRecDepth 100000 in
theorem from02_any (n m:Nat) (A:Option Addr) (c:Nat) (l:List Ext) (w:World) (hn:1≤n∧n≤64) (hm:l.length=m) (h1:SlAt encExt w (Bl w.heap.size) A l) (hl:∀ x∈l,OkEx n x) (hmm:m≤1000000) :
  Calls Tryz.prog 41 #[.int .i64 n,.slice A m c] w fun e w'=>(∃ v,e = .returned (.tuple #[v,.int .i64 0])∧BmAt n (wordL l 0) w.heap.size v w')∧Below w.heap.size w w':=by
 subst hm
 obtain⟨xb,hxb⟩:∃ xb,w.heap.size=xb:=⟨_,rfl⟩
 obtain⟨W0,hW0⟩:∃ W,w.alloc (.cells #[.int .i64 0,.slice none 0 0] 90)=W:=⟨_,rfl⟩
 have hb0:Below w.heap.size w W0:=by rw [← hW0];exact ext_alloc (Below.refl _ _)
 have hr0:W0.heap[xb]? = some (.cells #[.int .i64 0,.slice none 0 0] 90 (0,0)):=by rw [← hW0, ← hxb];exact heap_alloc_new _ _
 have hxl:xb<W0.heap.size:=(Array.getElem?_eq_some_iff.1 hr0).1
 have HR0:=Lib.hid hr0
 have H1:Hid (∀ W,Below W0.heap.size W0 W→SlAt encExt W (Bl w.heap.size) A l):=fun W hb=>h1.below (hb0.trans (hb.mono hb0.size))
 have HNW:=Lib.hid (new02_any n W0 hn)
 have HOK:=Lib.hid hl
 have hn6:(n:Int)≤64:=by omega
 clear hr0 h1 hl
 go_enter Tryz.func41,Tryz.ntmps41
 go_wp2_with fail
 refine HNW.out.mono ?_
 rintro e w1 ⟨⟨v,rfl,g,gc,rfl,hg,hwr⟩,hb1⟩
 obtain⟨mb,hmb⟩:∃ mb,w1.heap.size=mb:=⟨_,rfl⟩
 obtain⟨W2,hW2⟩:∃ W,w1.alloc (.cells #[.int .i64 n,.slice (some ⟨g,0,none⟩) 1 gc] 90)=W:=⟨_,rfl⟩
 have hr2:W2.heap[mb]? = some (.cells #[.int .i64 n,.slice (some ⟨g,0,none⟩) 1 gc] 90 (0,0)):=by rw [← hW2, ← hmb];exact heap_alloc_new _ _
 have hml:mb<W2.heap.size:=(Array.getElem?_eq_some_iff.1 hr2).1
 have hb12:Below w1.heap.size w1 W2:=by rw [← hW2];exact ext_alloc (Below.refl _ _)
 have hB2:Below W0.heap.size W0 W2:=ext_trans hb1 hb12
 have hgm:g≠mb:=by
  obtain⟨L,h1,_⟩:=hwr
  have:=(Array.getElem?_eq_some_iff.1 h1).1
  omega
 have hm0:W0.heap.size≤mb:=by rw [← hmb];exact hb1.size
 have hst2:Hid (∃ g gc,W2.heap[mb]? = some (.cells #[.int .i64 n,.slice (some ⟨g,0,none⟩) 1 gc] 90 (0,0))∧W0.heap.size≤g∧g≠mb∧WRow g (wordL (l.take 0) 0) W2):=⟨g,gc,hr2,hg,hgm,hwr.below hb12⟩
 have HW2:=Lib.hid hW2
 clear hr2 hwr hb12 HNW hb1 hgm hW0
 go_wp2
 try rw [HW2.out]
 clear hW2
 go_loopw [7,8] (fun e i wr=>e = .int .i64 0∧∃ k:Nat,k≤l.length∧i = .int .i64 k∧Below W0.heap.size W0 wr∧mb<wr.heap.size∧Hid (∃ g gc,wr.heap[mb]? = some (.cells #[.int .i64 n,.slice (some ⟨g,0,none⟩) 1 gc] 90 (0,0))∧W0.heap.size≤g∧g≠mb∧WRow g (wordL (l.take k) 0) wr)) (fun _ i _=>l.length - (intOf i).toNat)
 case atStart=>exact⟨rfl,0,Nat.zero_le _,rfl,hB2,hml,hst2⟩
 case round =>
  obtain⟨wo,rfl⟩:∃ wo:World,wo=wr:=⟨_,rfl⟩
  clear hst2 hB2 hml hg
  obtain⟨rfl,k,hk,rfl,hB,hmo,hst⟩:=hrel
  obtain⟨g,gc,hrow,hg,hgm,hwr⟩:=hst.out
  obtain⟨o0,o1,of⟩:=blk2 hrow
  have HROW:=Lib.hid hrow
  have HWR:=Lib.hid hwr
  clear hst hrow hwr
  by_cases hlt:k<l.length
  ·obtain⟨b,off,rfl,hb,e0,e1,hi1,hi2⟩:=(H1.out wo hB).ext hlt
   have hkk:(0:Int)≤k:=by omega
   have hki:(k:Int)<l.length:=by omega
   obtain⟨ok1,ok2,ok3⟩:=HOK.out _ (List.getElem_mem hlt)
   obtain⟨x,hx⟩:∃ x,l[k]=x:=⟨_,rfl⟩
   rw [hx] at e0 e1 ok1 ok2 ok3
   obtain⟨st,hst⟩:∃ st:Nat,x.1=st:=⟨x.1.toNat,by omega⟩
   obtain⟨ct,hct⟩:∃ ct:Nat,x.2=ct:=⟨x.2.toNat,by omega⟩
   rw [hst,hct] at ok3
   rw [hst] at e0
   rw [hct] at e1
   have hbl:b<W0.heap.size:=by have h1:b<w.heap.size:=hb;have:=hb0.size;omega
   have HEV:Hid (∀ W,Below W0.heap.size W0 W→W.cell? ⟨b,off+k * 2,none⟩=some (.int .i64 st)∧W.cell? ⟨b,off+k * 2+1,none⟩=some (.int .i64 ct)):=fun W hbw=>by
    have h0:=World.cell?_of_block (a:=⟨b,off+k * 2,none⟩) ((hbw.block b hbl).trans (hB.block b hbl).symm)
    have h2:=World.cell?_of_block (a:=⟨b,off+k * 2+1,none⟩) ((hbw.block b hbl).trans (hB.block b hbl).symm)
    exact⟨h0.trans e0,h2.trans e1⟩
   have hwl:wordL (l.take (k+1)) 0=setW (wordL (l.take k) 0) st ct:=by
    rw [List.take_succ_eq_append_getElem hlt,wordL_snoc,hx,hst,hct];rfl
   obtain⟨V,hV⟩:∃ V,wordL (l.take k) 0=V:=⟨_,rfl⟩
   have hokt:∀ y∈l.take k,OkEx n y:=fun y hy=>HOK.out y (List.mem_of_mem_take hy)
   have hVlt:V<18446744073709551616:=by rw [← hV];exact wordL_lt hn.2 _ 0 hokt (by decide)
   have hVz:∀ j,n≤j→j<64→V.testBit j=false:=fun j hj _=>by rw [← hV];exact wordL_hi hn.2 hokt hj
   rw [hV] at hwl HWR
   have HST:=Lib.hid (fun (W:World) (hc:W.cell? ⟨g,0,none⟩=some (.int .u64 V))=>set02_any n g 0 gc V st ct W hn (by omega) hVlt hVz hc)
   have HWL:=Lib.hid hwl
   have hSw:Below W0.heap.size W0 wo.drew:=hB.drew
   clear e0 e1 hi1 hi2 hx hst hct hV hokt hVlt hVz hwl
   go_upto_region 5 with (fail)
   refine wp_region_U (fun W'=>Below W0.heap.size W0 W') 10 (by kernel_rfl) ?_
   refine wpAnyU_takeD (i:=1) (v := ?_) rfl rfl (by kernel_rfl) (by kernel_rfl) (by kernel_rfl) (by kernel_rfl) (fun _ _ _ h=>h) (by rfl) ?_ hSw ?_
   rotate_left 1
   ·intro W9 hW9
    try dsimp only at hW9
    obtain _:=trivial
    go_simp
    try with_reducible rfl
   try simp only [List.setIfInBounds_toArray,List.set_cons_zero,List.set_cons_succ]
   refine wpAnyU_takeD (i:=2) (v := ?_) rfl rfl (by kernel_rfl) (by kernel_rfl) (by kernel_rfl) (by kernel_rfl) (fun _ _ _ h=>h) (by rfl) ?_ hSw ?_
   rotate_left 1
   ·intro W9 hW9
    try dsimp only at hW9
    obtain _:=trivial
    go_simp
    try with_reducible rfl
   try simp only [List.setIfInBounds_toArray,List.set_cons_zero,List.set_cons_succ]
   refine wpAnyU_takeD (i:=3) (v := ?_) rfl rfl (by kernel_rfl) (by kernel_rfl) (by kernel_rfl) (by kernel_rfl) (fun _ _ _ h=>h) (by rfl) ?_ hSw ?_
   rotate_left 1
   ·intro W9 hW9
    try dsimp only at hW9
    obtain _:=trivial
    go_simp
    try with_reducible rfl
   try simp only [List.setIfInBounds_toArray,List.set_cons_zero,List.set_cons_succ]
   refine wpAnyU_takeD (i:=4) (v := ?_) rfl rfl (by kernel_rfl) (by kernel_rfl) (by kernel_rfl) (by kernel_rfl) (fun _ _ _ h=>h) (by rfl) ?_ hSw ?_
   rotate_left 1
   ·intro W9 hW9
    try dsimp only at hW9
    obtain⟨q0,q1⟩:=HEV.out W9 hW9
    go_simp
    try with_reducible rfl
   try simp only [List.setIfInBounds_toArray,List.set_cons_zero,List.set_cons_succ]
   refine wpAnyU_op (i:=0) (by kernel_rfl) rfl rfl (fun K hK => ?_)
   go_simp
   refine hK.out _ _ (fun _=>hSw) ?_
   clear hK K
   try simp only [Act.put,List.setIfInBounds_toArray,List.set_cons_zero,List.set_cons_succ]
   refine wpAnyU_op (i:=5) (by kernel_rfl) rfl rfl (fun K hK => ?_)
   go_wp2_with fail
   refine (HST.out wo.drew HWR.out.cell.1).mono ?_
   rintro e w7 ⟨⟨v,rfl,g7,gc7,rfl,hg7,hwr7⟩,hb7⟩
   have hS7:Below W0.heap.size W0 w7:=ext_trans hSw hb7
   have hrow7:=(hb7.block mb hmo).trans HROW.out
   refine hK.out _ _ (fun _=>hS7) ?_
   clear hK K
   try simp only [Act.put,List.setIfInBounds_toArray,List.set_cons_zero,List.set_cons_succ]
   clear hSw
   have hSw:=hS7
   refine wpAnyU_takeD (i:=6) (v := ?_) rfl rfl (by kernel_rfl) (by kernel_rfl) (by kernel_rfl) (by kernel_rfl) (fun _ _ _ h=>h) (by rfl) ?_ hSw ?_
   rotate_left 1
   ·intro W9 hW9
    try dsimp only at hW9
    obtain _:=trivial
    go_simp
    try with_reducible rfl
   try simp only [List.setIfInBounds_toArray,List.set_cons_zero,List.set_cons_succ]
   refine wpAnyU_takeD (i:=7) (v := ?_) rfl rfl (by kernel_rfl) (by kernel_rfl) (by kernel_rfl) (by kernel_rfl) (fun _ _ _ h=>h) (by rfl) ?_ hSw ?_
   rotate_left 1
   ·intro W9 hW9
    try dsimp only at hW9
    obtain _:=trivial
    go_simp
    try with_reducible rfl
   try simp only [List.setIfInBounds_toArray,List.set_cons_zero,List.set_cons_succ]
   refine wpAnyU_takeD (i:=8) (v := ?_) rfl rfl (by kernel_rfl) (by kernel_rfl) (by kernel_rfl) (by kernel_rfl) (fun _ _ _ h=>h) (by rfl) ?_ hSw ?_
   rotate_left 1
   ·intro W9 hW9
    try dsimp only at hW9
    obtain _:=trivial
    go_simp
    try with_reducible rfl
   try simp only [List.setIfInBounds_toArray,List.set_cons_zero,List.set_cons_succ]
   obtain⟨p0,p1,pf⟩:=blk2 hrow7
   have hS9:Below W0.heap.size W0 ((w7.setCell ⟨mb,0,none⟩ (.int .i64 n)).setCell ⟨mb,1,none⟩ (.slice (some ⟨g7,0,none⟩) 1 gc7)):=(hS7.setCell (p:=⟨mb,0,none⟩) hm0 _).setCell (p:=⟨mb,1,none⟩) hm0 _
   refine wpAnyU_op (i:=9) (by kernel_rfl) rfl rfl (fun K hK => ?_)
   go_simp
   refine hK.out _ _ (fun _=>hS9) ?_
   clear hK K
   try simp only [Act.put,List.setIfInBounds_toArray,List.set_cons_zero,List.set_cons_succ]
   refine wpAnyU_op (i:=10) (by kernel_rfl) rfl rfl (fun K hK => ?_)
   go_simp
   refine hK.out _ _ (fun h=>absurd rfl h) ?_
   clear hK K
   refine wpAnyU_done (by kernel_rfl) ?_ _
   have hz:=set2_row hrow7 (.int .i64 (n:Int)) (.slice (some ⟨g7,0,none⟩) 1 gc7)
   have hgm7:g7≠mb:=by have h1:wo.heap.size≤g7:=hg7;omega
   have hg70:W0.heap.size≤g7:=by have h1:wo.heap.size≤g7:=hg7;have:=hB.size;omega
   have hw3:=WRow.set2 hwr7 (b:=mb) hgm7 (.int .i64 (n:Int)) (.slice (some ⟨g7,0,none⟩) 1 gc7)
   have hzs:mb<((w7.setCell ⟨mb,0,none⟩ (.int .i64 n)).setCell ⟨mb,1,none⟩ (.slice (some ⟨g7,0,none⟩) 1 gc7)).heap.size:=(Array.getElem?_eq_some_iff.1 hz).1
   generalize (w7.setCell ⟨mb,0,none⟩ (.int .i64 (n:Int))).setCell ⟨mb,1,none⟩ (.slice (some ⟨g7,0,none⟩) 1 gc7)=W3 at hz hw3 hS9 hzs ⊢
   have hst5:Hid (∃ g gc,W3.heap[mb]? = some (.cells #[.int .i64 n,.slice (some ⟨g,0,none⟩) 1 gc] 90 (0,0))∧W0.heap.size≤g∧g≠mb∧WRow g (wordL (l.take (k+1)) 0) W3):=⟨g7,gc7,hz,hg70,hgm7,by rw [HWL.out];exact hw3⟩
   clear hz hw3 hg70 hgm7 hrow7 hS7 hSw p0 p1 pf hwr7 hg7 hb7 HST o0 o1 of hB
   go_wp2_with fail
   go_roundw
   case rel=>exact⟨rfl,k+1,hlt,by go_num,hS9,hzs,hst5⟩
   case measure=>simp [intOf];omega
  ·obtain rfl:k=l.length:=by omega
   have hr5:=(hB.block xb hxl).trans HR0.out
   obtain⟨p0,p1,pf⟩:=blk2 hr5
   have HWR2:=HWR.out
   rw [List.take_length] at HWR2
   have HWR3:=Lib.hid HWR2
   have HBW:Hid (Below w.heap.size w wo):=ext_trans hb0 hB
   clear HWR2 HWR
   go_wp2
   clear p0 p1 pf o0 o1 of
   have hgx:g≠xb:=by omega
   have hBw:=HBW.out
   have hlo:w.heap.size≤g:=by have:=hb0.size;omega
   -- a bitmap stored into the result's cell (block xb of world wo), then the return with the number 0
   have hz:=set2_row hr5 (.int .i64 (n:Int)) (.slice (some ⟨g,0,none⟩) 1 gc)
   have hw3:=WRow.set2 HWR3.out (b:=xb) (by omega) (.int .i64 (n:Int)) (.slice (some ⟨g,0,none⟩) 1 gc)
   have hbf:Below w.heap.size w ((wo.setCell ⟨xb,0,none⟩ (.int .i64 (n:Int))).setCell ⟨xb,1,none⟩ (.slice (some ⟨g,0,none⟩) 1 gc)):=(hBw.setCell (p:=⟨xb,0,none⟩) (by show w.heap.size≤xb;omega) _).setCell (p:=⟨xb,1,none⟩) (by show w.heap.size≤xb;omega) _
   generalize (wo.setCell ⟨xb,0,none⟩ (.int .i64 (n:Int))).setCell ⟨xb,1,none⟩ (.slice (some ⟨g,0,none⟩) 1 gc)=W3 at hz hw3 hbf ⊢
   refine bodyPost_ret (v := .tuple #[.agg #[.int .i64 (n:Int),.slice (some ⟨g,0,none⟩) 1 gc],.int .i64 0]) (results_cell_rowB (p:=4) (q:=5) (ty:=90) rfl _ _ (xb) _ _ (0,0) _ (.int .i64 0) rfl rfl hz Tryz.underlying90 rfl (by kernel_rfl)) rfl ?_
   refine⟨⟨_,rfl,g,gc,rfl,by omega,hw3⟩, ?_⟩
   first | exact hbf | (rw [← hxb];exact hbf)
end Go.Proofs.YtgndgkjefgjamaaGreat
namespace Go.Proofs.YtgndgkjefgjamaaGreat

theorem look_hit {l:List Wr} {v i:Int} (h:(look l v i).isSome=true):∃ x∈l,hits x v i:=by
 induction l using snocRec with
 | h0=>simp [look_nil] at h
 | h1 l x ih =>
   rw [look_snoc] at h
   by_cases hh:hits x v i
   ·exact⟨x,by simp,hh⟩
   ·rw [if_neg hh] at h
    obtain⟨y,hy,h2⟩:=ih h
    exact⟨y,by simp [hy],h2⟩
theorem runs_ok {im:Img} {ov:List Wr} (hf:∀ y∈ov,fitsN (lens im) y=0) (v:Nat):∀ x∈runsL (secsOf ov v),OkEx (im.getD v []).length x:=by
 have h:=(runsL_bound ((im.getD v []).length:Int) (secsOf ov v) (fun s hs=>by
  obtain⟨h1,_,h3⟩:=(secsOf_iff ov v s).1 hs
  refine⟨h1, ?_⟩
  obtain⟨y,hy,g1,g2,g3⟩:=look_hit h3
  obtain⟨k,q,e1,e2,_,_,e3⟩:=fits_img (hf y hy)
  have hkv:k=v:=by rw [e1] at g1;exact Int.ofNat.inj g1
  subst hkv
  omega)).1
 intro x hx
 obtain⟨h1,h2,h3⟩:=h x hx
 exact⟨h1,by omega,h3⟩
theorem lens2 {im:Img} {a:Int} (h:lens im=[a,4]):im.length=2∧∀ v (hv:v<im.length),((im[v]).length:Int)=if v=0 then a else 4:=by
 match im,h with
 | [],h=>simp [lens] at h
 | [_],h=>simp [lens] at h
 | _ :: _ :: _ :: _,h=>simp [lens] at h
 | [r0,r1],h =>
   simp only [lens,List.map_cons,List.map_nil,List.cons.injEq,and_true] at h
   unfold lenI at h
   refine⟨rfl,fun v hv => ?_⟩
   have hv2:v<2:=hv
   match v,hv2 with
   | 0,_=>exact h.1
   | 1,_=>exact h.2
theorem getD_at {α:Type} {l:List α} {k:Nat} (h:k<l.length) (d:α):l.getD k d=l[k]:=by
 rw [List.getD_eq_getElem?_getD,List.getElem?_eq_getElem h];rfl
theorem CInv.differs2 {a:Int} {k:Nat} {s:CSt} (h:CInv [a,4] k s) (ha:1≤a∧a≤12) {i:Nat} (hi:i<4) (ht:s.th i=true) :
  ∃ (j:Nat) (hj:j<s.c.2.length),cfE s.c (nmC i)=0∧cIm s.c (nmC i)=s.cl i∧idxAt (isN (nmC i)) s.c.2=j∧findE s.c.1 (s.c.2[j]).2.1=0 ∧
    ∃ (o:Img) (e:List (List Ext)),sImage s.c.1 (s.c.2[j]).2.1=o∧chgS s.c (nmC i)=e∧(s.cl i).length=2∧o.length=2∧e.length=2 ∧
      ∀ (v:Nat) (h1:v<(s.cl i).length) (h2:v<o.length) (h3:v<e.length),((s.cl i)[v]).length=(o[v]).length∧1≤(o[v]).length∧(o[v]).length≤12∧(∀ x∈e[v],OkEx (o[v]).length x) ∧
        ∀ (n:Nat) (g1:n<((s.cl i)[v]).length) (g2:n<(o[v]).length),(e[v]).any (inExt n)=false→((s.cl i)[v])[n]=(o[v])[n]:=by
 obtain⟨j,hj,e1,e2,e3,e4,e5,e6,e7,e8,e9⟩:=h.differs hi ht
 obtain⟨c1,c2⟩:=lens2 e3
 obtain⟨o1,o2⟩:=lens2 e8
 have hfx:∀ y∈(s.c.2[j]).2.2,fitsN (lens (s.sn (s.c.2[j]).2.1.toNat)) y=0:=by
  have:=((clE_fits (im:=s.c.1.1) (l:=s.c.1.2) (cl:=s.c.2) h.ok).2.2 _ (List.getElem_mem hj)).2
  rw [h.cur,h.lns] at this
  rw [e8]
  exact this
 have hidx:idxAt (isN (nmC i)) s.c.2=j:=by
  rcases cf_cases (c:=s.c) (nm:=nmC i) h.ok with ⟨_,q2⟩ | ⟨q,hq,q1,q2,q3,_⟩
  ·rw [e1] at q2;cases q2
  ·rw [q1, ← e4,q3]
 have hcur2:s.c.1.1.length=2:=by rw [h.cur];exact (lens2 h.lns).1
 refine⟨j,hj,e1,e2,hidx,e6,_,_,e7,rfl,c1,o1, ?_, ?_⟩
 ·rw [chgS,if_pos e1];simp [hcur2]
 ·intro v h1 h2 h3
  have hv2:v<2:=by omega
  have hl1:=c2 v h1
  have hl2:=o2 v h2
  have hee:(chgS s.c (nmC i))[v]=runsL (secsOf (s.c.2[j]).2.2 v):=by
   simp only [chgS,if_pos e1,List.getElem_map,List.getElem_range,e5]
  have hle:((s.sn (s.c.2[j]).2.1.toNat)[v]).length≤12∧1≤((s.sn (s.c.2[j]).2.1.toNat)[v]).length:=by
   by_cases hv:v=0
   ·rw [if_pos hv] at hl2;omega
   ·rw [if_neg hv] at hl2;omega
  refine⟨by have:=hl1.trans hl2.symm;omega,hle.2,hle.1, ?_,fun n g1 g2 hn => ?_⟩
  ·rw [hee]
   have:=runs_ok hfx v
   rw [getD_at h2] at this
   exact this
  ·rw [hee] at hn
   have h5:=e9 v n (by omega) hn
   unfold secAt at h5
   rw [getD_at h1,getD_at h2,getD_at g1,getD_at g2] at h5
   exact h5
end Go.Proofs.YtgndgkjefgjamaaGreat
namespace Go.Proofs.YtgndgkjefgjamaaGreat

section
variable {P:Program} {ops:Array Oper} {Q:Exit→Act→World→Prop} {md:Region.Mode} {S:World→Prop} {k:Nat}
theorem wpAnyU_firstA {i:Nat} {oi:Oper} {v:Value} (hi:ops[i]? = some oi) (hsel:∀ (j:Nat) (o:Oper) cs b,ops[j]? = some o→o.op ≠ .select cs b)
  (hQ:∀ c a w,Q (.panic c) (a.put oi.dst v) w→Q (.panic c) a w) (hik:ops.size≤k) :
  ∀ (fuel:Nat) (listed:Array Bool) (a:Act) (w:World),
    (∀ j oj,ops[j]? = some oj→j≠i→listed.getD j true=false→(∀ e∈oj.after,Region.binds md e=true→e.on≠i)→oi.apart ops oj=true) →
    i∈Region.ready md ops listed→YieldsIf P ops S oi v a→S w →
    wpAnyU P md ops Q S k fuel (listed.setIfInBounds i true) (a.put oi.dst v) w→wpAnyU P md ops Q S k (fuel+1) listed a w:=by
 intro fuel
 induction fuel with
 | zero =>
   intro listed a w _ hr hy hS H
   refine⟨fun h=>(by rw [h] at hr;cases hr),fun j hj => ?_⟩
   by_cases hji:j=i
   ·subst hji;exact hy.wpOp hi hS ⟨fun _=>hS,H⟩
   ·have:=ready_mono hj hji
    rw [H.1] at this
    cases this
 | succ fuel ih =>
   intro listed a w hfree hr hy hS H
   refine⟨fun h=>(by rw [h] at hr;cases hr),fun j hj => ?_⟩
   by_cases hji:j=i
   ·subst hji;exact hy.wpOp hi hS ⟨fun _=>hS,H⟩
   ·have h1:=H.2 j (ready_mono hj hji)
    obtain⟨hjun,oj,hoj,hall⟩:=mem_ready.1 hj
    have hjk:j≠k:=fun e=>by have:=(Array.getElem?_eq_some_iff.1 hoj).1;omega
    have hnot:∀ e∈oj.after,Region.binds md e=true→e.on≠i:=fun e he hb heq=>by
     have h1:=hall e he hb
     have h0:=(mem_ready.1 hr).1
     rw [heq] at h1
     rcases Nat.lt_or_ge i listed.size with h' | h'
     ·simp [h'] at h0 h1;rw [h0] at h1;cases h1
     ·simp [Array.getElem?_eq_none h'] at h1
    have h2:=wpOp_putIf hoj (hfree j oj hoj hji hjun hnot) (fun cs b=>hsel i oi cs b hi) (fun cs b=>hsel j oj cs b hoj) hQ hy h1
    have hfree':∀ m ok,ops[m]? = some ok→m≠i→(listed.setIfInBounds j true).getD m true=false →
      (∀ e∈ok.after,Region.binds md e=true→e.on≠i)→oi.apart ops ok=true:=fun m ok hm hmi hun hno=>by
     refine hfree m ok hm hmi ?_ hno
     by_cases hjm:j=m
     ·subst hjm;exact hjun
     ·rw [getD_set_ne true hjm] at hun;exact hun
    refine wpOp_mono (fun a' w' h3=>⟨h3.2.1,ih (listed.setIfInBounds j true) a' w' hfree' (ready_mono hr (Ne.symm hji)) h3.1 (h3.2.1 hjk) ?_⟩) h2
    rw [Array.setIfInBounds_comm _ _ hji]
    exact h3.2.2
theorem wpAnyU_takeAD {i:Nat} {oi:Oper} {v:Value} {d:Nat} {fuel:Nat} {listed:Array Bool} {a:Act} {w:World} (hi:ops[i]? = some oi) (hd:oi.dst=some d)
  (hs:Region.noSelect ops=true) (hf:Region.free md ops listed i=true) (hr:(Region.ready md ops listed).contains i=true) (hk:decide (ops.size≤k)=true)
  (hQ:∀ c a w,Q (.panic c) (a.put (some d) v) w→Q (.panic c) a w) (hw:Region.wanted oi (yielded ops a.tmps)=true) (hy:∀ w,S w→(execOp a.eval oi).run P w = .ok (.value v) w) (hS:S w)
  (h:wpAnyU P md ops Q S k fuel (listed.setIfInBounds i true) { tmps:=a.tmps.setIfInBounds d v,defers:=a.defers } w):wpAnyU P md ops Q S k (fuel+1) listed a w :=
 wpAnyU_firstA hi (Region.noSelect_spec hs) (by rw [hd];exact hQ) (of_decide_eq_true hk) fuel listed a w (Region.free_spec hi hf) (by simpa using hr) (Or.inl ⟨hw,hy⟩) hS (by rw [hd];exact h)
end
end Go.Proofs.YtgndgkjefgjamaaGreat

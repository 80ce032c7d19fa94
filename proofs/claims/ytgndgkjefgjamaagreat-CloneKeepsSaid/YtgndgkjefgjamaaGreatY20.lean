/-
  Plain words: a whole run over clones, and what its laws ask of it. No program in sight.; The law's run over clones: the walk.; The law's small over events; the law of a run: the images of clones are what they should be.; How the types of this program read; the closed facts on it.; How events over clones read.
-/
import Derived.BigQuiet
import Derived.Deep.DeepCutAuto
import Derived.Test.YtgndgkjefgjamaaGreatRows
import Derived.Test.YtgndgkjefgjamaaGreatY01
import Derived.Test.YtgndgkjefgjamaaGreatY02
import Derived.Test.YtgndgkjefgjamaaGreatY03
import Derived.Test.YtgndgkjefgjamaaGreatY04
import Derived.Test.YtgndgkjefgjamaaGreatY05
import Derived.Test.YtgndgkjefgjamaaGreatY06
import Derived.Test.YtgndgkjefgjamaaGreatY07
import Derived.Test.YtgndgkjefgjamaaGreatY08
import Derived.Test.YtgndgkjefgjamaaGreatY09
import Derived.Test.YtgndgkjefgjamaaGreatY10
import Derived.Test.YtgndgkjefgjamaaGreatY11
import Derived.Test.YtgndgkjefgjamaaGreatY12
import Derived.Test.YtgndgkjefgjamaaGreatY13
import Derived.Test.YtgndgkjefgjamaaGreatY14
import Derived.Test.YtgndgkjefgjamaaGreatY15
import Derived.Test.YtgndgkjefgjamaaGreatY16
import Derived.Test.YtgndgkjefgjamaaGreatY17
import Derived.Test.YtgndgkjefgjamaaGreatY18
import Derived.Test.YtgndgkjefgjamaaGreatY19
set_option linter.unusedVariables false
set_option linter.unusedSimpArgs false
set_option linter.unusedSectionVars false
set_option linter.unnecessarySimpa false
namespace Go.Proofs.YtgndgkjefgjamaaGreat

theorem evI_lt (e:CEv):evI e < 4:=by unfold evI; omega
theorem CInv.step {sz:List Int} {k:Nat} {s:CSt} (h:CInv sz k s) (hk:k≤1000) (e:CEv):CInv sz (k+1) (cStep s e):=by
  have hi:=evI_lt e
  unfold cStep
  split
  · split
    · rename_i hf; exact (h.rep hf).2.2
    · exact h.mono
  split
  · exact (h.tak hk).2
  split
  · split
    · rename_i hd; exact h.drp hd
    · exact h.mono
  split
  · split
    · exact h.mono
    · rename_i hth
      split
      · rename_i hz; exact ((h.cre hi).2 (by simpa using hth)).2 hz
      · exact h.mono
  split
  · split
    · rename_i hc; exact ((h.wr hi).2 hc.1).2 hc.2
    · exact h.mono
  · split
    · rename_i hth; exact ((h.del hi).2 hth).2
    · exact h.mono
def cSt0 (im:Img):CSt:=⟨((im,[(1,0,[])]),[]),im,fun j=>if j=1 then im else [],1,fun _=>[],fun _=>false⟩
theorem cInv0 {im:Img} {sz:List Int} (hl:lens im=sz) (hz:sizesN sz=0):CInv sz 0 (cSt0 im):=by
  have h0:snE (im,[])=0:=by
    unfold snE
    simp only
    rw [if_neg (by rw [hl,hz]; simp),if_neg (by simp)]; rfl
  obtain ⟨_,_,t3,t4⟩:=tak_facts (n:=1) (t:=0) h0 (by decide) (by decide) (by decide) (by decide) (by decide)
  refine ⟨?_,hl,rfl,⟨Nat.le_refl _,Nat.le_refl _⟩, ?_, ?_, ?_,Nat.le_refl _,rfl, ?_, ?_, ?_, ?_⟩
  · refine clE_iff.2 ⟨t4,by simp,fun x hx=>(by cases hx),by simp⟩
  · intro p hp
    have e:p=(1,0):=by simpa [cSt0,keyS] using hp
    subst e
    show (1:Int)≤1∧(1:Int)≤((1:Nat):Int)∧(0:Int)≤0∧(0:Int)≤((1:Nat):Int)
    decide
  · show imgs im ([] ++ [(1,0,[])])=_
    rw [t3]; rfl
  · intro j h1 h2
    have h3:j≤1:=h2
    obtain rfl:j=1:=by omega
    exact hl
  · intro i _; rfl
  · intro i _ x hx; cases hx
  · intro x hx
    have e:x=(1,0,[]):=by simpa [cSt0] using hx
    subst e; exact Nat.zero_le _
  · intro x hx; cases hx
def cRun (im:Img) (es:List CEv) (k:Nat):CSt:=(es.take k).foldl cStep (cSt0 im)
theorem cRun_succ (im:Img) {es:List CEv} {k:Nat} (h:k < es.length):cRun im es (k+1)=cStep (cRun im es k) es[k]:=by
  unfold cRun; rw [List.take_succ_eq_append_getElem h,List.foldl_append]; rfl
theorem cRun_inv {im:Img} {sz:List Int} (hl:lens im=sz) (hz:sizesN sz=0) {es:List CEv}:∀ k,k≤es.length→k≤100→CInv sz k (cRun im es k)
  | 0,_,_=>cInv0 hl hz
  | k+1,h1,h2=>by rw [cRun_succ im (show k < es.length from h1)]; exact (cRun_inv hl hz k (by omega) (by omega)).step (by omega) _
end Go.Proofs.YtgndgkjefgjamaaGreat
namespace Go.Proofs.YtgndgkjefgjamaaGreat
open Go.RowKit Go.Shelf
attribute [local go_sem] Oper.semAt_some

def RunRet (s':CSt) (w:World) (e:Ending) (w':World):Prop :=
  ∃ row A' c' D' d' G' g' B' bc' sa' sc' ca' cc',e = .returned (.tuple #[.agg row,.bool true])∧row = #[.slice A' s'.c.1.1.length c',.slice D' s'.c.1.2.length d',.slice G' s'.c.2.length g',.slice B' s'.cur.length bc',.slice (sa' 0) (s'.sn 0).length (sc' 0),.slice (sa' 1) (s'.sn 1).length (sc' 1),.slice (sa' 2) (s'.sn 2).length (sc' 2),.slice (sa' 3) (s'.sn 3).length (sc' 3),.slice (sa' 4) (s'.sn 4).length (sc' 4),.slice (sa' 5) (s'.sn 5).length (sc' 5),.slice (sa' 6) (s'.sn 6).length (sc' 6),.slice (sa' 7) (s'.sn 7).length (sc' 7),.slice (sa' 8) (s'.sn 8).length (sc' 8),.slice (sa' 9) (s'.sn 9).length (sc' 9),.slice (sa' 10) (s'.sn 10).length (sc' 10),.slice (sa' 11) (s'.sn 11).length (sc' 11),.slice (sa' 12) (s'.sn 12).length (sc' 12),.slice (sa' 13) (s'.sn 13).length (sc' 13),.slice (sa' 14) (s'.sn 14).length (sc' 14),.slice (sa' 15) (s'.sn 15).length (sc' 15),.slice (sa' 16) (s'.sn 16).length (sc' 16),.slice (sa' 17) (s'.sn 17).length (sc' 17),.slice (sa' 18) (s'.sn 18).length (sc' 18),.slice (sa' 19) (s'.sn 19).length (sc' 19),.slice (sa' 20) (s'.sn 20).length (sc' 20),.slice (sa' 21) (s'.sn 21).length (sc' 21),.slice (sa' 22) (s'.sn 22).length (sc' 22),.slice (sa' 23) (s'.sn 23).length (sc' 23),.slice (sa' 24) (s'.sn 24).length (sc' 24),.slice (sa' 25) (s'.sn 25).length (sc' 25),.slice (sa' 26) (s'.sn 26).length (sc' 26),.slice (sa' 27) (s'.sn 27).length (sc' 27),.slice (sa' 28) (s'.sn 28).length (sc' 28),.slice (sa' 29) (s'.sn 29).length (sc' 29),.slice (sa' 30) (s'.sn 30).length (sc' 30),.slice (sa' 31) (s'.sn 31).length (sc' 31),.slice (sa' 32) (s'.sn 32).length (sc' 32),.slice (sa' 33) (s'.sn 33).length (sc' 33),.slice (sa' 34) (s'.sn 34).length (sc' 34),.slice (sa' 35) (s'.sn 35).length (sc' 35),.slice (sa' 36) (s'.sn 36).length (sc' 36),.slice (sa' 37) (s'.sn 37).length (sc' 37),.slice (sa' 38) (s'.sn 38).length (sc' 38),.slice (sa' 39) (s'.sn 39).length (sc' 39),.int .i64 (s'.nw:Nat),.slice (ca' 0) (s'.cl 0).length (cc' 0),.slice (ca' 1) (s'.cl 1).length (cc' 1),.slice (ca' 2) (s'.cl 2).length (cc' 2),.slice (ca' 3) (s'.cl 3).length (cc' 3),.bool (s'.th 0),.bool (s'.th 1),.bool (s'.th 2),.bool (s'.th 3),.bool true]∧StM s' A' c' D' d' G' g' B' bc' sa' sc' ca' cc' (Bl w'.heap.size) w'∧Below w.heap.size w w'
def RunSt (s':CSt) (sb rb:Nat) (W:World):Prop :=
  ∃ row A' c' D' d' G' g' B' bc' sa' sc' ca' cc',row = #[.slice A' s'.c.1.1.length c',.slice D' s'.c.1.2.length d',.slice G' s'.c.2.length g',.slice B' s'.cur.length bc',.slice (sa' 0) (s'.sn 0).length (sc' 0),.slice (sa' 1) (s'.sn 1).length (sc' 1),.slice (sa' 2) (s'.sn 2).length (sc' 2),.slice (sa' 3) (s'.sn 3).length (sc' 3),.slice (sa' 4) (s'.sn 4).length (sc' 4),.slice (sa' 5) (s'.sn 5).length (sc' 5),.slice (sa' 6) (s'.sn 6).length (sc' 6),.slice (sa' 7) (s'.sn 7).length (sc' 7),.slice (sa' 8) (s'.sn 8).length (sc' 8),.slice (sa' 9) (s'.sn 9).length (sc' 9),.slice (sa' 10) (s'.sn 10).length (sc' 10),.slice (sa' 11) (s'.sn 11).length (sc' 11),.slice (sa' 12) (s'.sn 12).length (sc' 12),.slice (sa' 13) (s'.sn 13).length (sc' 13),.slice (sa' 14) (s'.sn 14).length (sc' 14),.slice (sa' 15) (s'.sn 15).length (sc' 15),.slice (sa' 16) (s'.sn 16).length (sc' 16),.slice (sa' 17) (s'.sn 17).length (sc' 17),.slice (sa' 18) (s'.sn 18).length (sc' 18),.slice (sa' 19) (s'.sn 19).length (sc' 19),.slice (sa' 20) (s'.sn 20).length (sc' 20),.slice (sa' 21) (s'.sn 21).length (sc' 21),.slice (sa' 22) (s'.sn 22).length (sc' 22),.slice (sa' 23) (s'.sn 23).length (sc' 23),.slice (sa' 24) (s'.sn 24).length (sc' 24),.slice (sa' 25) (s'.sn 25).length (sc' 25),.slice (sa' 26) (s'.sn 26).length (sc' 26),.slice (sa' 27) (s'.sn 27).length (sc' 27),.slice (sa' 28) (s'.sn 28).length (sc' 28),.slice (sa' 29) (s'.sn 29).length (sc' 29),.slice (sa' 30) (s'.sn 30).length (sc' 30),.slice (sa' 31) (s'.sn 31).length (sc' 31),.slice (sa' 32) (s'.sn 32).length (sc' 32),.slice (sa' 33) (s'.sn 33).length (sc' 33),.slice (sa' 34) (s'.sn 34).length (sc' 34),.slice (sa' 35) (s'.sn 35).length (sc' 35),.slice (sa' 36) (s'.sn 36).length (sc' 36),.slice (sa' 37) (s'.sn 37).length (sc' 37),.slice (sa' 38) (s'.sn 38).length (sc' 38),.slice (sa' 39) (s'.sn 39).length (sc' 39),.int .i64 (s'.nw:Nat),.slice (ca' 0) (s'.cl 0).length (cc' 0),.slice (ca' 1) (s'.cl 1).length (cc' 1),.slice (ca' 2) (s'.cl 2).length (cc' 2),.slice (ca' 3) (s'.cl 3).length (cc' 3),.bool (s'.th 0),.bool (s'.th 1),.bool (s'.th 2),.bool (s'.th 3),.bool true]∧W.heap[sb]? = some (.cells row 79 (0,0))∧StM s' A' c' D' d' G' g' B' bc' sa' sc' ca' cc' (fun q=>(q≠sb∧q≠rb)∧q < W.heap.size) W
theorem results_cell_row2 {P:Program} {fn:Func} {p q:Tmp} {ty:TypeId} (h:fn.results = #[.cell p ty,.tmp q]) (tmps:Array Value) (w:World) (g:Nat) (t:TypeId) (cs:Array Value) (fr:Nat × Nat) (d:TypeDesc) (v:Value)
    (hp:tmps.getD p undef = .pointer (some ⟨g,0,none⟩)) (hq:tmps.getD q undef=v) (hg:w.heap[g]? = some (.cells cs t fr))
    (hu:P.underlying ty=some d) (hd:(match d with | .struct _ | .array _ _=>true | _=>false)=true) (hi:(P.info? ty).map (·.size)=some cs.size) :
    (results fn tmps).run P w = .ok (.tuple #[.agg cs,v]) w:=by
  have hp':tmps[p]?.getD undef = .pointer (some ⟨g,0,none⟩):=by simpa using hp
  have hq':tmps[q]?.getD undef=v:=by simpa using hq
  simp [results,h,hp',hq',asAddr,run_loadVar_row w g t ty cs fr d hg hu hd hi]
set_option maxHeartbeats 8000000 in
set_option maxRecDepth 100000 in
theorem run37_any (A0:Option Addr) (c0 n:Nat) (sz a:Int) (es:List CEv) (im:Img) (w:World) (hn:es.length=n) (h0:SlAt encEv w (Bl w.heap.size) A0 es) (hl:n≤30) (hsm:∀ e∈es,e.2.2.2.2.length≤20) (hsz:0≤sz∧sz < 256) (ha:1+sz % 12=a) (him:[a,4].map zimg=im) :
    Calls Tryz.prog 37 #[.int .u8 sz,.slice A0 n c0] w (RunRet (cRun im es n) w):=by
  have ha12:1≤a∧a≤12:=by omega
  obtain ⟨m,hm⟩:∃ m,sz % 12=m:=⟨_,rfl⟩
  have hmt:sz.tmod 12=m:=by rw [Int.tmod_eq_emod_of_nonneg hsz.1]; exact hm
  have hm12:0≤m∧m < 12:=by omega
  obtain rfl:a=1+m:=by omega
  have hz0:sizesN [1+m,4]=0:=by
    unfold sizesN
    rw [if_neg (by simp),if_neg]
    simp [badSz]
    omega
  have hlen:lens im=[1+m,4]:=by
    rw [← him]
    simp [lens,lenI,zimg]
    omega
  have HINV:=Lib.hid (fun k (h1:k≤es.length)=>cRun_inv (es:=es) hlen hz0 k h1 (by omega))
  have HIM:=Lib.hid him
  have HLEN:=Lib.hid hlen
  have hil:im.length≤2:=by rw [← him]; simp
  obtain ⟨rb,hrb⟩:∃ rb,w.heap.size=rb:=⟨_,rfl⟩
  obtain ⟨W0,hW0⟩:∃ W0,w.alloc (.cells #[.slice none 0 0,.slice none 0 0,.slice none 0 0,.slice none 0 0,.slice none 0 0,.slice none 0 0,.slice none 0 0,.slice none 0 0,.slice none 0 0,.slice none 0 0,.slice none 0 0,.slice none 0 0,.slice none 0 0,.slice none 0 0,.slice none 0 0,.slice none 0 0,.slice none 0 0,.slice none 0 0,.slice none 0 0,.slice none 0 0,.slice none 0 0,.slice none 0 0,.slice none 0 0,.slice none 0 0,.slice none 0 0,.slice none 0 0,.slice none 0 0,.slice none 0 0,.slice none 0 0,.slice none 0 0,.slice none 0 0,.slice none 0 0,.slice none 0 0,.slice none 0 0,.slice none 0 0,.slice none 0 0,.slice none 0 0,.slice none 0 0,.slice none 0 0,.slice none 0 0,.slice none 0 0,.slice none 0 0,.slice none 0 0,.slice none 0 0,.int .i64 0,.slice none 0 0,.slice none 0 0,.slice none 0 0,.slice none 0 0,.bool false,.bool false,.bool false,.bool false,.bool false] 79)=W0:=⟨_,rfl⟩
  have hb0:Below w.heap.size w W0:=by rw [← hW0]; exact ext_alloc (Below.refl _ _)
  have hr0:W0.heap[rb]? = some (.cells #[.slice none 0 0,.slice none 0 0,.slice none 0 0,.slice none 0 0,.slice none 0 0,.slice none 0 0,.slice none 0 0,.slice none 0 0,.slice none 0 0,.slice none 0 0,.slice none 0 0,.slice none 0 0,.slice none 0 0,.slice none 0 0,.slice none 0 0,.slice none 0 0,.slice none 0 0,.slice none 0 0,.slice none 0 0,.slice none 0 0,.slice none 0 0,.slice none 0 0,.slice none 0 0,.slice none 0 0,.slice none 0 0,.slice none 0 0,.slice none 0 0,.slice none 0 0,.slice none 0 0,.slice none 0 0,.slice none 0 0,.slice none 0 0,.slice none 0 0,.slice none 0 0,.slice none 0 0,.slice none 0 0,.slice none 0 0,.slice none 0 0,.slice none 0 0,.slice none 0 0,.slice none 0 0,.slice none 0 0,.slice none 0 0,.slice none 0 0,.int .i64 0,.slice none 0 0,.slice none 0 0,.slice none 0 0,.slice none 0 0,.bool false,.bool false,.bool false,.bool false,.bool false] 79 (0,0)):=by rw [← hW0, ← hrb]; exact heap_alloc_new _ _
  have hrl:rb < W0.heap.size:=(Array.getElem?_eq_some_iff.1 hr0).1
  have HR0:=Lib.hid hr0
  have H0:Hid (∀ W,Below w.heap.size w W→SlAt encEv W (Bl w.heap.size) A0 es):=fun W hb=>h0.below hb
  -- the literal of the two sizes
  obtain ⟨W1,hW1⟩:∃ W1,W0.alloc (.cells #[.int .i64 (1+m),.int .i64 4] 3)=W1:=⟨_,rfl⟩
  have hb1:Below W0.heap.size W0 W1:=by rw [← hW1]; exact ext_alloc (Below.refl _ _)
  obtain ⟨lb,hlb⟩:∃ lb,W0.heap.size=lb:=⟨_,rfl⟩
  have hlr:W1.heap[lb]? = some (.cells #[.int .i64 (1+m),.int .i64 4] 3 (0,0)):=by rw [← hW1, ← hlb]; exact heap_alloc_new _ _
  have hll:=(Array.getElem?_eq_some_iff.1 hlr).1
  have hsl:SlAt encInt W1 (Bl W1.heap.size) (some ⟨lb,0,none⟩) [1+m,4]:=litS (E:=encInt) (S0:=fun _=>False) (css:=[[.int .i64 (1+m)],[.int .i64 4]]) hlr rfl ⟨⟨rfl,by unfold I64; omega⟩,⟨rfl,by unfold I64; omega⟩,trivial⟩ (fun _ hh=>hh.elim) hll (fun hh=>hh)
  have HNW:=Lib.hid (refNew07_any (some ⟨lb,0,none⟩) 2 2 [1+m,4] W1 rfl hsl hz0)
  rw [him] at HNW
  have HW0:=Lib.hid hW0
  have HW1:=Lib.hid hW1
  have HLB:=Lib.hid hlb
  clear h0 hr0 hm hsl hlr him hlen
  go_enter Tryz.func37,Tryz.ntmps37
  go_upto_region 1 with (fail)
  try rw [HW0.out]
  clear hW0
  go_wp2_with fail
  try rw [HW1.out]
  refine HNW.out.mono ?_
  rintro e w2 ⟨Bi,bi,rfl,i1,i2,i3,hb2⟩
  have HI3:=Lib.hid i3
  have hB2:Below W0.heap.size W0 w2:=ext_trans hb1 hb2
  have HBG:=Lib.hid (begin_any Bi bi im.length im w2 rfl (i3.more (fun q hq=>hq.2)) ⟨by omega,fun r hr=>by
    have h1:lenI r∈Proofs.YtgndgkjefgjamaaGreat.lens im:=List.mem_map.2 ⟨r,hr,rfl⟩
    rw [HLEN.out] at h1
    unfold lenI at h1
    simp at h1
    omega,by simp,fun x hx=>by cases hx⟩ (by rw [HLEN.out]; exact hz0))
  clear HNW i3 hW1 hlb
  go_wp2_with fail
  refine HBG.out.mono ?_
  rintro e w3 ⟨A5,c5,D5,d5,G5,g5,rfl,hat,hb3⟩
  have HAT:=Lib.hid hat
  clear HBG hat
  go_upto_region 3 with (fail)
  obtain ⟨cb,hcb⟩:∃ cb,w3.heap.size=cb:=⟨_,rfl⟩
  obtain ⟨w4,hw4⟩:∃ W,w3.alloc (.cells #[.slice A5 im.length c5,.slice D5 1 d5,.slice G5 0 g5] 29)=W:=⟨_,rfl⟩
  have hr4:w4.heap[cb]? = some (.cells #[.slice A5 im.length c5,.slice D5 1 d5,.slice G5 0 g5] 29 (0,0)):=by rw [← hw4, ← hcb]; exact heap_alloc_new _ _
  obtain ⟨v0,v1,v2,vf⟩:=blk3 hr4
  rw [hw4]
  have HB4:Hid (Below W0.heap.size W0 w4):=by rw [← hw4]; exact (ext_trans hB2 hb3).alloc (ext_trans hB2 hb3).size _
  have HAT4:Hid (ClAt ((im,[(1,0,[])]),[]) A5 c5 D5 d5 G5 g5 (fun q=>W0.heap.size≤q∧q < w4.heap.size) w4):=by
    rw [← hw4]
    exact HAT.out.keep (fun q hq=>Below.heap_alloc _ _ _ hq.2) (fun q hq=>⟨by have:=hq.1; have:=hB2.size; omega,by have:=hq.2; simp; omega⟩)
  have HI4:Hid (SlAt (encSl encSec) w4 (fun q=>W0.heap.size≤q∧q < w4.heap.size) Bi im):=by
    have h34:Below w2.heap.size w2 w4:=by rw [← hw4]; exact hb3.alloc hb3.size _
    exact (HI3.out.blk (fun q hq=>h34.block q hq.2)).more (fun q hq=>⟨by have:=hq.1; have:=hb1.size; omega,by have:=hq.2; have:=h34.size; omega⟩)
  clear hw4
  obtain ⟨sb,hsb⟩:∃ sb,w4.heap.size=sb:=⟨_,rfl⟩
  obtain ⟨wz,hwz⟩:∃ W,w4.alloc (.cells #[.slice none 0 0,.slice none 0 0,.slice none 0 0,.slice none 0 0,.slice none 0 0,.slice none 0 0,.slice none 0 0,.slice none 0 0,.slice none 0 0,.slice none 0 0,.slice none 0 0,.slice none 0 0,.slice none 0 0,.slice none 0 0,.slice none 0 0,.slice none 0 0,.slice none 0 0,.slice none 0 0,.slice none 0 0,.slice none 0 0,.slice none 0 0,.slice none 0 0,.slice none 0 0,.slice none 0 0,.slice none 0 0,.slice none 0 0,.slice none 0 0,.slice none 0 0,.slice none 0 0,.slice none 0 0,.slice none 0 0,.slice none 0 0,.slice none 0 0,.slice none 0 0,.slice none 0 0,.slice none 0 0,.slice none 0 0,.slice none 0 0,.slice none 0 0,.slice none 0 0,.slice none 0 0,.slice none 0 0,.slice none 0 0,.slice none 0 0,.int .i64 0,.slice none 0 0,.slice none 0 0,.slice none 0 0,.slice none 0 0,.bool false,.bool false,.bool false,.bool false,.bool false] 79)=W:=⟨_,rfl⟩
  have HRZ:Hid (wz.heap[sb]? = some (.cells #[.slice none 0 0,.slice none 0 0,.slice none 0 0,.slice none 0 0,.slice none 0 0,.slice none 0 0,.slice none 0 0,.slice none 0 0,.slice none 0 0,.slice none 0 0,.slice none 0 0,.slice none 0 0,.slice none 0 0,.slice none 0 0,.slice none 0 0,.slice none 0 0,.slice none 0 0,.slice none 0 0,.slice none 0 0,.slice none 0 0,.slice none 0 0,.slice none 0 0,.slice none 0 0,.slice none 0 0,.slice none 0 0,.slice none 0 0,.slice none 0 0,.slice none 0 0,.slice none 0 0,.slice none 0 0,.slice none 0 0,.slice none 0 0,.slice none 0 0,.slice none 0 0,.slice none 0 0,.slice none 0 0,.slice none 0 0,.slice none 0 0,.slice none 0 0,.slice none 0 0,.slice none 0 0,.slice none 0 0,.slice none 0 0,.slice none 0 0,.int .i64 0,.slice none 0 0,.slice none 0 0,.slice none 0 0,.slice none 0 0,.bool false,.bool false,.bool false,.bool false,.bool false] 79 (0,0))):=by rw [← hwz, ← hsb]; exact heap_alloc_new _ _
  have HBZ:Hid (Below W0.heap.size W0 wz):=by rw [← hwz]; exact HB4.out.alloc HB4.out.size _
  have HBZ4:Hid (∀ q,q < w4.heap.size→wz.heap[q]? = w4.heap[q]?):=by rw [← hwz]; exact fun q hq=>Below.heap_alloc _ _ _ hq
  have HSZ:Hid (wz.heap.size=sb+1):=by rw [← hwz, ← hsb]; simp [Hid]
  obtain ⟨row0,hrow0⟩:∃ r:Array Value,#[.slice A5 im.length c5,.slice D5 1 d5,.slice G5 0 g5,.slice Bi im.length bi,.slice none 0 0,.slice none 0 0,.slice none 0 0,.slice none 0 0,.slice none 0 0,.slice none 0 0,.slice none 0 0,.slice none 0 0,.slice none 0 0,.slice none 0 0,.slice none 0 0,.slice none 0 0,.slice none 0 0,.slice none 0 0,.slice none 0 0,.slice none 0 0,.slice none 0 0,.slice none 0 0,.slice none 0 0,.slice none 0 0,.slice none 0 0,.slice none 0 0,.slice none 0 0,.slice none 0 0,.slice none 0 0,.slice none 0 0,.slice none 0 0,.slice none 0 0,.slice none 0 0,.slice none 0 0,.slice none 0 0,.slice none 0 0,.slice none 0 0,.slice none 0 0,.slice none 0 0,.slice none 0 0,.slice none 0 0,.slice none 0 0,.slice none 0 0,.slice none 0 0,.int .i64 1,.slice none 0 0,.slice none 0 0,.slice none 0 0,.slice none 0 0,.bool false,.bool false,.bool false,.bool false,.bool true]=r:=⟨_,rfl⟩
  have HRW0:=Lib.hid hrow0
  have HALL:Hid (row0.all (·.oneCell')=true∧(Tryz.prog.info? 79).map (·.size)=some row0.size∧row0.size=54):=by
    rw [← hrow0]; exact ⟨by simp [Value.oneCell'],by kernel_rfl,by simp⟩
  clear hrow0
  go_upto_region 4 with (first | (refine wpList_store_row rfl 79 _ _ rfl sb row0 rfl (congrArg Value.agg HRW0.out) 79 _ HRZ.out HALL.out.2.1 (st_size HALL.out.2.1 (by kernel_rfl) (by kernel_rfl)) HALL.out.1 ?_) | fail)
  obtain ⟨w5,hw5⟩:∃ W,wz.setRow sb row0=W:=⟨_,rfl⟩
  have hr5:w5.heap[sb]? = some (.cells row0 79 (0,0)):=by rw [← hw5]; exact setRow_heap wz sb _ row0 _ _ HRZ.out
  have hcs:w5.cell? ⟨sb,5,none⟩=some (.slice none 0 0):=by rw [cell_of_row w5 sb 5 _ _ _ hr5, ← HRW0.out]; rfl
  have hfz:w5.frozen? ⟨sb,5,none⟩=false:=by simp [World.frozen?,hr5]
  rw [hw5]
  obtain ⟨w6,hw6⟩:∃ W,w5.setCell ⟨sb,5,none⟩ (.slice Bi im.length bi)=W:=⟨_,rfl⟩
  go_upto_region 5 with (fail)
  have hr6:w6.heap[sb]? = some (.cells (row0.setIfInBounds 5 (.slice Bi im.length bi)) 79 (0,0)):=by rw [← hw6]; exact row_set hr5 5 _
  have h6:∀ q,q < w4.heap.size→w6.heap[q]? = w4.heap[q]? := fun q hq=>by
    rw [← hw6, ← hw5]
    exact (heap_setCell_other _ _ _ _ (by show q≠sb; omega)).trans ((setRow_other wz sb q row0 (by omega)).trans (HBZ4.out q hq))
  have hz6:w6.heap.size=sb+1:=by rw [← hw6, ← hw5]; simp only [World.setCell,Array.size_modify,setRow_size]; exact HSZ.out
  have hB6:Below w.heap.size w w6:=by
    rw [← hw6, ← hw5]
    exact (below_setRow (ext_trans hb0 HBZ.out) (by have:=hb0.size; have:=HB4.out.size; omega) row0).setCell (p:=⟨sb,5,none⟩) (by show w.heap.size≤sb; have:=hb0.size; have:=HB4.out.size; omega) _
  have hst6:Hid (RunSt (cRun im es 0) sb rb w6):=by
    refine ⟨_,A5,c5,D5,d5,G5,g5,Bi,bi,fun j=>if j=1 then Bi else none,fun j=>if j=1 then bi else 0,fun _=>none,fun _=>0, ?_,hr6, ?_, ?_, ?_, ?_⟩
    · rw [← HRW0.out]; rfl
    · exact HAT4.out.keep (fun q hq=>h6 q hq.2) (fun q hq=>⟨⟨by have:=hq.2; omega,by have:=hq.1; omega⟩,by have:=hq.2; omega⟩)
    · exact ⟨i1,i2,(HI4.out.blk (fun q hq=>h6 q hq.2)).more (fun q hq=>⟨⟨by have:=hq.2; omega,by have:=hq.1; omega⟩,by have:=hq.2; omega⟩)⟩
    · intro j hj
      by_cases h1:j=1
      · subst h1
        exact ⟨i1,i2,(HI4.out.blk (fun q hq=>h6 q hq.2)).more (fun q hq=>⟨⟨by have:=hq.2; omega,by have:=hq.1; omega⟩,by have:=hq.2; omega⟩)⟩
      · show ImA (if j=1 then Bi else none) (if j=1 then bi else 0) (if j=1 then im else []) _ _
        rw [if_neg h1,if_neg h1,if_neg h1]
        exact ⟨by simp,by simp,SlAt.nil_⟩
    · intro j hj
      exact ⟨by simp [cRun,cSt0],by simp,SlAt.nil_⟩
  have hrb6:Hid (∃ z:Array Value,w6.heap[rb]? = some (.cells z 79 (0,0))∧z.size=54):=⟨_,(h6 rb (by have:=HB4.out.size; omega)).trans ((HB4.out.block rb hrl).trans HR0.out),by simp⟩
  have hsb6:rb < sb∧sb < w6.heap.size:=⟨by have:=HB4.out.size; omega,by omega⟩
  clear hr4 hr5 hr6 hw5 hcs hfz hwz HR0 HRW0 HALL HRZ HBZ HBZ4 HSZ HB4 HAT4 HI4 HAT HI3 v0 v1 v2 vf hb0 hb1 hb2 hb3 h6 hz6 hsb hcb
  clear hw6
  generalize hbig:(Value.agg #[.slice A5 im.length c5,.slice D5 1 d5,.slice G5 0 g5,.slice Bi im.length bi,.slice none 0 0,.slice none 0 0,.slice none 0 0,.slice none 0 0,.slice none 0 0,.slice none 0 0,.slice none 0 0,.slice none 0 0,.slice none 0 0,.slice none 0 0,.slice none 0 0,.slice none 0 0,.slice none 0 0,.slice none 0 0,.slice none 0 0,.slice none 0 0,.slice none 0 0,.slice none 0 0,.slice none 0 0,.slice none 0 0,.slice none 0 0,.slice none 0 0,.slice none 0 0,.slice none 0 0,.slice none 0 0,.slice none 0 0,.slice none 0 0,.slice none 0 0,.slice none 0 0,.slice none 0 0,.slice none 0 0,.slice none 0 0,.slice none 0 0,.slice none 0 0,.slice none 0 0,.slice none 0 0,.slice none 0 0,.slice none 0 0,.slice none 0 0,.slice none 0 0,.int .i64 1,.slice none 0 0,.slice none 0 0,.slice none 0 0,.slice none 0 0,.bool false,.bool false,.bool false,.bool false,.bool true])=big
  clear hbig
  have HS1:Hid (∀ wr,Below w.heap.size w wr→SlAt encEv wr (Bl w.heap.size) A0 es):=H0.out
  subst hn
  clear H0 HLB HW0 HW1
  go_upto_region 6 with (fail)
  go_loopw [11] (fun i wr=>∃ k:Nat,k≤es.length∧i = .int .i64 k∧Below w.heap.size w wr∧Hid (RunSt (cRun im es k) sb rb wr)∧Hid (∃ z:Array Value,wr.heap[rb]? = some (.cells z 79 (0,0))∧z.size=54)∧(rb < sb∧sb < wr.heap.size)) (fun i _=>es.length - (intOf i).toNat)
  case atStart=>exact ⟨0,by omega,rfl,hB6,hst6,hrb6,hsb6⟩
  case round =>
    clear hst6 hrb6 hB6 hsb6
    obtain ⟨wo,rfl⟩:∃ wo:World,wo=wr:=⟨_,rfl⟩
    obtain ⟨k,hk,rfl,hB,hst,hrbx,hsb1,hsb2⟩:=hrel
    obtain ⟨row,A,c,D,d,G,g,B,bc,sa,sc,ca,cc,hR,hrow,hM⟩:=hst.out
    have HRW:=Lib.hid hrow
    have HRR:=Lib.hid hR
    have HMM:=Lib.hid hM
    have HAL:=Lib.hid (st_all hR)
    have h53:∀ W,Below wo.heap.size wo W→W.cell? ⟨sb,53,none⟩=some (.bool true):=fun W hb=>by
      rw [cell_of_row W sb 53 _ _ _ ((hb.block sb hsb2).trans HRW.out),HRR.out]; rfl
    have H53:=Lib.hid h53
    have c53:=h53 wo (Below.refl _ _)
    have hkz:(0:Int)≤k:=by omega
    have hk30:(k:Int)≤30:=by omega
    clear hst hrow hR hM h53
    by_cases hlt:k < es.length
    · obtain ⟨b,off,Dw,dw,rfl,hb,e0,e1,e2,e3,e4,hk1,hk2,hv1,hv2,hc1,hc2,hsd⟩:=(HS1.out wo hB).ev hlt
      have hki:(k:Int) < es.length:=by omega
      have hk29:(k:Int) < 30:=by omega
      have hsmk:=hsm _ (List.getElem_mem hlt)
      have hcs:=cRun_succ im hlt
      obtain ⟨⟨kd,wh,v,st,data⟩,he⟩:∃ x,es[k]=x:=⟨_,rfl⟩
      rw [he] at e0 e1 e2 e3 e4 hk1 hk2 hv1 hv2 hc1 hsd hsmk hcs
      simp only at e0 e1 e2 e3 e4 hk1 hk2 hv1 hv2 hc1 hsd hsmk
      have hbl:b < wo.heap.size:=by have h1:b < w.heap.size:=hb; have:=hB.size; omega
      have HEV:Hid (∀ W,Below wo.heap.size wo W→W.cell? ⟨b,off+k * 5,none⟩=some (.int .u8 kd)∧W.cell? ⟨b,off+k * 5+1,none⟩=some (.int .u8 wh)∧W.cell? ⟨b,off+k * 5+2,none⟩=some (.int .i64 v)∧W.cell? ⟨b,off+k * 5+3,none⟩=some (.int .i64 st)∧W.cell? ⟨b,off+k * 5+4,none⟩=some (.slice Dw data.length dw)):=fun W hbw=>⟨(hbw.cell (p:=⟨b,off+k * 5,none⟩) hbl).trans e0,(hbw.cell (p:=⟨b,off+k * 5+1,none⟩) hbl).trans e1,(hbw.cell (p:=⟨b,off+k * 5+2,none⟩) hbl).trans e2,(hbw.cell (p:=⟨b,off+k * 5+3,none⟩) hbl).trans e3,(hbw.cell (p:=⟨b,off+k * 5+4,none⟩) hbl).trans e4⟩
      have hinv:=HINV.out k hk
      have hinv2:=HINV.out (k+1) hlt
      obtain ⟨s,hs⟩:∃ s,cRun im es k=s:=⟨_,rfl⟩
      rw [hs] at hinv hcs HRR HMM
      have HST:=Lib.hid (fun W (hbw:Below wo.heap.size wo W)=>sstep_any (1+m) k (wh % 4).toNat s A D G B Dw c d g bc dw data.length sa sc ca cc (fun q=>q≠sb∧q≠rb) row HRR.out kd wh v st data W ha12 (by omega) hinv (HMM.out.keep (fun q hq=>hbw.block q hq.2) (fun q hq=>⟨hq.1,by have:=hq.2; have:=hbw.size; omega⟩)) hk1 hk2 (by omega) rfl ((hsd.more (Bl.mono hB.size)).fwd hbw) ⟨hv1,hv2⟩ (by omega) ⟨hc1,hc2⟩)
      rw [← hcs] at HST
      obtain ⟨s',hs'⟩:∃ s',cRun im es (k+1)=s':=⟨_,rfl⟩
      rw [hs'] at HST hinv2
      have HS':=Lib.hid hs'
      have HINV2:=Lib.hid hinv2
      have hSw:Below wo.heap.size wo wo.drew:=(Below.refl _ _).drew
      clear e0 e1 e2 e3 e4 hv1 hv2 hc1 hc2 hsd hsmk hcs hinv hinv2 hs hs' he hk1 hk2 HS1
      go_upto_region 8 with (fail)
      refine wp_region_U (fun W'=>Below wo.heap.size wo W') 6 (by kernel_rfl) ?_
      refine wpAnyU_takeD (i:=0) (v := .agg row) rfl rfl (by kernel_rfl) (by kernel_rfl) (by kernel_rfl) (by kernel_rfl) (fun _ _ _ h=>h) (by rfl) ?_ hSw ?_
      · intro W9 hW9
        exact exec_load_row 79 _ rfl sb rfl 79 row (0,0) _ ((hW9.block sb hsb2).trans HRW.out) Tryz.underlying79 rfl HAL.out.2
      try simp only [List.setIfInBounds_toArray,List.set_cons_zero,List.set_cons_succ]
      refine wpAnyU_takeD (i:=1) (v := ?_) rfl rfl (by kernel_rfl) (by kernel_rfl) (by kernel_rfl) (by kernel_rfl) (fun _ _ _ h=>h) (by rfl) ?_ hSw ?_
      rotate_left 1
      · intro W9 hW9
        try dsimp only at hW9
        obtain _:=trivial
        go_simp
        try with_reducible rfl
      try simp only [List.setIfInBounds_toArray,List.set_cons_zero,List.set_cons_succ]
      refine wpAnyU_takeD (i:=2) (v := ?_) rfl rfl (by kernel_rfl) (by kernel_rfl) (by kernel_rfl) (by kernel_rfl) (fun _ _ _ h=>h) (by rfl) ?_ hSw ?_
      rotate_left 1
      · intro W9 hW9
        try dsimp only at hW9
        obtain _:=trivial
        go_simp
        try with_reducible rfl
      try simp only [List.setIfInBounds_toArray,List.set_cons_zero,List.set_cons_succ]
      refine wpAnyU_takeD (i:=3) (v := ?_) rfl rfl (by kernel_rfl) (by kernel_rfl) (by kernel_rfl) (by kernel_rfl) (fun _ _ _ h=>h) (by rfl) ?_ hSw ?_
      rotate_left 1
      · intro W9 hW9
        try dsimp only at hW9
        obtain _:=trivial
        go_simp
        try with_reducible rfl
      try simp only [List.setIfInBounds_toArray,List.set_cons_zero,List.set_cons_succ]
      refine wpAnyU_takeD (i:=4) (v := ?_) rfl rfl (by kernel_rfl) (by kernel_rfl) (by kernel_rfl) (by kernel_rfl) (fun _ _ _ h=>h) (by rfl) ?_ hSw ?_
      rotate_left 1
      · intro W9 hW9
        try dsimp only at hW9
        obtain ⟨q0,q1,q2,q3,q4⟩:=HEV.out W9 hW9
        go_simp
        try with_reducible rfl
      try simp only [List.setIfInBounds_toArray,List.set_cons_zero,List.set_cons_succ]
      refine wpAnyU_op (i:=5) (by kernel_rfl) rfl rfl (fun K hK => ?_)
      go_wp2_with fail
      refine (HST.out wo.drew hSw).mono ?_
      rintro e w7 ⟨row',A',c',D',d',G',g',B',bc',sa',sc',ca',cc',rfl,hR',hM',hb7⟩
      have hS7:Below wo.heap.size wo w7:=ext_trans hSw hb7
      have HR2:=Lib.hid hR'
      have HM2:=Lib.hid hM'
      have HAL2:=Lib.hid (st_all hR')
      have hrow7:=(hS7.block sb hsb2).trans HRW.out
      clear hR' hM' HST
      refine hK.out _ _ (fun _=>hS7) ?_
      clear hK K
      try simp only [Act.put,List.setIfInBounds_toArray,List.set_cons_zero,List.set_cons_succ]
      refine wpAnyU_op (i:=6) (by kernel_rfl) rfl rfl (fun K hK => ?_)
      refine wp_store_row 79 _ _ rfl sb row' rfl rfl 79 _ hrow7 HAL2.out.2 (by rw [show row.size=54 from by rw [HRR.out]; rfl]; rw [show row'.size=54 from by rw [HR2.out]; rfl]) HAL2.out.1 ?_
      refine hK.out _ _ (fun h=>absurd rfl h) ?_
      clear hK K
      refine wpAnyU_done (by kernel_rfl) ?_ _
      obtain ⟨w8,hw8⟩:∃ W,w7.setRow sb row'=W:=⟨_,rfl⟩
      have hrow8:w8.heap[sb]? = some (.cells row' 79 (0,0)):=by rw [← hw8]; exact setRow_heap w7 sb _ row' _ _ hrow7
      have hk8:∀ q,q≠sb→w8.heap[q]? = w7.heap[q]? := fun q hq=>by rw [← hw8]; exact setRow_other w7 sb q row' hq
      have hz8:w8.heap.size=w7.heap.size:=by rw [← hw8]; exact setRow_size _ _ _
      have hkp:∀ q,((q≠sb∧q≠rb)∨wo.drew.heap.size≤q)∧q < w7.heap.size→w8.heap[q]? = w7.heap[q]? := fun q hq=>hk8 q (by
        rcases hq.1 with h1 | h1
        · exact h1.1
        · have h2:wo.heap.size≤q:=h1
          omega)
      have HRT:=Lib.hid (right_any (1+m) (k+1) s' A' D' G' B' c' d' g' bc' sa' sc' ca' cc' w8 ha12 (by omega) HINV2.out (HM2.out.keep hkp (fun q hq=>by rw [hz8]; exact hq.2)))
      rw [← HR2.out] at HRT
      have HST8:Hid (RunSt s' sb rb w8):=⟨row',A',c',D',d',G',g',B',bc',sa',sc',ca',cc',HR2.out,hrow8,HM2.out.keep hkp (fun q hq=>⟨by
        rcases hq.1 with h1 | h1
        · exact h1
        · have h2:wo.heap.size≤q:=h1
          omega,by rw [hz8]; exact hq.2⟩)⟩
      have hrb8:Hid (∃ z:Array Value,w8.heap[rb]? = some (.cells z 79 (0,0))∧z.size=54):=by
        obtain ⟨z,hz,hz2⟩:=hrbx.out
        exact ⟨z,(hk8 rb (by omega)).trans ((hS7.block rb (by omega)).trans hz),hz2⟩
      have hB8:Below w.heap.size w w8:=by rw [← hw8]; exact below_setRow (ext_trans hB hS7) (by omega) row'
      have hsz8:rb < sb∧sb < w8.heap.size:=⟨by omega,by rw [hz8]; have:=hS7.size; omega⟩
      have HROW8:=Lib.hid hrow8
      rw [hw8]
      clear hw8 hrow7 hrow8 hk8 hz8 hkp hS7 hb7 hSw HRW HAL HM2 HMM hrbx hB H53 c53 HEV
      go_wp2_with (first | (refine wpList_load_row rfl 79 _ rfl sb rfl 79 row' (0,0) _ HROW8.out Tryz.underlying79 rfl HAL2.out.2 ?_) | fail)
      refine HRT.out.mono ?_
      rintro e w9 ⟨rfl,hb9⟩
      have hst9:Hid (RunSt (cRun im es (k+1)) sb rb w9):=by
        rw [HS'.out]
        obtain ⟨row,A,c,D,d,G,g,B,bc,sa,sc,ca,cc,hR,hrow,hM⟩:=HST8.out
        exact ⟨row,A,c,D,d,G,g,B,bc,sa,sc,ca,cc,hR,(hb9.block sb hsz8.2).trans hrow,hM.keep (fun q hq=>hb9.block q hq.2) (fun q hq=>⟨hq.1,by have:=hq.2; have:=hb9.size; omega⟩)⟩
      have hrb9:Hid (∃ z:Array Value,w9.heap[rb]? = some (.cells z 79 (0,0))∧z.size=54):=by
        obtain ⟨z,hz,hz2⟩:=hrb8.out
        exact ⟨z,(hb9.block rb (by omega)).trans hz,hz2⟩
      have hB9:Below w.heap.size w w9:=ext_trans hB8 hb9
      have hsz9:rb < sb∧sb < w9.heap.size:=⟨hsz8.1,by have:=hb9.size; omega⟩
      clear HRT HST8 hrb8 hb9 hB8 HROW8 hsz8
      go_wp2_with fail
      go_roundw
      case rel=>exact ⟨k+1,hlt,by go_num,hB9,hst9,hrb9,hsz9⟩
      case measure=>simp [intOf]; omega
    · have hkk:k=es.length:=by omega
      subst hkk
      obtain ⟨z,hz,hz2⟩:=hrbx.out
      have HZ:=Lib.hid hz
      have HZ2:=Lib.hid hz2
      have hne:rb≠sb:=by omega
      have hSw:wo.drew.heap[sb]? = some (.cells row 79 (0,0)):=HRW.out
      clear hz hz2
      go_upto_region 11 with (fail)
      refine wp_region_U (fun W'=>W'.heap[sb]? = some (.cells row 79 (0,0))) 4 (by kernel_rfl) ?_
      refine wpAnyU_takeD (i:=0) (v := .agg row) rfl rfl (by kernel_rfl) (by kernel_rfl) (by kernel_rfl) (by kernel_rfl) (fun _ _ _ h=>h) (by rfl) ?_ hSw ?_
      · intro W9 hW9
        exact exec_load_row 79 _ rfl sb rfl 79 row (0,0) _ hW9 Tryz.underlying79 rfl HAL.out.2
      try simp only [List.setIfInBounds_toArray,List.set_cons_zero,List.set_cons_succ]
      refine wpAnyU_takeD (i:=1) (v := ?_) rfl rfl (by kernel_rfl) (by kernel_rfl) (by kernel_rfl) (by kernel_rfl) (fun _ _ _ h=>h) (by rfl) ?_ hSw ?_
      rotate_left 1
      · intro W9 hW9
        try dsimp only at hW9
        obtain _:=trivial
        go_simp
        try with_reducible rfl
      try simp only [List.setIfInBounds_toArray,List.set_cons_zero,List.set_cons_succ]
      refine wpAnyU_takeD (i:=2) (v := ?_) rfl rfl (by kernel_rfl) (by kernel_rfl) (by kernel_rfl) (by kernel_rfl) (fun _ _ _ h=>h) (by rfl) ?_ hSw ?_
      rotate_left 1
      · intro W9 hW9
        try dsimp only at hW9
        obtain q0:=(show W9.cell? ⟨sb,53,none⟩=some (.bool true) by rw [cell_of_row W9 sb 53 _ _ _ hW9,HRR.out]; rfl)
        go_simp
        try with_reducible rfl
      try simp only [List.setIfInBounds_toArray,List.set_cons_zero,List.set_cons_succ]
      refine wpAnyU_op (i:=3) (by kernel_rfl) rfl rfl (fun K hK => ?_)
      refine wp_store_row 79 _ _ rfl rb row rfl rfl 79 _ HZ.out HAL.out.2 (by rw [HZ2.out,show row.size=54 from by rw [HRR.out]; rfl]) HAL.out.1 ?_
      have hS3:(wo.drew.setRow rb row).heap[sb]? = some (.cells row 79 (0,0)):=(setRow_other wo.drew rb sb row (by omega)).trans HRW.out
      refine hK.out _ _ (fun _=>hS3) ?_
      clear hK K
      try simp only [Act.put,List.setIfInBounds_toArray,List.set_cons_zero,List.set_cons_succ]
      refine wpAnyU_op (i:=4) (by kernel_rfl) rfl rfl (fun K hK => ?_)
      go_simp
      refine hK.out _ _ (fun h=>absurd rfl h) ?_
      clear hK K
      refine wpAnyU_done (by kernel_rfl) ?_ _
      obtain ⟨w8,hw8⟩:∃ W,wo.drew.setRow rb row=W:=⟨_,rfl⟩
      have hrow8:w8.heap[rb]? = some (.cells row 79 (0,0)):=by rw [← hw8]; exact setRow_heap wo.drew rb _ row _ _ HZ.out
      have hB8:Below w.heap.size w w8:=by rw [← hw8]; exact below_setRow hB.drew (by omega) row
      have HM8:Hid (StM (cRun im es es.length) A c D d G g B bc sa sc ca cc (Bl w8.heap.size) w8):=HMM.out.keep (fun q hq=>by rw [← hw8]; exact setRow_other wo.drew rb q row hq.1.2) (fun q hq=>by have h1:=hq.2; show q < w8.heap.size; rw [← hw8,setRow_size]; exact h1)
      have HROW8:=Lib.hid hrow8
      rw [hw8]
      clear hw8 hrow8 hS3 hSw
      go_wp2
      refine bodyPost_ret (v := .tuple #[.agg row,.bool true]) (results_cell_row2 (p:=4) (q:=5) (ty:=79) rfl _ _ rb _ row (0,0) _ (.bool true) rfl rfl HROW8.out Tryz.underlying79 rfl HAL.out.2) rfl ?_
      exact ⟨row,A,c,D,d,G,g,B,bc,sa,sc,ca,cc,rfl,HRR.out,HM8.out,hB8⟩
end Go.Proofs.YtgndgkjefgjamaaGreat
namespace Go.Proofs.YtgndgkjefgjamaaGreat
open Go.RowKit Go.Shelf
attribute [local go_sem] Oper.semAt_some

def smE (e:CEv):Bool:=decide (e.2.2.2.2.length≤20)
def smallEv (es:List CEv):Bool:=es.all smE && decide (es.length≤30)
theorem smallEv_iff {es:List CEv}:smallEv es=true↔(∀ e∈es,e.2.2.2.2.length≤20)∧es.length≤30:=by
  unfold smallEv smE
  simp [List.all_eq_true]
set_option maxHeartbeats 2000000 in
set_option maxRecDepth 100000 in
theorem small37_any (A:Option Addr) (c n:Nat) (es:List CEv) (w:World) (hn:es.length=n) (h0:SlAt encEv w (Bl w.heap.size) A es) (hl:n≤9223372036854775807) (q:Bool) (hq:smallEv es=q) :
    Calls Tryz.prog 36 #[.slice A n c] w fun e w'=>e = .returned (.bool q)∧w'=w:=by
  subst hn
  have HQ:=Lib.hid hq
  have H0:=Lib.hid h0
  clear hq h0
  go_enter Tryz.func36,Tryz.ntmps36
  go_wp2
  go_loopw [3] (fun i wr=>wr=w∧∃ k:Nat,k≤es.length∧i = .int .i64 k∧Hid (∀ x∈es.take k,smE x=true)) (fun i _=>es.length - (intOf i).toNat)
  case atStart=>exact ⟨rfl,0,by omega,rfl,by simp [Hid]⟩
  case round =>
    obtain ⟨rfl,k,hk,rfl,hp⟩:=hrel
    by_cases hlt:k < es.length
    · obtain ⟨b,off,Dw,dw,rfl,hb,e0,e1,e2,e3,e4,hk1,hk2,hv1,hv2,hc1,hc2,hsd⟩:=H0.out.ev hlt
      have hnn:(0:Int)≤k:=by omega
      have hki:(k:Int) < es.length:=by omega
      obtain ⟨x,hx⟩:∃ x,es[k]=x:=⟨_,rfl⟩
      have HX:=Lib.hid hx
      rw [hx] at e4 hc1
      obtain ⟨m,hm⟩:∃ m,x.2.2.2.2.length=m:=⟨_,rfl⟩
      have HM:=Lib.hid hm
      rw [hm] at e4 hc1
      unfold maxLen at hc2
      clear e0 e1 e2 e3 hk1 hk2 hv1 hv2 hsd hx hm
      by_cases c1:20 < m
      · have c1':decide ((20:Int) < (m:Int))=true:=by simp; omega
        go_wp2
        go_ret
        refine ⟨ret_bool ?_,rfl⟩
        rw [← HQ.out]
        symm
        cases hs:smallEv es with
        | false=>rfl
        | true =>
          have:=(smallEv_iff.1 hs).1 _ (List.getElem_mem hlt)
          rw [HX.out,HM.out] at this
          omega
      · have c1':decide ((20:Int) < (m:Int))=false:=by simp; omega
        go_wp2
        go_roundw
        case rel =>
          refine ⟨by trivial,k+1,hlt,by go_num, ?_⟩
          intro y hy
          rw [List.take_succ_eq_append_getElem hlt] at hy
          rcases List.mem_append.1 hy with hy | hy
          · exact hp.out y hy
          · rw [List.mem_singleton.1 hy,HX.out]
            unfold smE
            rw [HM.out]
            simp; omega
        case measure=>simp [intOf]; omega
    · have hkk:k=es.length:=by omega
      subst hkk
      have hp':=hp.out
      rw [List.take_length] at hp'
      have hqq:q=decide (es.length≤30):=by
        rw [← HQ.out]
        unfold smallEv
        rw [show es.all smE=true from List.all_eq_true.2 hp']; rfl
      have HQQ:=Lib.hid hqq
      clear hp' hqq
      by_cases c2:es.length≤30
      · have c2':decide ((es.length:Int)≤30)=true:=by simp; omega
        go_wp2
        go_ret
        exact ⟨ret_bool (by rw [HQQ.out]; simp [c2]),rfl⟩
      · have c2':decide ((es.length:Int)≤30)=false:=by simp; omega
        go_wp2
        go_ret
        exact ⟨ret_bool (by rw [HQQ.out]; simp [c2]),rfl⟩
end Go.Proofs.YtgndgkjefgjamaaGreat
namespace Go.Proofs.YtgndgkjefgjamaaGreat
open Go.RowKit Go.ChangeShapes Go.WideShapes Go.ChangeAt

theorem own:ownKnob Tryz.prog.godebug=none:=by kernel_rfl
theorem laidOut:laidOutB Tryz.prog=true:=by kernel_rfl
theorem op_int:Opens Tryz.prog 3 encInt:=opens_int Tryz.underlying3 (by kernel_rfl)
theorem op_u8:Opens Tryz.prog 5 encU8:=opens_u8 Tryz.underlying5 (by kernel_rfl)
theorem op_sec:Opens Tryz.prog 95 encSec:=opens_sec Tryz.underlying95 (by kernel_rfl) Tryz.underlying5 (by kernel_rfl)
theorem op_secs:Opens Tryz.prog 43 (encSl encSec):=opens_slice Tryz.underlying43 (by kernel_rfl) op_sec (by decide)
theorem op_wr:Opens Tryz.prog 45 encWr:=opens_struct Tryz.underlying45 (opensF_cons rfl op_int (opensF_cons rfl op_int (opensF_one rfl op_secs (by kernel_rfl))))
end Go.Proofs.YtgndgkjefgjamaaGreat
namespace Go.Proofs.YtgndgkjefgjamaaGreat
open Go.ChangeShapes Go.WideShapes Go.ChangeAt Go.RowKit

theorem op_ev:Opens Tryz.prog 149 encEv:=opens_struct Tryz.underlying149 (opensF_cons rfl op_u8 (opensF_cons rfl op_u8 (opensF_one rfl op_wr (by kernel_rfl))))
theorem op_evs:Opens Tryz.prog 73 (encSl encEv):=opens_slice Tryz.underlying73 (by kernel_rfl) op_ev (by decide)
end Go.Proofs.YtgndgkjefgjamaaGreat

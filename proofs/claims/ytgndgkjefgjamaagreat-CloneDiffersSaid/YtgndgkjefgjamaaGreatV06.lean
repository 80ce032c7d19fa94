/-
  snapshot.New, Take, Cost: the walks.; snapshot.Cost, find: the walks.; Plain words: clones of snapshots. No program in sight.; Strings and clones as readings; clone.isName: the walk.; clone.index, taken: the walks.
-/
import Derived.BigQuiet
import Derived.Laws.RangeString
import Derived.Laws.RangeAny
import Derived.Deep.DeepCutAuto
import Derived.Laws.EntriesVeiled
import Derived.Test.YtgndgkjefgjamaaGreatV01
import Derived.Test.YtgndgkjefgjamaaGreatV02
import Derived.Test.YtgndgkjefgjamaaGreatV03
import Derived.Test.YtgndgkjefgjamaaGreatV04
import Derived.Test.YtgndgkjefgjamaaGreatV05
set_option linter.unusedVariables false
set_option linter.unusedSimpArgs false
set_option linter.unusedSectionVars false
set_option linter.unnecessarySimpa false
namespace Go.Proofs.YtgndgkjefgjamaaGreat
open Go.RowKit Go.Shelf
attribute [local go_sem] Oper.semAt_some

section
variable {im:Img} {l:List Snp} {A D:Option Addr} {c d mid lo:Nat} {w w':World}
theorem SnRet.keep (h:SnRet im l A c D d mid lo w) (hs:w.heap.size≤w'.heap.size) (hk:∀ g,lo≤g→g<w.heap.size→w'.heap[g]? = w.heap[g]?):SnRet im l A c D d mid lo w':=by
 obtain⟨h1,h2,h3,h4,h5,h6⟩:=h
 exact⟨h1,h2,h3,by omega,h5.blk (fun g hg=>hk g hg.1 (by have:=hg.2;omega)),h6.keep hs (fun g hg hl _=>hk g (by omega) hl)⟩
theorem SnRet.below (h:SnRet im l A c D d mid lo w) (hb:Below w.heap.size w w'):SnRet im l A c D d mid lo w':=h.keep hb.size (fun g _ hg=>hb.block g hg)
theorem SnRet.set (h:SnRet im l A c D d mid lo w) {p:Addr} (hp:p.block<lo) (u:Value):SnRet im l A c D d mid lo (w.setCell p u) :=
 h.keep (by simp [World.setCell]) (fun g hg _=>Below.heap_setCell _ _ _ _ (by omega))
theorem SnRet.low (h:SnRet im l A c D d mid lo w) {lo':Nat} (hl:lo'≤lo):SnRet im l A c D d mid lo' w:=by
 obtain⟨h1,h2,h3,h4,h5,h6⟩:=h
 exact⟨h1,h2,by omega,h4,h5.more (fun g hg=>hg.mono hl (Nat.le_refl _)),h6⟩
theorem SnRet.zero {lo:Nat} (h:lo≤w.heap.size):SnRet [] [] none 0 none 0 lo lo w:=⟨by simp,by simp,Nat.le_refl _,h,SlAt.nil_,OwnX.nil_⟩
theorem SnRet.read (h:SnRet im l A c D d mid lo w):(im.length≤c∧c≤maxLen∧SlAt (encSl encSec) w (Nw lo w.heap.size) A im)∧(l.length≤d∧d≤maxLen∧SlAt encSnp w (Nw lo w.heap.size) D l):=by
 obtain⟨h1,h2,h3,h4,h5,h6⟩:=h
 obtain⟨_,a,b,e⟩:=h6.parts
 exact⟨⟨h1,h2,h5.more (fun g hg=>hg.mono (Nat.le_refl _) h4)⟩,a,b,e.more (fun g hg=>hg.1.mono h3 (Nat.le_refl _))⟩
end
def SnRetE (s:Sns) (n:Int) (w:World) (e:Ending) (w':World):Prop :=
 ∃ B vc D dc mid,e = .returned (.tuple #[.agg #[.slice B s.1.length vc,.slice D s.2.length dc],.int .i64 n])∧SnRet s.1 s.2 B vc D dc mid w.heap.size w'∧Below w.heap.size w w'
set_option maxHeartbeats 1000000 in
theorem snNew_any (A:Option Addr) (c n:Nat) (im:Img) (w:World) (hn:im.length=n) (h1:SlAt (encSl encSec) w (Bl w.heap.size) A im) (hL:SnLim im []) :
  Calls Tryz.prog 98 #[.slice A n c] w (SnRetE (newS im) (sizesN (lens im)) w):=by
 subst hn
 have H1:Hid (∀ w',Below w.heap.size w w'→SlAt (encSl encSec) w' (Bl w.heap.size) A im):=fun w' hb=>h1.below hb
 have HLM:=Lib.hid hL
 have hl1:=hL.ims
 clear h1 hL
 obtain⟨n0,hn0⟩:∃ n0,w.heap.size=n0:=⟨_,rfl⟩
 obtain⟨W0,hW0⟩:∃ W0,w.alloc (.cells #[.slice none 0 0,.slice none 0 0] 26)=W0:=⟨_,rfl⟩
 have hB0:Below n0 w W0:=by rw [← hW0, ← hn0];exact ext_alloc (Below.refl _ _)
 have hs0:n0<W0.heap.size:=by rw [← hW0, ← hn0];simp
 have hr0:W0.heap[n0]? = some (.cells #[.slice none 0 0,.slice none 0 0] 26 (0,0)):=by rw [← hW0, ← hn0];exact heap_alloc_new _ _
 obtain⟨s0,hs0'⟩:∃ s0,Hid (sizesN (lens im)=s0):=⟨_,rfl⟩
 have HIC:=Lib.hid (imgCheck_any A c im.length im W0 rfl ((H1.out W0 (by rw [hn0];exact hB0)).more (fun g hg=>by have:g<w.heap.size:=hg;show g<W0.heap.size;omega)) (by omega) s0 hs0'.out)
 go_enter Tryz.func98,Tryz.ntmps98
 go_wp2_with fail
 refine HIC.out.mono ?_
 rintro e w1 ⟨rfl,hb1⟩
 have hbw1:Below n0 w w1:=hB0.trans (hb1.mono (by omega))
 have hr1:=(hb1.block n0 hs0).trans hr0
 have hz1:=hb1.size
 obtain⟨q0,q1,qf⟩:=blk2 hr1
 clear HIC hW0 hr0
 by_cases hx0:s0=0
 case neg =>
  have hx0':(s0 != 0)=true:=by simp [hx0]
  have hE:Hid (newS im=zSns):=by rw [Hid,newS,hs0'.out,if_neg hx0]
  clear hx0
  go_wp2_with fail
  have hz:=blk2_set hr1 (.slice none 0 0) (.slice none 0 0)
  have hbe:=((hbw1.setCell (p:=⟨n0,0,none⟩) (Nat.le_refl n0) (.slice none 0 0)).setCell (p:=⟨n0,1,none⟩) (Nat.le_refl n0) (.slice none 0 0))
  have hse:=(SnRet.zero (w:=(w1.setCell ⟨n0,0,none⟩ (.slice none 0 0)).setCell ⟨n0,1,none⟩ (.slice none 0 0)) (lo:=n0) (by simp [World.setCell];omega))
  change bodyPost _ _ _ _ _ ((w1.setCell ⟨n0,0,none⟩ (.slice none 0 0)).setCell ⟨n0,1,none⟩ (.slice none 0 0))
  generalize (w1.setCell ⟨n0,0,none⟩ (.slice none 0 0)).setCell ⟨n0,1,none⟩ (.slice none 0 0)=W3 at hz hbe hse ⊢
  obtain⟨z0,z1,_⟩:=blk2 hz
  refine bodyPost_ret (v := .tuple #[.agg #[(.slice none 0 0),(.slice none 0 0)],.int .i64 s0]) ?_ rfl ?_
  ·simp [results,Tryz.results98,Tryz.f98,go_sem,z0,z1]
  rw [hE.out,hs0'.out]
  exact⟨none,0,none,0,n0,rfl,by rw [hn0];exact hse,by rw [hn0];exact hbe⟩
 have hx0':(s0 != 0)=false:=by simp [hx0]
 have hE:Hid (newS im=(im,[])):=by rw [Hid,newS,hs0'.out,if_pos hx0]
 have HX:=Lib.hid hx0
 clear hx0
 have HCP:=Lib.hid (copied36_any A none c 0 im.length 0 im [] w1 rfl rfl ((H1.out w1 (by rw [hn0];exact hbw1)).more (fun g hg=>by have:g<w.heap.size:=hg;show g<w1.heap.size;omega)) SlAt.nil_ HLM.out)
 go_wp2_with fail
 refine HCP.out.mono ?_
 rintro e w2 ⟨B,vc,D,dc,mid,rfl,hsn,hb2⟩
 have hr2:=(hb2.block n0 (by omega)).trans hr1
 have hbw2:Below n0 w w2:=hbw1.trans (hb2.mono (by omega))
 obtain⟨q0,q1,qf⟩:=blk2 hr2
 clear HCP
 go_wp2_with fail
 have hz:=blk2_set hr2 (.slice B im.length vc) (.slice D 0 dc)
 have hbe:=((hbw2.setCell (p:=⟨n0,0,none⟩) (Nat.le_refl n0) (.slice B im.length vc)).setCell (p:=⟨n0,1,none⟩) (Nat.le_refl n0) (.slice D 0 dc))
 have hse:=((hsn.set (p:=⟨n0,0,none⟩) (by show n0<w1.heap.size;omega) (.slice B im.length vc)).set (p:=⟨n0,1,none⟩) (by show n0<w1.heap.size;omega) (.slice D 0 dc))
 change bodyPost _ _ _ _ _ ((w2.setCell ⟨n0,0,none⟩ (.slice B im.length vc)).setCell ⟨n0,1,none⟩ (.slice D 0 dc))
 generalize (w2.setCell ⟨n0,0,none⟩ (.slice B im.length vc)).setCell ⟨n0,1,none⟩ (.slice D 0 dc)=W3 at hz hbe hse ⊢
 obtain⟨z0,z1,_⟩:=blk2 hz
 refine bodyPost_ret (v := .tuple #[.agg #[(.slice B im.length vc),(.slice D 0 dc)],.int .i64 0]) ?_ rfl ?_
 ·simp [results,Tryz.results98,Tryz.f98,go_sem,z0,z1]
 rw [hE.out,hs0'.out,HX.out]
 exact⟨B,vc,D,dc,mid,rfl,hse.low (by omega),by rw [hn0];exact hbe⟩
set_option maxHeartbeats 4000000 in
set_option maxRecDepth 100000 in
theorem snTake_any (A A2:Option Addr) (c c2 n m:Nat) (im:Img) (l:List Snp) (num tm:Int) (w:World) (hn:im.length=n) (hm:l.length=m) (h1:SlAt (encSl encSec) w (Bl w.heap.size) A im) (h2:SlAt encSnp w (Bl w.heap.size) A2 l) (hL:SnLim im l) (hi:I64 num∧I64 tm) :
  Calls Tryz.prog 86 #[.agg #[.slice A n c,.slice A2 m c2],.int .i64 num,.int .i64 tm] w (SnRetE (takeS (im,l) num tm) (takeE (im,l) num tm) w):=by
 subst hn hm
 have H1:Hid (∀ w',Below w.heap.size w w'→SlAt (encSl encSec) w' (Bl w.heap.size) A im):=fun w' hb=>h1.below hb
 have H2:Hid (∀ w',Below w.heap.size w w'→SlAt encSnp w' (Bl w.heap.size) A2 l):=fun w' hb=>h2.below hb
 have HLM:=Lib.hid hL
 have hl1:=hL.ims
 have hl2:=hL.its
 have hnum:=Lib.hid hi.1
 have htm:=Lib.hid hi.2
 clear h1 h2 hL hi
 obtain⟨n0,hn0⟩:∃ n0,w.heap.size=n0:=⟨_,rfl⟩
 obtain⟨W0,hW0⟩:∃ W0,(w.alloc (.cells #[.slice A im.length c,.slice A2 l.length c2] 26)).alloc (.cells #[.slice none 0 0,.slice none 0 0] 26)=W0:=⟨_,rfl⟩
 have hB0:Below n0 w W0:=by rw [← hW0, ← hn0];exact ext_alloc (ext_alloc (Below.refl _ _))
 have hs0:n0+1<W0.heap.size:=by rw [← hW0, ← hn0];simp
 have hr0:W0.heap[n0]? = some (.cells #[.slice A im.length c,.slice A2 l.length c2] 26 (0,0)):=by rw [← hW0, ← hn0];exact (Below.heap_alloc _ _ _ (by simp)).trans (heap_alloc_new _ _)
 have hrz0:W0.heap[n0+1]? = some (.cells #[.slice none 0 0,.slice none 0 0] 26 (0,0)):=by rw [← hW0, ← hn0];exact heap_new2 _ _ _
 obtain⟨r,hr⟩:∃ r,Hid (snE (im,l)=r):=⟨_,rfl⟩
 have HCK:=Lib.hid (snCheck_any A A2 c c2 im.length l.length im l r W0 rfl rfl hr.out ((H1.out W0 (by rw [hn0];exact hB0)).more (fun g hg=>by have:g<w.heap.size:=hg;show g<W0.heap.size;omega)) ((H2.out W0 (by rw [hn0];exact hB0)).more (fun g hg=>by have:g<w.heap.size:=hg;show g<W0.heap.size;omega)) hl1 (by omega))
 obtain⟨c0,c1,_⟩:=blk2 hr0
 go_enter Tryz.func86,Tryz.ntmps86
 go_wp2_with fail
 refine HCK.out.mono ?_
 rintro e w1 ⟨rfl,hb1⟩
 have hbw1:Below n0 w w1:=hB0.trans (hb1.mono (by omega))
 have hz1:=hb1.size
 have hrz1:=(hb1.block (n0+1) hs0).trans hrz0
 have hrp1:=(hb1.block n0 (by omega)).trans hr0
 clear HCK hW0 hr0 hrz0 c0 c1
 by_cases hx0:r=0
 case neg =>
  have hx0':(r != 0)=true:=by simp [hx0]
  have hE:Hid (takeE (im,l) num tm=r):=by rw [Hid,takeE,hr.out,if_pos hx0]
  have hS:Hid (takeS (im,l) num tm=zSns):=by rw [Hid,takeS,if_neg (by rw [hE.out];exact hx0)]
  obtain⟨q0,q1,qf⟩:=blk2 hrz1
  clear hx0
  go_wp2_with fail
  have hz:=blk2_set hrz1 (.slice none 0 0) (.slice none 0 0)
  have hbe:=((hbw1.setCell (p:=⟨n0+1,0,none⟩) (by show n0≤n0+1;omega) (.slice none 0 0)).setCell (p:=⟨n0+1,1,none⟩) (by show n0≤n0+1;omega) (.slice none 0 0))
  have hse:=(SnRet.zero (w:=(w1.setCell ⟨n0+1,0,none⟩ (.slice none 0 0)).setCell ⟨n0+1,1,none⟩ (.slice none 0 0)) (lo:=n0) (by simp [World.setCell];omega))
  change bodyPost _ _ _ _ _ ((w1.setCell ⟨(n0+1),0,none⟩ (.slice none 0 0)).setCell ⟨(n0+1),1,none⟩ (.slice none 0 0))
  generalize (w1.setCell ⟨(n0+1),0,none⟩ (.slice none 0 0)).setCell ⟨(n0+1),1,none⟩ (.slice none 0 0)=W3 at hz hbe hse ⊢
  obtain⟨z0,z1,_⟩:=blk2 hz
  refine bodyPost_ret (v := .tuple #[.agg #[(.slice none 0 0),(.slice none 0 0)],.int .i64 r]) ?_ rfl ?_
  ·simp [results,Tryz.results86,Tryz.f86,go_sem,z0,z1]
  rw [hE.out,hS.out]
  exact⟨none,0,none,0,n0,rfl,by rw [hn0];exact hse,by rw [hn0];exact hbe⟩
 have hx0':(r != 0)=false:=by simp [hx0]
 have HOK:Hid (snE (im,l)=0):=by rw [Hid,hr.out,hx0]
 clear hx0 hr
 obtain⟨c0,c1,_⟩:=blk2 hrp1
 go_upto_region 5 with (fail)
 obtain⟨lb,hlb⟩:∃ lb,w1.heap.size=lb:=⟨_,rfl⟩
 obtain⟨w2,hw2⟩:∃ w2,w1.alloc (.cells #[.int .i64 (-1),.int .i64 0,.slice none 0 0] 158)=w2:=⟨_,rfl⟩
 rw [hw2,hlb]
 have hb2:Below lb w1 w2:=by rw [← hw2, ← hlb];exact ext_alloc (Below.refl _ _)
 have hr2:w2.heap[lb]? = some (.cells #[.int .i64 (-1),.int .i64 0,.slice none 0 0] 158 (0,0)):=by rw [← hw2, ← hlb];exact heap_alloc_new _ _
 have hs2:lb<w2.heap.size:=(Array.getElem?_eq_some_iff.1 hr2).1
 have hrp2:=(hb2.block n0 (by omega)).trans hrp1
 have hrz2:=(hb2.block (n0+1) (by omega)).trans hrz1
 have hbw2:Below n0 w w2:=hbw1.trans (hb2.mono (by omega))
 clear c0 c1 hw2 hb2 hrp1 hrz1
 obtain⟨c0,c1,_⟩:=blk2 hrp2
 by_cases h0:l.length=0
 ·have hl0:l=[]:=List.eq_nil_of_length_eq_zero h0
  have hg0:decide (0<l.length)=false:=decide_eq_false (by omega)
  go_upto_region 8 with (fail)
  obtain⟨w3,hw3⟩:∃ w3,w2=w3:=⟨_,rfl⟩
  obtain⟨ln,hln'⟩:∃ ln,(-1:Int)=ln:=⟨_,rfl⟩
  obtain⟨lt,hlt'⟩:∃ lt,(0:Int)=lt:=⟨_,rfl⟩
  have hln:Hid (lastN l=ln):=by rw [Hid,hl0, ← hln'];rfl
  have hlt_:Hid (lastT l=lt):=by rw [Hid,hl0, ← hlt'];rfl
  have hrl3:w3.heap[lb]? = some (.cells #[.int .i64 ln,.int .i64 lt,.slice none 0 0] 158 (0,0)):=by rw [← hw3, ← hln', ← hlt'];exact hr2
  have hrz3:w3.heap[n0+1]? = some (.cells #[.slice none 0 0,.slice none 0 0] 26 (0,0)):=by rw [← hw3];exact hrz2
  have hbw3:Below n0 w w3:=by rw [← hw3];exact hbw2
  have hs3:lb<w3.heap.size:=by rw [← hw3];exact hs2
  have HCC:Hid (∀ W,Below w3.heap.size w3 W→W.cell? ⟨n0,0,none⟩=some (.slice A im.length c)∧W.cell? ⟨n0,1,none⟩=some (.slice A2 l.length c2)):=fun W hb=>by
   obtain⟨a,b,_⟩:=blk2 ((hb.block n0 (by omega)).trans (by rw [← hw3];exact hrp2))
   exact⟨a,b⟩
  rw [hw3]
  clear hw3 hln' hlt' hl0 h0 c0 c1 hr2 hrz2 hrp2 hbw2 hs2
  obtain⟨l0,l1,_,_⟩:=blk3 hrl3
  obtain⟨q1,hq1⟩:∃ q,Hid (inT num=q):=⟨_,rfl⟩
  have HI1:=Lib.hid (inT_any num w3 q1 hq1.out)
  go_wp2_with fail
  refine HI1.out.mono ?_
  rintro e w4 ⟨rfl,rfl⟩
  clear HI1
  have hTE:Hid (takeE (im,l) num tm=if inT num=false then 2 else if num≤ln then 8 else if inT tm=false∨tm<lt then 24 else if 1024≤l.length then 11 else 0):=by rw [Hid,takeE,HOK.out,if_neg (by decide),hln.out,hlt_.out]
  cases q1 with
  | false =>
    have hE:Hid (takeE (im,l) num tm=2):=(by rw [Hid,hTE.out,if_pos hq1.out])
    have hS:Hid (takeS (im,l) num tm=zSns):=by rw [Hid,takeS,if_neg (by rw [hE.out];decide)]
    obtain⟨q0,q1,qf⟩:=blk2 hrz3
    go_wp2_with fail
    have hz:=blk2_set hrz3 (.slice none 0 0) (.slice none 0 0)
    have hbe:=((hbw3.setCell (p:=⟨n0+1,0,none⟩) (by show n0≤n0+1;omega) (.slice none 0 0)).setCell (p:=⟨n0+1,1,none⟩) (by show n0≤n0+1;omega) (.slice none 0 0))
    have hse:=(SnRet.zero (w:=(w4.setCell ⟨n0+1,0,none⟩ (.slice none 0 0)).setCell ⟨n0+1,1,none⟩ (.slice none 0 0)) (lo:=n0) (by simp [World.setCell];omega))
    change bodyPost _ _ _ _ _ ((w4.setCell ⟨(n0+1),0,none⟩ (.slice none 0 0)).setCell ⟨(n0+1),1,none⟩ (.slice none 0 0))
    generalize (w4.setCell ⟨(n0+1),0,none⟩ (.slice none 0 0)).setCell ⟨(n0+1),1,none⟩ (.slice none 0 0)=W3 at hz hbe hse ⊢
    obtain⟨z0,z1,_⟩:=blk2 hz
    refine bodyPost_ret (v := .tuple #[.agg #[(.slice none 0 0),(.slice none 0 0)],.int .i64 2]) ?_ rfl ?_
    ·simp [results,Tryz.results86,Tryz.f86,go_sem,z0,z1]
    rw [hE.out,hS.out]
    exact⟨none,0,none,0,n0,rfl,by rw [hn0];exact hse,by rw [hn0];exact hbe⟩
  | true =>
  by_cases hnl:num≤ln
  case pos =>
   have hE:Hid (takeE (im,l) num tm=8):=(by rw [Hid,hTE.out,if_neg (by rw [hq1.out];decide),if_pos (by omega)])
   have hS:Hid (takeS (im,l) num tm=zSns):=by rw [Hid,takeS,if_neg (by rw [hE.out];decide)]
   obtain⟨q0,q1,qf⟩:=blk2 hrz3
   go_wp2_with fail
   have hz:=blk2_set hrz3 (.slice none 0 0) (.slice none 0 0)
   have hbe:=((hbw3.setCell (p:=⟨n0+1,0,none⟩) (by show n0≤n0+1;omega) (.slice none 0 0)).setCell (p:=⟨n0+1,1,none⟩) (by show n0≤n0+1;omega) (.slice none 0 0))
   have hse:=(SnRet.zero (w:=(w4.setCell ⟨n0+1,0,none⟩ (.slice none 0 0)).setCell ⟨n0+1,1,none⟩ (.slice none 0 0)) (lo:=n0) (by simp [World.setCell];omega))
   change bodyPost _ _ _ _ _ ((w4.setCell ⟨(n0+1),0,none⟩ (.slice none 0 0)).setCell ⟨(n0+1),1,none⟩ (.slice none 0 0))
   generalize (w4.setCell ⟨(n0+1),0,none⟩ (.slice none 0 0)).setCell ⟨(n0+1),1,none⟩ (.slice none 0 0)=W3 at hz hbe hse ⊢
   obtain⟨z0,z1,_⟩:=blk2 hz
   refine bodyPost_ret (v := .tuple #[.agg #[(.slice none 0 0),(.slice none 0 0)],.int .i64 8]) ?_ rfl ?_
   ·simp [results,Tryz.results86,Tryz.f86,go_sem,z0,z1]
   rw [hE.out,hS.out]
   exact⟨none,0,none,0,n0,rfl,by rw [hn0];exact hse,by rw [hn0];exact hbe⟩
  have hnl':decide (num≤ln)=false:=decide_eq_false hnl
  have hnl2:Hid (¬ num≤ln):=hnl
  obtain⟨q2,hq2⟩:∃ q,Hid (inT tm=q):=⟨_,rfl⟩
  have HI2:=Lib.hid (inT_any tm w4 q2 hq2.out)
  clear hnl
  go_wp2_with fail
  refine HI2.out.mono ?_
  rintro e w5 ⟨rfl,rfl⟩
  clear HI2
  cases q2 with
  | false =>
    have hE:Hid (takeE (im,l) num tm=24):=(by rw [Hid,hTE.out,if_neg (by rw [hq1.out];decide),if_neg (by have:=hnl2.out;omega),if_pos (Or.inl hq2.out)])
    have hS:Hid (takeS (im,l) num tm=zSns):=by rw [Hid,takeS,if_neg (by rw [hE.out];decide)]
    obtain⟨q0,q1,qf⟩:=blk2 hrz3
    go_wp2_with fail
    have hz:=blk2_set hrz3 (.slice none 0 0) (.slice none 0 0)
    have hbe:=((hbw3.setCell (p:=⟨n0+1,0,none⟩) (by show n0≤n0+1;omega) (.slice none 0 0)).setCell (p:=⟨n0+1,1,none⟩) (by show n0≤n0+1;omega) (.slice none 0 0))
    have hse:=(SnRet.zero (w:=(w5.setCell ⟨n0+1,0,none⟩ (.slice none 0 0)).setCell ⟨n0+1,1,none⟩ (.slice none 0 0)) (lo:=n0) (by simp [World.setCell];omega))
    change bodyPost _ _ _ _ _ ((w5.setCell ⟨(n0+1),0,none⟩ (.slice none 0 0)).setCell ⟨(n0+1),1,none⟩ (.slice none 0 0))
    generalize (w5.setCell ⟨(n0+1),0,none⟩ (.slice none 0 0)).setCell ⟨(n0+1),1,none⟩ (.slice none 0 0)=W3 at hz hbe hse ⊢
    obtain⟨z0,z1,_⟩:=blk2 hz
    refine bodyPost_ret (v := .tuple #[.agg #[(.slice none 0 0),(.slice none 0 0)],.int .i64 24]) ?_ rfl ?_
    ·simp [results,Tryz.results86,Tryz.f86,go_sem,z0,z1]
    rw [hE.out,hS.out]
    exact⟨none,0,none,0,n0,rfl,by rw [hn0];exact hse,by rw [hn0];exact hbe⟩
  | true =>
  by_cases htl:tm<lt
  case pos =>
   have hE:Hid (takeE (im,l) num tm=24):=(by rw [Hid,hTE.out,if_neg (by rw [hq1.out];decide),if_neg (by have:=hnl2.out;omega),if_pos (Or.inr (by omega))])
   have hS:Hid (takeS (im,l) num tm=zSns):=by rw [Hid,takeS,if_neg (by rw [hE.out];decide)]
   obtain⟨q0,q1,qf⟩:=blk2 hrz3
   go_wp2_with fail
   have hz:=blk2_set hrz3 (.slice none 0 0) (.slice none 0 0)
   have hbe:=((hbw3.setCell (p:=⟨n0+1,0,none⟩) (by show n0≤n0+1;omega) (.slice none 0 0)).setCell (p:=⟨n0+1,1,none⟩) (by show n0≤n0+1;omega) (.slice none 0 0))
   have hse:=(SnRet.zero (w:=(w5.setCell ⟨n0+1,0,none⟩ (.slice none 0 0)).setCell ⟨n0+1,1,none⟩ (.slice none 0 0)) (lo:=n0) (by simp [World.setCell];omega))
   change bodyPost _ _ _ _ _ ((w5.setCell ⟨(n0+1),0,none⟩ (.slice none 0 0)).setCell ⟨(n0+1),1,none⟩ (.slice none 0 0))
   generalize (w5.setCell ⟨(n0+1),0,none⟩ (.slice none 0 0)).setCell ⟨(n0+1),1,none⟩ (.slice none 0 0)=W3 at hz hbe hse ⊢
   obtain⟨z0,z1,_⟩:=blk2 hz
   refine bodyPost_ret (v := .tuple #[.agg #[(.slice none 0 0),(.slice none 0 0)],.int .i64 24]) ?_ rfl ?_
   ·simp [results,Tryz.results86,Tryz.f86,go_sem,z0,z1]
   rw [hE.out,hS.out]
   exact⟨none,0,none,0,n0,rfl,by rw [hn0];exact hse,by rw [hn0];exact hbe⟩
  have htl':decide (tm<lt)=false:=decide_eq_false htl
  have htl2:Hid (¬ (inT tm=false∨tm<lt)):=by rw [Hid,hq2.out];simp;omega
  clear htl
  obtain⟨c0,c1⟩:=HCC.out w5 (Below.refl _ _)
  by_cases hfl:(1024:Int)≤l.length
  case pos =>
   have hE:Hid (takeE (im,l) num tm=11):=(by rw [Hid,hTE.out,if_neg (by rw [hq1.out];decide),if_neg (by have:=hnl2.out;omega),if_neg (by exact htl2.out),if_pos (by omega)])
   have hS:Hid (takeS (im,l) num tm=zSns):=by rw [Hid,takeS,if_neg (by rw [hE.out];decide)]
   obtain⟨q0,q1,qf⟩:=blk2 hrz3
   go_wp2_with fail
   have hz:=blk2_set hrz3 (.slice none 0 0) (.slice none 0 0)
   have hbe:=((hbw3.setCell (p:=⟨n0+1,0,none⟩) (by show n0≤n0+1;omega) (.slice none 0 0)).setCell (p:=⟨n0+1,1,none⟩) (by show n0≤n0+1;omega) (.slice none 0 0))
   have hse:=(SnRet.zero (w:=(w5.setCell ⟨n0+1,0,none⟩ (.slice none 0 0)).setCell ⟨n0+1,1,none⟩ (.slice none 0 0)) (lo:=n0) (by simp [World.setCell];omega))
   change bodyPost _ _ _ _ _ ((w5.setCell ⟨(n0+1),0,none⟩ (.slice none 0 0)).setCell ⟨(n0+1),1,none⟩ (.slice none 0 0))
   generalize (w5.setCell ⟨(n0+1),0,none⟩ (.slice none 0 0)).setCell ⟨(n0+1),1,none⟩ (.slice none 0 0)=W3 at hz hbe hse ⊢
   obtain⟨z0,z1,_⟩:=blk2 hz
   refine bodyPost_ret (v := .tuple #[.agg #[(.slice none 0 0),(.slice none 0 0)],.int .i64 11]) ?_ rfl ?_
   ·simp [results,Tryz.results86,Tryz.f86,go_sem,z0,z1]
   rw [hE.out,hS.out]
   exact⟨none,0,none,0,n0,rfl,by rw [hn0];exact hse,by rw [hn0];exact hbe⟩
  have hE:Hid (takeE (im,l) num tm=0):=by rw [Hid,hTE.out,if_neg (by rw [hq1.out];decide),if_neg (by have:=hnl2.out;omega),if_neg (by exact htl2.out),if_neg (by omega)]
  have hS:Hid (takeS (im,l) num tm=(im,l++[(num,tm,[])])):=by rw [Hid,takeS,if_pos hE.out]
  have HCP:=Lib.hid (copied36_any A A2 c c2 im.length l.length im l w5 rfl rfl ((H1.out w5 (by rw [hn0];exact hbw3)).more (fun g hg=>by have:g<w.heap.size:=hg;show g<w5.heap.size;omega)) ((H2.out w5 (by rw [hn0];exact hbw3)).more (fun g hg=>by have:g<w.heap.size:=hg;show g<w5.heap.size;omega)) HLM.out)
  clear hnl2 htl2 hq1 hq2 hTE
  go_wp2_with fail
  refine HCP.out.mono ?_
  rintro e w6 ⟨B,vc,D,dc,mid,rfl,hsn,hb6⟩
  clear HCP c0 c1 l0 l1 hnl' htl'
  go_upto_region 17 with (fail)
  obtain⟨ob,hob⟩:∃ ob,w6.heap.size=ob:=⟨_,rfl⟩
  obtain⟨w7,hw7⟩:∃ w7,w6.alloc (.cells #[.slice B im.length vc,.slice D l.length dc] 26)=w7:=⟨_,rfl⟩
  rw [hw7,hob]
  have hb7:Below w6.heap.size w6 w7:=by rw [← hw7];exact ext_alloc (Below.refl _ _)
  have hr7:w7.heap[ob]? = some (.cells #[.slice B im.length vc,.slice D l.length dc] 26 (0,0)):=by rw [← hw7, ← hob];exact heap_alloc_new _ _
  have hs7:ob<w7.heap.size:=(Array.getElem?_eq_some_iff.1 hr7).1
  have hz6:=hb6.size
  have hsn7:=hsn.below hb7
  obtain⟨k1,k2,k3,k4,k5,k6⟩:=hsn
  have hO7:Hid (OwnX (fun g=>g=ob) encSnp w7 mid 158 (.slice D l.length dc) l):=(k6.var (X':=fun g=>g=ob) (fun g hg=>Or.inr (by omega))).below hb7
  have hO8:=Lib.hid (hO7.out.alloc (.cells #[.int .i64 num,.int .i64 tm,.slice none 0 0] 158))
  have hO8o:=Lib.hid hO8.out.1
  have hlo:=Lib.hid k6.lt
  have hHI:=Lib.hid k5
  have HRD:Hid (encSnp.rd (w7.alloc (.cells #[.int .i64 num,.int .i64 tm,.slice none 0 0] 158)) (fun g=>Nw mid (w7.alloc (.cells #[.int .i64 num,.int .i64 tm,.slice none 0 0] 158)).heap.size g∧¬ (fun g=>g=ob) g∧(Value.slice D l.length dc).ownBlock≠some g) [.int .i64 num,.int .i64 tm,.slice none 0 0] (num,tm,[])):=snp_mk (x:=(num,tm,[])) ⟨hnum.out.1,hnum.out.2⟩ ⟨htm.out.1,htm.out.2⟩ (by simp) (by simp) SlAt.nil_
  have hrz7:w7.heap[n0+1]? = some (.cells #[.slice none 0 0,.slice none 0 0] 26 (0,0)):=(hb7.block _ (by omega)).trans ((hb6.block _ (by omega)).trans hrz3)
  have hbw7:Below n0 w w7:=(hbw3.trans (hb6.mono (by omega))).trans (hb7.mono (by omega))
  obtain⟨o0,o1,_⟩:=blk2 hr7
  have hz7:=hb7.size
  clear k5 k6 hw7 hsn7
  go_wp2_with (at_builtin;refine Hid.out ?_)
  change wpList _ _ _ _ _ _
  refine wpList_app1 (E:=encSnp) tySnps rfl _ _ rfl rfl hO8o.out (num,tm,[]) [.int .i64 num,.int .i64 tm,.slice none 0 0] rfl HRD.out (heap_alloc_new _ _) (fun _ h=>h.1.2) (by simp;omega) (by unfold maxLen;omega) (by omega) ?_
  intro A9 c9 w9 hown9 hg9 hat9
  have hz9:=hg9.size
  rw [World.size_alloc] at hz9
  have hkeep9:∀ g,g<w7.heap.size→(Value.slice D l.length dc).ownBlock≠some g→w9.heap[g]? = w7.heap[g]? := fun g hg hne=>(hg9.block g (by rw [World.size_alloc];omega) (fun e=>hne e.symm)).trans (Below.heap_alloc _ _ _ hg)
  have hro9:=(hkeep9 ob hs7 (fun e=>by have:=(hlo.out ob e).2;omega)).trans hr7
  have hrz9:=(hkeep9 (n0+1) (by omega) (fun e=>by have:=(hlo.out _ e).1;omega)).trans hrz7
  have hO9:Hid (OwnX (fun g=>g=ob) encSnp (w9.setCell ⟨ob,1,none⟩ (.slice A9 (l.length+1) c9)) mid 158 (.slice A9 (l.length+1) c9) (l++[(num,tm,[])])):=(hO8.out.app hown9 hg9 hat9 (fun g hg=>by rw [hg];simp;omega)).set (p:=⟨ob,1,none⟩) rfl _
  have hbw9:Below n0 w (w9.setCell ⟨ob,1,none⟩ (.slice A9 (l.length+1) c9)):=((hbw7.alloc (by omega) (.cells #[.int .i64 num,.int .i64 tm,.slice none 0 0] 158)).grown hg9 (by simp;omega) (fun g h=>by have:=(hlo.out g h).1;omega)).setCell (p:=⟨ob,1,none⟩) (by show n0≤ob;omega) _
  have hI9:Hid (SlAt (encSl encSec) (w9.setCell ⟨ob,1,none⟩ (.slice A9 (l.length+1) c9)) (Nw w5.heap.size mid) B im):=hHI.out.blk (fun g hg=>(heap_setCell_other _ _ _ _ (by have:=hg.2;show g≠ob;omega)).trans ((hkeep9 g (by have:=hg.2;omega) (fun e=>by have:=(hlo.out g e).1;have:=hg.2;omega)).trans (hb7.block g (by have:=hg.2;omega))))
  have hro10:=blk2_1 hro9 (.slice A9 (l.length+1) c9)
  have hrz10:=(heap_setCell_other w9 ⟨ob,1,none⟩ (n0+1) (.slice A9 (l.length+1) c9) (by show n0+1≠ob;omega)).trans hrz9
  have hz10:mid≤(w9.setCell ⟨ob,1,none⟩ (.slice A9 (l.length+1) c9)).heap.size:=by simp [World.setCell];omega
  obtain⟨_,o1,of⟩:=blk2 hro9
  clear hown9 hg9 hat9 hkeep9 HRD
  go_upto_region 18 with (fail)
  generalize w9.setCell ⟨ob,1,none⟩ (.slice A9 (l.length+1) c9)=w10 at hO9 hbw9 hI9 hro10 hrz10 hz10 ⊢
  clear o0 o1 of hro9 hrz9
  obtain⟨o0,o1,_⟩:=blk2 hro10
  obtain⟨q0,q1,qf⟩:=blk2 hrz10
  go_wp2_with fail
  have hz:=blk2_set hrz10 (.slice B im.length vc) (.slice A9 (l.length+1) c9)
  have hbe:=((hbw9.setCell (p:=⟨n0+1,0,none⟩) (by show n0≤n0+1;omega) (.slice B im.length vc)).setCell (p:=⟨n0+1,1,none⟩) (by show n0≤n0+1;omega) (.slice A9 (l.length+1) c9))
  have hse:=(((show SnRet im (l++[(num,tm,[])]) B vc A9 c9 mid w5.heap.size w10 from ⟨k1,k2,k3,hz10,hI9.out,by have:=hO9.out.var (X':=fun _=>False) (fun g hg=>hg.elim);simpa using this⟩).set (p:=⟨n0+1,0,none⟩) (by show n0+1<w5.heap.size;omega) (.slice B im.length vc)).set (p:=⟨n0+1,1,none⟩) (by show n0+1<w5.heap.size;omega) (.slice A9 (l.length+1) c9))
  change bodyPost _ _ _ _ _ ((w10.setCell ⟨(n0+1),0,none⟩ (.slice B im.length vc)).setCell ⟨(n0+1),1,none⟩ (.slice A9 (l.length+1) c9))
  generalize (w10.setCell ⟨(n0+1),0,none⟩ (.slice B im.length vc)).setCell ⟨(n0+1),1,none⟩ (.slice A9 (l.length+1) c9)=W3 at hz hbe hse ⊢
  obtain⟨z0,z1,_⟩:=blk2 hz
  refine bodyPost_ret (v := .tuple #[.agg #[(.slice B im.length vc),(.slice A9 (l.length+1) c9)],.int .i64 0]) ?_ rfl ?_
  ·simp [results,Tryz.results86,Tryz.f86,go_sem,z0,z1]
  rw [hE.out,hS.out]
  exact⟨B,vc,A9,c9,mid,by simp,hse.low (by omega),by rw [hn0];exact hbe⟩
 ·have hg0:decide (0<l.length)=true:=decide_eq_true (by omega)
  have hlt:l.length - 1<l.length:=by omega
  obtain⟨b,off,Dx,dx,rfl,hb,g0,g1,g2,y1,y2,y3,y4,y5⟩:=(H2.out w2 (by rw [hn0];exact hbw2)).snp hlt
  clear y1 y2 y3 y4 y5
  have hlst:l.getLast? = some (l[l.length - 1]):=by rw [List.getLast?_eq_getElem?,List.getElem?_eq_getElem hlt]
  have hln0:lastN l=(l[l.length - 1]).1:=by rw [lastN,hlst];rfl
  have hlt0:lastT l=(l[l.length - 1]).2.1:=by rw [lastT,hlst];rfl
  obtain⟨x,hx⟩:∃ x,l[l.length - 1]=x:=⟨_,rfl⟩
  rw [hx] at g0 g1 g2 hln0 hlt0
  obtain⟨ln,lt,sv⟩:=x
  simp only at g0 g1 g2 hln0 hlt0
  have hln:Hid (lastN l=ln):=hln0
  have hlt_:Hid (lastT l=lt):=hlt0
  have e4:((l.length:Int) - 1).toNat=l.length - 1:=by omega
  have e5:(1:Int)≤l.length:=by omega
  obtain⟨z0,z1,z2,zf⟩:=blk3 hr2
  clear hln0 hlt0 hx hlst hlt
  go_upto_region 8 with (fail)
  have hrl3:=blk3_all36 hr2 (.int .i64 ln) (.int .i64 lt) (.slice Dx sv.length dx)
  have hne:∀ g,g≠lb→(((w2.setCell ⟨lb,0,none⟩ (.int .i64 ln)).setCell ⟨lb,1,none⟩ (.int .i64 lt)).setCell ⟨lb,2,none⟩ (.slice Dx sv.length dx)).heap[g]? = w2.heap[g]? := fun g hg=>(heap_setCell_other _ _ _ _ hg).trans ((heap_setCell_other _ _ _ _ hg).trans (heap_setCell_other _ _ _ _ hg))
  have hrz3:=(hne (n0+1) (by omega)).trans hrz2
  have hrp3:=(hne n0 (by omega)).trans hrp2
  have hbw3:Below n0 w (((w2.setCell ⟨lb,0,none⟩ (.int .i64 ln)).setCell ⟨lb,1,none⟩ (.int .i64 lt)).setCell ⟨lb,2,none⟩ (.slice Dx sv.length dx)):=((hbw2.setCell (p:=⟨lb,0,none⟩) (by show n0≤lb;omega) _).setCell (p:=⟨lb,1,none⟩) (by show n0≤lb;omega) _).setCell (p:=⟨lb,2,none⟩) (by show n0≤lb;omega) _
  have hs3:lb<(((w2.setCell ⟨lb,0,none⟩ (.int .i64 ln)).setCell ⟨lb,1,none⟩ (.int .i64 lt)).setCell ⟨lb,2,none⟩ (.slice Dx sv.length dx)).heap.size:=by simp [World.setCell];omega
  generalize (((w2.setCell ⟨lb,0,none⟩ (.int .i64 ln)).setCell ⟨lb,1,none⟩ (.int .i64 lt)).setCell ⟨lb,2,none⟩ (.slice Dx sv.length dx))=w3 at hrl3 hrz3 hrp3 hbw3 hs3 ⊢
  have HCC:Hid (∀ W,Below w3.heap.size w3 W→W.cell? ⟨n0,0,none⟩=some (.slice A im.length c)∧W.cell? ⟨n0,1,none⟩=some (.slice (some ⟨b,off,none⟩) l.length c2)):=fun W hb=>by
   obtain⟨a,b,_⟩:=blk2 ((hb.block n0 (by omega)).trans hrp3)
   exact⟨a,b⟩
  obtain⟨A2,hA2⟩:∃ A2,(some ⟨b,off,none⟩:Option Addr)=A2:=⟨_,rfl⟩
  rw [hA2] at H2 HCC ⊢
  clear h0 c0 c1 hr2 hrz2 hrp2 hbw2 hs2 hne z0 z1 z2 zf g0 g1 g2 e4 e5 hA2 hrp3
  obtain⟨l0,l1,_,_⟩:=blk3 hrl3
  obtain⟨q1,hq1⟩:∃ q,Hid (inT num=q):=⟨_,rfl⟩
  have HI1:=Lib.hid (inT_any num w3 q1 hq1.out)
  go_wp2_with fail
  refine HI1.out.mono ?_
  rintro e w4 ⟨rfl,rfl⟩
  clear HI1
  have hTE:Hid (takeE (im,l) num tm=if inT num=false then 2 else if num≤ln then 8 else if inT tm=false∨tm<lt then 24 else if 1024≤l.length then 11 else 0):=by rw [Hid,takeE,HOK.out,if_neg (by decide),hln.out,hlt_.out]
  cases q1 with
  | false =>
    have hE:Hid (takeE (im,l) num tm=2):=(by rw [Hid,hTE.out,if_pos hq1.out])
    have hS:Hid (takeS (im,l) num tm=zSns):=by rw [Hid,takeS,if_neg (by rw [hE.out];decide)]
    obtain⟨q0,q1,qf⟩:=blk2 hrz3
    go_wp2_with fail
    have hz:=blk2_set hrz3 (.slice none 0 0) (.slice none 0 0)
    have hbe:=((hbw3.setCell (p:=⟨n0+1,0,none⟩) (by show n0≤n0+1;omega) (.slice none 0 0)).setCell (p:=⟨n0+1,1,none⟩) (by show n0≤n0+1;omega) (.slice none 0 0))
    have hse:=(SnRet.zero (w:=(w4.setCell ⟨n0+1,0,none⟩ (.slice none 0 0)).setCell ⟨n0+1,1,none⟩ (.slice none 0 0)) (lo:=n0) (by simp [World.setCell];omega))
    change bodyPost _ _ _ _ _ ((w4.setCell ⟨(n0+1),0,none⟩ (.slice none 0 0)).setCell ⟨(n0+1),1,none⟩ (.slice none 0 0))
    generalize (w4.setCell ⟨(n0+1),0,none⟩ (.slice none 0 0)).setCell ⟨(n0+1),1,none⟩ (.slice none 0 0)=W3 at hz hbe hse ⊢
    obtain⟨z0,z1,_⟩:=blk2 hz
    refine bodyPost_ret (v := .tuple #[.agg #[(.slice none 0 0),(.slice none 0 0)],.int .i64 2]) ?_ rfl ?_
    ·simp [results,Tryz.results86,Tryz.f86,go_sem,z0,z1]
    rw [hE.out,hS.out]
    exact⟨none,0,none,0,n0,rfl,by rw [hn0];exact hse,by rw [hn0];exact hbe⟩
  | true =>
  by_cases hnl:num≤ln
  case pos =>
   have hE:Hid (takeE (im,l) num tm=8):=(by rw [Hid,hTE.out,if_neg (by rw [hq1.out];decide),if_pos (by omega)])
   have hS:Hid (takeS (im,l) num tm=zSns):=by rw [Hid,takeS,if_neg (by rw [hE.out];decide)]
   obtain⟨q0,q1,qf⟩:=blk2 hrz3
   go_wp2_with fail
   have hz:=blk2_set hrz3 (.slice none 0 0) (.slice none 0 0)
   have hbe:=((hbw3.setCell (p:=⟨n0+1,0,none⟩) (by show n0≤n0+1;omega) (.slice none 0 0)).setCell (p:=⟨n0+1,1,none⟩) (by show n0≤n0+1;omega) (.slice none 0 0))
   have hse:=(SnRet.zero (w:=(w4.setCell ⟨n0+1,0,none⟩ (.slice none 0 0)).setCell ⟨n0+1,1,none⟩ (.slice none 0 0)) (lo:=n0) (by simp [World.setCell];omega))
   change bodyPost _ _ _ _ _ ((w4.setCell ⟨(n0+1),0,none⟩ (.slice none 0 0)).setCell ⟨(n0+1),1,none⟩ (.slice none 0 0))
   generalize (w4.setCell ⟨(n0+1),0,none⟩ (.slice none 0 0)).setCell ⟨(n0+1),1,none⟩ (.slice none 0 0)=W3 at hz hbe hse ⊢
   obtain⟨z0,z1,_⟩:=blk2 hz
   refine bodyPost_ret (v := .tuple #[.agg #[(.slice none 0 0),(.slice none 0 0)],.int .i64 8]) ?_ rfl ?_
   ·simp [results,Tryz.results86,Tryz.f86,go_sem,z0,z1]
   rw [hE.out,hS.out]
   exact⟨none,0,none,0,n0,rfl,by rw [hn0];exact hse,by rw [hn0];exact hbe⟩
  have hnl':decide (num≤ln)=false:=decide_eq_false hnl
  have hnl2:Hid (¬ num≤ln):=hnl
  obtain⟨q2,hq2⟩:∃ q,Hid (inT tm=q):=⟨_,rfl⟩
  have HI2:=Lib.hid (inT_any tm w4 q2 hq2.out)
  clear hnl
  go_wp2_with fail
  refine HI2.out.mono ?_
  rintro e w5 ⟨rfl,rfl⟩
  clear HI2
  cases q2 with
  | false =>
    have hE:Hid (takeE (im,l) num tm=24):=(by rw [Hid,hTE.out,if_neg (by rw [hq1.out];decide),if_neg (by have:=hnl2.out;omega),if_pos (Or.inl hq2.out)])
    have hS:Hid (takeS (im,l) num tm=zSns):=by rw [Hid,takeS,if_neg (by rw [hE.out];decide)]
    obtain⟨q0,q1,qf⟩:=blk2 hrz3
    go_wp2_with fail
    have hz:=blk2_set hrz3 (.slice none 0 0) (.slice none 0 0)
    have hbe:=((hbw3.setCell (p:=⟨n0+1,0,none⟩) (by show n0≤n0+1;omega) (.slice none 0 0)).setCell (p:=⟨n0+1,1,none⟩) (by show n0≤n0+1;omega) (.slice none 0 0))
    have hse:=(SnRet.zero (w:=(w5.setCell ⟨n0+1,0,none⟩ (.slice none 0 0)).setCell ⟨n0+1,1,none⟩ (.slice none 0 0)) (lo:=n0) (by simp [World.setCell];omega))
    change bodyPost _ _ _ _ _ ((w5.setCell ⟨(n0+1),0,none⟩ (.slice none 0 0)).setCell ⟨(n0+1),1,none⟩ (.slice none 0 0))
    generalize (w5.setCell ⟨(n0+1),0,none⟩ (.slice none 0 0)).setCell ⟨(n0+1),1,none⟩ (.slice none 0 0)=W3 at hz hbe hse ⊢
    obtain⟨z0,z1,_⟩:=blk2 hz
    refine bodyPost_ret (v := .tuple #[.agg #[(.slice none 0 0),(.slice none 0 0)],.int .i64 24]) ?_ rfl ?_
    ·simp [results,Tryz.results86,Tryz.f86,go_sem,z0,z1]
    rw [hE.out,hS.out]
    exact⟨none,0,none,0,n0,rfl,by rw [hn0];exact hse,by rw [hn0];exact hbe⟩
  | true =>
  by_cases htl:tm<lt
  case pos =>
   have hE:Hid (takeE (im,l) num tm=24):=(by rw [Hid,hTE.out,if_neg (by rw [hq1.out];decide),if_neg (by have:=hnl2.out;omega),if_pos (Or.inr (by omega))])
   have hS:Hid (takeS (im,l) num tm=zSns):=by rw [Hid,takeS,if_neg (by rw [hE.out];decide)]
   obtain⟨q0,q1,qf⟩:=blk2 hrz3
   go_wp2_with fail
   have hz:=blk2_set hrz3 (.slice none 0 0) (.slice none 0 0)
   have hbe:=((hbw3.setCell (p:=⟨n0+1,0,none⟩) (by show n0≤n0+1;omega) (.slice none 0 0)).setCell (p:=⟨n0+1,1,none⟩) (by show n0≤n0+1;omega) (.slice none 0 0))
   have hse:=(SnRet.zero (w:=(w5.setCell ⟨n0+1,0,none⟩ (.slice none 0 0)).setCell ⟨n0+1,1,none⟩ (.slice none 0 0)) (lo:=n0) (by simp [World.setCell];omega))
   change bodyPost _ _ _ _ _ ((w5.setCell ⟨(n0+1),0,none⟩ (.slice none 0 0)).setCell ⟨(n0+1),1,none⟩ (.slice none 0 0))
   generalize (w5.setCell ⟨(n0+1),0,none⟩ (.slice none 0 0)).setCell ⟨(n0+1),1,none⟩ (.slice none 0 0)=W3 at hz hbe hse ⊢
   obtain⟨z0,z1,_⟩:=blk2 hz
   refine bodyPost_ret (v := .tuple #[.agg #[(.slice none 0 0),(.slice none 0 0)],.int .i64 24]) ?_ rfl ?_
   ·simp [results,Tryz.results86,Tryz.f86,go_sem,z0,z1]
   rw [hE.out,hS.out]
   exact⟨none,0,none,0,n0,rfl,by rw [hn0];exact hse,by rw [hn0];exact hbe⟩
  have htl':decide (tm<lt)=false:=decide_eq_false htl
  have htl2:Hid (¬ (inT tm=false∨tm<lt)):=by rw [Hid,hq2.out];simp;omega
  clear htl
  obtain⟨c0,c1⟩:=HCC.out w5 (Below.refl _ _)
  by_cases hfl:(1024:Int)≤l.length
  case pos =>
   have hE:Hid (takeE (im,l) num tm=11):=(by rw [Hid,hTE.out,if_neg (by rw [hq1.out];decide),if_neg (by have:=hnl2.out;omega),if_neg (by exact htl2.out),if_pos (by omega)])
   have hS:Hid (takeS (im,l) num tm=zSns):=by rw [Hid,takeS,if_neg (by rw [hE.out];decide)]
   obtain⟨q0,q1,qf⟩:=blk2 hrz3
   go_wp2_with fail
   have hz:=blk2_set hrz3 (.slice none 0 0) (.slice none 0 0)
   have hbe:=((hbw3.setCell (p:=⟨n0+1,0,none⟩) (by show n0≤n0+1;omega) (.slice none 0 0)).setCell (p:=⟨n0+1,1,none⟩) (by show n0≤n0+1;omega) (.slice none 0 0))
   have hse:=(SnRet.zero (w:=(w5.setCell ⟨n0+1,0,none⟩ (.slice none 0 0)).setCell ⟨n0+1,1,none⟩ (.slice none 0 0)) (lo:=n0) (by simp [World.setCell];omega))
   change bodyPost _ _ _ _ _ ((w5.setCell ⟨(n0+1),0,none⟩ (.slice none 0 0)).setCell ⟨(n0+1),1,none⟩ (.slice none 0 0))
   generalize (w5.setCell ⟨(n0+1),0,none⟩ (.slice none 0 0)).setCell ⟨(n0+1),1,none⟩ (.slice none 0 0)=W3 at hz hbe hse ⊢
   obtain⟨z0,z1,_⟩:=blk2 hz
   refine bodyPost_ret (v := .tuple #[.agg #[(.slice none 0 0),(.slice none 0 0)],.int .i64 11]) ?_ rfl ?_
   ·simp [results,Tryz.results86,Tryz.f86,go_sem,z0,z1]
   rw [hE.out,hS.out]
   exact⟨none,0,none,0,n0,rfl,by rw [hn0];exact hse,by rw [hn0];exact hbe⟩
  have hE:Hid (takeE (im,l) num tm=0):=by rw [Hid,hTE.out,if_neg (by rw [hq1.out];decide),if_neg (by have:=hnl2.out;omega),if_neg (by exact htl2.out),if_neg (by omega)]
  have hS:Hid (takeS (im,l) num tm=(im,l++[(num,tm,[])])):=by rw [Hid,takeS,if_pos hE.out]
  have HCP:=Lib.hid (copied36_any A A2 c c2 im.length l.length im l w5 rfl rfl ((H1.out w5 (by rw [hn0];exact hbw3)).more (fun g hg=>by have:g<w.heap.size:=hg;show g<w5.heap.size;omega)) ((H2.out w5 (by rw [hn0];exact hbw3)).more (fun g hg=>by have:g<w.heap.size:=hg;show g<w5.heap.size;omega)) HLM.out)
  clear hnl2 htl2 hq1 hq2 hTE
  go_wp2_with fail
  refine HCP.out.mono ?_
  rintro e w6 ⟨B,vc,D,dc,mid,rfl,hsn,hb6⟩
  clear HCP c0 c1 l0 l1 hnl' htl'
  go_upto_region 17 with (fail)
  obtain⟨ob,hob⟩:∃ ob,w6.heap.size=ob:=⟨_,rfl⟩
  obtain⟨w7,hw7⟩:∃ w7,w6.alloc (.cells #[.slice B im.length vc,.slice D l.length dc] 26)=w7:=⟨_,rfl⟩
  rw [hw7,hob]
  have hb7:Below w6.heap.size w6 w7:=by rw [← hw7];exact ext_alloc (Below.refl _ _)
  have hr7:w7.heap[ob]? = some (.cells #[.slice B im.length vc,.slice D l.length dc] 26 (0,0)):=by rw [← hw7, ← hob];exact heap_alloc_new _ _
  have hs7:ob<w7.heap.size:=(Array.getElem?_eq_some_iff.1 hr7).1
  have hz6:=hb6.size
  have hsn7:=hsn.below hb7
  obtain⟨k1,k2,k3,k4,k5,k6⟩:=hsn
  have hO7:Hid (OwnX (fun g=>g=ob) encSnp w7 mid 158 (.slice D l.length dc) l):=(k6.var (X':=fun g=>g=ob) (fun g hg=>Or.inr (by omega))).below hb7
  have hO8:=Lib.hid (hO7.out.alloc (.cells #[.int .i64 num,.int .i64 tm,.slice none 0 0] 158))
  have hO8o:=Lib.hid hO8.out.1
  have hlo:=Lib.hid k6.lt
  have hHI:=Lib.hid k5
  have HRD:Hid (encSnp.rd (w7.alloc (.cells #[.int .i64 num,.int .i64 tm,.slice none 0 0] 158)) (fun g=>Nw mid (w7.alloc (.cells #[.int .i64 num,.int .i64 tm,.slice none 0 0] 158)).heap.size g∧¬ (fun g=>g=ob) g∧(Value.slice D l.length dc).ownBlock≠some g) [.int .i64 num,.int .i64 tm,.slice none 0 0] (num,tm,[])):=snp_mk (x:=(num,tm,[])) ⟨hnum.out.1,hnum.out.2⟩ ⟨htm.out.1,htm.out.2⟩ (by simp) (by simp) SlAt.nil_
  have hrz7:w7.heap[n0+1]? = some (.cells #[.slice none 0 0,.slice none 0 0] 26 (0,0)):=(hb7.block _ (by omega)).trans ((hb6.block _ (by omega)).trans hrz3)
  have hbw7:Below n0 w w7:=(hbw3.trans (hb6.mono (by omega))).trans (hb7.mono (by omega))
  obtain⟨o0,o1,_⟩:=blk2 hr7
  have hz7:=hb7.size
  clear k5 k6 hw7 hsn7
  go_wp2_with (at_builtin;refine Hid.out ?_)
  change wpList _ _ _ _ _ _
  refine wpList_app1 (E:=encSnp) tySnps rfl _ _ rfl rfl hO8o.out (num,tm,[]) [.int .i64 num,.int .i64 tm,.slice none 0 0] rfl HRD.out (heap_alloc_new _ _) (fun _ h=>h.1.2) (by simp;omega) (by unfold maxLen;omega) (by omega) ?_
  intro A9 c9 w9 hown9 hg9 hat9
  have hz9:=hg9.size
  rw [World.size_alloc] at hz9
  have hkeep9:∀ g,g<w7.heap.size→(Value.slice D l.length dc).ownBlock≠some g→w9.heap[g]? = w7.heap[g]? := fun g hg hne=>(hg9.block g (by rw [World.size_alloc];omega) (fun e=>hne e.symm)).trans (Below.heap_alloc _ _ _ hg)
  have hro9:=(hkeep9 ob hs7 (fun e=>by have:=(hlo.out ob e).2;omega)).trans hr7
  have hrz9:=(hkeep9 (n0+1) (by omega) (fun e=>by have:=(hlo.out _ e).1;omega)).trans hrz7
  have hO9:Hid (OwnX (fun g=>g=ob) encSnp (w9.setCell ⟨ob,1,none⟩ (.slice A9 (l.length+1) c9)) mid 158 (.slice A9 (l.length+1) c9) (l++[(num,tm,[])])):=(hO8.out.app hown9 hg9 hat9 (fun g hg=>by rw [hg];simp;omega)).set (p:=⟨ob,1,none⟩) rfl _
  have hbw9:Below n0 w (w9.setCell ⟨ob,1,none⟩ (.slice A9 (l.length+1) c9)):=((hbw7.alloc (by omega) (.cells #[.int .i64 num,.int .i64 tm,.slice none 0 0] 158)).grown hg9 (by simp;omega) (fun g h=>by have:=(hlo.out g h).1;omega)).setCell (p:=⟨ob,1,none⟩) (by show n0≤ob;omega) _
  have hI9:Hid (SlAt (encSl encSec) (w9.setCell ⟨ob,1,none⟩ (.slice A9 (l.length+1) c9)) (Nw w5.heap.size mid) B im):=hHI.out.blk (fun g hg=>(heap_setCell_other _ _ _ _ (by have:=hg.2;show g≠ob;omega)).trans ((hkeep9 g (by have:=hg.2;omega) (fun e=>by have:=(hlo.out g e).1;have:=hg.2;omega)).trans (hb7.block g (by have:=hg.2;omega))))
  have hro10:=blk2_1 hro9 (.slice A9 (l.length+1) c9)
  have hrz10:=(heap_setCell_other w9 ⟨ob,1,none⟩ (n0+1) (.slice A9 (l.length+1) c9) (by show n0+1≠ob;omega)).trans hrz9
  have hz10:mid≤(w9.setCell ⟨ob,1,none⟩ (.slice A9 (l.length+1) c9)).heap.size:=by simp [World.setCell];omega
  obtain⟨_,o1,of⟩:=blk2 hro9
  clear hown9 hg9 hat9 hkeep9 HRD
  go_upto_region 18 with (fail)
  generalize w9.setCell ⟨ob,1,none⟩ (.slice A9 (l.length+1) c9)=w10 at hO9 hbw9 hI9 hro10 hrz10 hz10 ⊢
  clear o0 o1 of hro9 hrz9
  obtain⟨o0,o1,_⟩:=blk2 hro10
  obtain⟨q0,q1,qf⟩:=blk2 hrz10
  go_wp2_with fail
  have hz:=blk2_set hrz10 (.slice B im.length vc) (.slice A9 (l.length+1) c9)
  have hbe:=((hbw9.setCell (p:=⟨n0+1,0,none⟩) (by show n0≤n0+1;omega) (.slice B im.length vc)).setCell (p:=⟨n0+1,1,none⟩) (by show n0≤n0+1;omega) (.slice A9 (l.length+1) c9))
  have hse:=(((show SnRet im (l++[(num,tm,[])]) B vc A9 c9 mid w5.heap.size w10 from ⟨k1,k2,k3,hz10,hI9.out,by have:=hO9.out.var (X':=fun _=>False) (fun g hg=>hg.elim);simpa using this⟩).set (p:=⟨n0+1,0,none⟩) (by show n0+1<w5.heap.size;omega) (.slice B im.length vc)).set (p:=⟨n0+1,1,none⟩) (by show n0+1<w5.heap.size;omega) (.slice A9 (l.length+1) c9))
  change bodyPost _ _ _ _ _ ((w10.setCell ⟨(n0+1),0,none⟩ (.slice B im.length vc)).setCell ⟨(n0+1),1,none⟩ (.slice A9 (l.length+1) c9))
  generalize (w10.setCell ⟨(n0+1),0,none⟩ (.slice B im.length vc)).setCell ⟨(n0+1),1,none⟩ (.slice A9 (l.length+1) c9)=W3 at hz hbe hse ⊢
  obtain⟨z0,z1,_⟩:=blk2 hz
  refine bodyPost_ret (v := .tuple #[.agg #[(.slice B im.length vc),(.slice A9 (l.length+1) c9)],.int .i64 0]) ?_ rfl ?_
  ·simp [results,Tryz.results86,Tryz.f86,go_sem,z0,z1]
  rw [hE.out,hS.out]
  exact⟨B,vc,A9,c9,mid,by simp,hse.low (by omega),by rw [hn0];exact hbe⟩
end Go.Proofs.YtgndgkjefgjamaaGreat
namespace Go.Proofs.YtgndgkjefgjamaaGreat
open Go.RowKit Go.Shelf
attribute [local go_sem] Oper.semAt_some

def idxAt {α:Type} (P:α→Bool):List α→Int
 | [] => -1
 | x :: l=>if P x then 0 else if 0≤idxAt P l then idxAt P l+1 else -1
theorem idxAt_cases {α:Type} (P:α→Bool):∀ l:List α,idxAt P l = -1∨0≤idxAt P l
 | []=>Or.inl rfl
 | x :: l=>by
   unfold idxAt
   split
   ·right;omega
   ·split
    ·right;omega
    ·left;rfl
theorem idxAt_drop {α:Type} {P:α→Bool} {l:List α} {k:Nat} (h:k<l.length):idxAt P (l.drop k)=if P l[k] then 0 else if 0≤idxAt P (l.drop (k+1)) then idxAt P (l.drop (k+1))+1 else -1:=by
 rw [List.drop_eq_getElem_cons h];rfl
theorem idxAt_find {α:Type} (P:α→Bool):∀ l:List α,idxAt P l=match l.findIdx? P with | some k=>(k:Int) | none => -1
 | []=>rfl
 | x :: l=>by
   rw [List.findIdx?_cons]
   unfold idxAt
   by_cases h:P x=true
   ·simp [h]
   ·rw [if_neg h,idxAt_find P l]
    cases hq:l.findIdx? P <;> simp [h]
def numIs (n:Int) (x:Snp):Bool:=x.1==n
theorem numIs_any (n:Int) (nb:Nat) (x:Snp) (D:Option Addr) (d m:Nat) (w:World) (q:Bool) (hm:x.2.2.length=m) (hq:numIs n x=q) (hc:w.cell? ⟨nb,0,none⟩=some (.int .i64 n)) (hnb:nb<w.heap.size) :
  Calls Tryz.prog 140 #[.agg #[.int .i64 x.1,.int .i64 x.2.1,.slice D m d],.pointer (some ⟨nb,0,none⟩)] w fun e w'=>e = .returned (.bool q)∧Below w.heap.size w w':=by
 have HQ:=Lib.hid hq;clear hq
 obtain⟨x1,x2,x3⟩:=x
 obtain⟨W0,hW0⟩:∃ W0,w.alloc (.cells #[.int .i64 x1,.int .i64 x2,.slice D m d] 158)=W0:=⟨_,rfl⟩
 have hB0:Below w.heap.size w W0:=by rw [← hW0];exact ext_alloc (Below.refl _ _)
 have hr0:W0.heap[w.heap.size]? = some (.cells #[.int .i64 x1,.int .i64 x2,.slice D m d] 158 (0,0)):=by rw [← hW0];exact heap_alloc_new _ _
 have hc0:=(hB0.cell (p:=⟨nb,0,none⟩) hnb).trans hc
 obtain⟨r0,_⟩:=blk3 hr0
 have hqq:Hid ((x1==n)=q):=HQ.out
 clear hr0
 go_enter Tryz.func140,Tryz.ntmps140
 go_wp2
 go_ret
 exact⟨ret_bool hqq.out,hB0⟩
set_option maxHeartbeats 1000000 in
theorem numAt_any (A:Option Addr) (c n:Nat) (l:List _) (w:World) (hn:l.length=n) (h1:SlAt encSnp w (Bl w.heap.size) A l) (hl:n≤9223372036854775807) (num:Int) (nb:Nat) (hnb:w.cell? ⟨nb,0,none⟩=some (.int .i64 num)) (hnl:nb<w.heap.size) (r:Int) (hr:idxAt (numIs num) l=r) :
  Calls Tryz.prog 139 #[.slice A n c,.func (.func 140) #[] #[.pointer (some ⟨nb,0,none⟩)]] w fun e w'=>e = .returned (.int .i64 r)∧Below w.heap.size w w':=by
 subst hn
 have HR:=Lib.hid hr;clear hr
 have H1:Hid (∀ w',Below w.heap.size w w'→SlAt encSnp w' (Bl w.heap.size) A l):=fun w' hb=>h1.below hb
 clear h1
 have HNB:Hid (∀ W,Below w.heap.size w W→W.cell? ⟨nb,0,none⟩=some (.int .i64 num)):=fun W hb=>(hb.cell (p:=⟨nb,0,none⟩) hnl).trans hnb;clear hnb
 go_enter Tryz.func139,Tryz.ntmps139
 go_wp2
 go_loopw [8] (fun i wr=>∃ k:Nat,k≤l.length∧i = .int .i64 k∧Below w.heap.size w wr∧Hid (idxAt (numIs num) l=(idxAt (numIs num) (l.drop k))+(if 0≤idxAt (numIs num) (l.drop k) then (k:Int) else 0))) (fun i _=>l.length - (intOf i).toNat)
 case atStart=>exact⟨0,by omega,rfl,Below.refl _ _,by simp [Hid]⟩
 case round =>
  obtain⟨k,hk,rfl,hB,hz⟩:=hrel
  by_cases hlt:k<l.length
  ·have hnn:(0:Int)≤k:=by omega
   have hki:(k:Int)<l.length:=by omega
   have hszr:=hB.size
   have hst:=idxAt_drop (P:=(numIs num)) hlt
   obtain⟨b,off,D,d,rfl,hb,g0,g1,g2,_,_,_,_,_⟩:=(H1.out wr hB).snp hlt
   obtain⟨q,hq⟩:∃ q,Hid ((numIs num) l[k]=q):=⟨(numIs num) l[k],Lib.hid rfl⟩
   rw [hq.out] at hst
   have HST:=Lib.hid hst
   clear hst
   go_wp2_with fail
   refine (numIs_any num nb l[k] D d l[k].2.2.length wr q rfl hq.out (HNB.out wr hB) (by omega)).mono ?_
   rintro e w1 ⟨rfl,hb1⟩;clear g0 g1 g2
   have hB1:Below w.heap.size w w1:=ext_trans hB hb1
   cases q with
   | true =>
     go_wp2
     go_ret
     refine⟨ret_int ?_,hB1⟩
     rw [← HR.out,hz.out,HST.out];simp
   | false =>
     go_wp2
     go_roundw
     case rel =>
      refine⟨k+1,hlt,by go_num,hB1, ?_⟩
      rw [Hid,hz.out,HST.out]
      rw [if_neg (by decide:¬ false=true)]
      rcases idxAt_cases (numIs num) (l.drop (k+1)) with hp | hp
      ·rw [hp];simp
      ·rw [if_pos hp,if_pos hp,if_pos (by omega)];omega
     case measure=>simp [intOf];omega
  ·have hkk:k=l.length:=by omega
   subst hkk
   go_wp2
   go_ret
   refine⟨ret_int ?_,hB⟩
   rw [← HR.out,hz.out,List.drop_length];simp [idxAt]
set_option maxHeartbeats 1000000 in
theorem snFind_any (A A2:Option Addr) (c c2 n m:Nat) (im:Img) (l:List Snp) (num:Int) (w:World) (hn:im.length=n) (hm:l.length=m) (h1:SlAt (encSl encSec) w (Bl w.heap.size) A im) (h2:SlAt encSnp w (Bl w.heap.size) A2 l) (hl1:n≤100000) (hl2:m≤9223372036854775807) :
  Calls Tryz.prog 91 #[.agg #[.slice A n c,.slice A2 m c2],.int .i64 num] w fun e w'=>e = .returned (.tuple #[.int .i64 (findN (im,l) num:Nat),.int .i64 (findE (im,l) num)])∧Below w.heap.size w w':=by
 subst hn hm
 have H1:Hid (∀ w',Below w.heap.size w w'→SlAt (encSl encSec) w' (Bl w.heap.size) A im):=fun w' hb=>h1.below hb
 have H2:Hid (∀ w',Below w.heap.size w w'→SlAt encSnp w' (Bl w.heap.size) A2 l):=fun w' hb=>h2.below hb
 clear h1 h2
 obtain⟨W0,hW0⟩:∃ W0,(w.alloc (.cells #[.slice A im.length c,.slice A2 l.length c2] 26)).alloc (.cells #[.int .i64 num] 3)=W0:=⟨_,rfl⟩
 have hB0:Below w.heap.size w W0:=by rw [← hW0];exact ext_alloc (ext_alloc (Below.refl _ _))
 have hs0:w.heap.size+1<W0.heap.size:=by rw [← hW0];simp
 have hr0:W0.heap[w.heap.size]? = some (.cells #[.slice A im.length c,.slice A2 l.length c2] 26 (0,0)):=by rw [← hW0];exact (Below.heap_alloc _ _ _ (by simp)).trans (heap_alloc_new _ _)
 have hr1:W0.heap[w.heap.size+1]? = some (.cells #[.int .i64 num] 3 (0,0)):=by rw [← hW0];exact heap_new2 _ _ _
 obtain⟨r,hr⟩:∃ r,Hid (snE (im,l)=r):=⟨_,rfl⟩
 have HCK:=Lib.hid (snCheck_any A A2 c c2 im.length l.length im l r W0 rfl rfl hr.out ((H1.out W0 hB0).more (Bl.mono hB0.size)) ((H2.out W0 hB0).more (Bl.mono hB0.size)) hl1 hl2)
 obtain⟨c0,c1,_⟩:=blk2 hr0
 go_enter Tryz.func91,Tryz.ntmps91
 go_wp2_with fail
 refine HCK.out.mono ?_
 rintro e w1 ⟨rfl,hb1⟩
 have hbw1:Below w.heap.size w w1:=ext_trans hB0 hb1
 have hrp1:=(hb1.block w.heap.size (by omega)).trans hr0
 have hrn1:=(hb1.block (w.heap.size+1) hs0).trans hr1
 have hz1:=hb1.size
 clear HCK hW0 hr0 hr1 c0 c1
 by_cases hx0:r=0
 case neg =>
  have hx0':(r != 0)=true:=by simp [hx0]
  have hE:Hid (findE (im,l) num=r):=by rw [Hid,findE,hr.out,if_pos hx0]
  have hN:Hid (findN (im,l) num=0):=by rw [Hid,findN,if_neg (by rw [hE.out];exact hx0)]
  clear hx0
  go_wp2_with fail
  go_ret2
  rw [hE.out,hN.out]
  exact⟨rfl,hbw1⟩
 have hx0':(r != 0)=false:=by simp [hx0]
 have HOK:Hid (snE (im,l)=0):=by rw [Hid,hr.out,hx0]
 clear hx0 hr
 obtain⟨i,hi⟩:∃ i,Hid (idxAt (numIs num) l=i):=⟨_,rfl⟩
 have hic:=idxAt_cases (numIs num) l
 rw [hi.out] at hic
 have HIX:=Lib.hid (numAt_any A2 c2 l.length l w1 rfl ((H2.out w1 hbw1).more (Bl.mono hbw1.size)) hl2 num (w.heap.size+1) (cell_of_row w1 _ 0 _ _ _ hrn1) (by omega) i hi.out)
 obtain⟨c0,c1,_⟩:=blk2 hrp1
 go_wp2_with fail
 refine HIX.out.mono ?_
 rintro e w2 ⟨rfl,hb2⟩
 have hbw2:Below w.heap.size w w2:=ext_trans hbw1 hb2
 have hfi:=idxAt_find (numIs num) l
 rw [hi.out] at hfi
 clear HIX c0 c1
 cases hq:l.findIdx? (numIs num) with
 | none =>
   rw [hq] at hfi
   have hE:Hid (findE (im,l) num=7):=by
    have:findI l num=none:=hq
    rw [Hid,findE,HOK.out,if_neg (by decide)];show (if (findI l num).isNone=true then (7:Int) else 0)=7;rw [this];rfl
   have hN:Hid (findN (im,l) num=0):=by rw [Hid,findN,if_neg (by rw [hE.out];decide)]
   simp only at hfi
   subst hfi
   clear hic hq
   go_wp2_with fail
   go_ret2
   rw [hE.out,hN.out]
   exact⟨rfl,hbw2⟩
 | some k =>
   rw [hq] at hfi
   have hE:Hid (findE (im,l) num=0):=by
    have:findI l num=some k:=hq
    rw [Hid,findE,HOK.out,if_neg (by decide)];show (if (findI l num).isNone=true then (7:Int) else 0)=0;rw [this];rfl
   have hN:Hid (findN (im,l) num=k):=by
    have:findI l num=some k:=hq
    rw [Hid,findN,if_pos hE.out];show (findI l num).getD 0=k;rw [this];rfl
   simp only at hfi
   subst hfi
   clear hic hq
   go_wp2_with fail
   go_ret2
   rw [hE.out,hN.out]
   exact⟨rfl,hbw2⟩
end Go.Proofs.YtgndgkjefgjamaaGreat
namespace Go.Proofs.YtgndgkjefgjamaaGreat

def letB (b:Int):Bool:=decide (97≤b∧b≤122∨65≤b∧b≤90)
def nmB (b:Int):Bool:=letB b || decide (48≤b∧b≤57∨b=95∨b=45)
def nmAt (i:Nat) (b:Int):Bool:=if i=0 then letB b else nmB b
def nmTo (s:ByteArray) (k:Nat):Prop:=∀ (i:Nat) (h:i<s.size),i<k→nmAt i (s[i]'h).toNat=true
def nameB (s:ByteArray):Bool:=decide ((1≤s.size∧s.size≤32)∧∀ (i:Nat) (h:i<s.size),nmAt i (s[i]'h).toNat=true)
theorem nameB_true {s:ByteArray} (h1:1≤s.size∧s.size≤32) (h:nmTo s s.size):nameB s=true:=decide_eq_true ⟨h1,fun i hi=>h i hi hi⟩
theorem nameB_len {s:ByteArray} (h:¬ (1≤s.size∧s.size≤32)):nameB s=false:=decide_eq_false fun k=>h k.1
theorem nameB_bad {s:ByteArray} {i:Nat} (h:i<s.size) (hb:nmAt i (s[i]'h).toNat=false):nameB s=false :=
 decide_eq_false fun k=>by have:=k.2 i h;rw [hb] at this;cases this
theorem nmTo_succ {s:ByteArray} {k:Nat} (h:nmTo s k) (hk:k<s.size) (hb:nmAt k (s[k]'hk).toNat=true):nmTo s (k+1):=fun i hi hik=>by
 by_cases e:i=k
 ·subst e;exact hb
 ·exact h i hi (by omega)

abbrev Cln:=ByteArray × Int × List Wr
abbrev Cls:=Sns × List Cln
def isN (nm:ByteArray) (x:Cln):Bool:=decide (x.1=nm)
def isC (n:Int) (x:Cln):Bool:=x.2.1==n
def tkn (l:List Snp) (n:Int):Bool:=l.any (numIs n)
def clnE (s:Sns) (pre:List Cln) (x:Cln):Int:=if nameB x.1=false then 23 else if pre.any (isN x.1)=true then 8 else if tkn s.2 x.2.1=false then 7 else chkS x.2.2 (lens s.1)
def clnsE (s:Sns):List Cln→List Cln→Int
 | _,[]=>0
 | pre,x :: r=>if clnE s pre x≠0 then clnE s pre x else clnsE s (pre++[x]) r
def clE (c:Cls):Int:=if snE c.1≠0 then snE c.1 else if 16<c.2.length then 6 else clnsE c.1 [] c.2
def zCls:Cls:=(zSns,[])
def clNew (s:Sns):Cls:=if snE s=0 then (s,[]) else zCls
def creE (c:Cls) (nm:ByteArray) (n:Int):Int:=if clE c≠0 then clE c else if nameB nm=false then 23 else if c.2.any (isN nm)=true then 8 else if tkn c.1.2 n=false then 7 else if 16≤c.2.length then 6 else 0
def creS (c:Cls) (nm:ByteArray) (n:Int):Cls:=if creE c nm n=0 then (c.1,c.2++[(nm,n,[])]) else zCls
def cfI (l:List Cln) (nm:ByteArray):Option Nat:=l.findIdx? (isN nm)
def cfE (c:Cls) (nm:ByteArray):Int:=if clE c≠0 then clE c else if (cfI c.2 nm).isNone then 7 else 0
def cfN (c:Cls) (nm:ByteArray):Nat:=if cfE c nm=0 then (cfI c.2 nm).getD 0 else 0
def setOv (l:List Cln) (i:Nat) (f:List Wr→List Wr):List Cln:=match l[i]? with
 | none=>l
 | some x=>l.set i (x.1,x.2.1,f x.2.2)
def wrE (c:Cls) (nm:ByteArray) (w:Wr):Int:=if cfE c nm≠0 then cfE c nm else fitsN (lens c.1.1) w
def wrS (c:Cls) (nm:ByteArray) (w:Wr):Cls:=if wrE c nm w=0 then (c.1,setOv c.2 (cfN c nm) fun d=>foldL (d++[w])) else zCls
def cAt (c:Cls) (nm:ByteArray):Cln:=c.2.getD (cfN c nm) (⟨#[]⟩,0,[])
def cIm (c:Cls) (nm:ByteArray):Img:=if cfE c nm=0 then putAll (sImage c.1 (cAt c nm).2.1) (cAt c nm).2.2 else []
def cDel (c:Cls) (nm:ByteArray):Cls:=if cfE c nm=0 then (c.1,c.2.eraseIdx (cfN c nm)) else zCls
def repE (c:Cls) (l:List Wr):Int:=if clE c≠0 then clE c else sApplyE c.1 l
def repS (c:Cls) (l:List Wr):Cls:=if repE c l=0 then (sApply c.1 l,c.2) else zCls
def cTakE (c:Cls) (n t:Int):Int:=if clE c≠0 then clE c else takeE c.1 n t
def cTak (c:Cls) (n t:Int):Cls:=if cTakE c n t=0 then (takeS c.1 n t,c.2) else zCls
def dropE (c:Cls) (n:Int):Int:=if clE c≠0 then clE c else if c.2.any (isC n)=true then 26 else findE c.1 n
def dropS (c:Cls) (n:Int):Cls:=if dropE c n=0 then (sDelete c.1 n,c.2) else zCls
def chgS (c:Cls) (nm:ByteArray):List (List Ext):=if cfE c nm=0 then (List.range c.1.1.length).map fun (v:Nat)=>runsL (secsOf (cAt c nm).2.2 v) else []

theorem clnsE_snoc (s:Sns) (x:Cln):∀ (l pre:List Cln),clnsE s pre (l++[x])=if clnsE s pre l≠0 then clnsE s pre l else clnE s (pre++l) x
 | [],pre=>by by_cases h:clnE s pre x=0 <;> simp [clnsE,h]
 | y :: l,pre=>by
   by_cases h:clnE s pre y=0
   ·have e1:clnsE s pre (y :: l++[x])=clnsE s (pre++[y]) (l++[x]):=by simp [clnsE,h]
    have e2:clnsE s pre (y :: l)=clnsE s (pre++[y]) l:=by simp [clnsE,h]
    rw [e1,e2,clnsE_snoc s x l,List.append_assoc];rfl
   ·simp [clnsE,h]
theorem clnsE_app {s:Sns} {m:List Cln}:∀ {l pre:List Cln},clnsE s pre l≠0→clnsE s pre (l++m)=clnsE s pre l
 | [],pre,h=>by simp [clnsE] at h
 | y :: l,pre,h=>by
   by_cases h1:clnE s pre y=0
   ·have e1:clnsE s pre (y :: l)=clnsE s (pre++[y]) l:=by simp [clnsE,h1]
    have e2:clnsE s pre (y :: l++m)=clnsE s (pre++[y]) (l++m):=by simp [clnsE,h1]
    rw [e1] at h ⊢
    rw [e2,clnsE_app h]
   ·simp [clnsE,h1]
theorem clnsE_step {s:Sns} {l:List Cln} {k:Nat} (h:clnsE s [] (l.take k)=0) (hk:k<l.length):clnsE s [] (l.take (k+1))=clnE s (l.take k) l[k]:=by
 rw [List.take_succ_eq_append_getElem hk,clnsE_snoc,if_neg (by simp [h])];rfl
theorem clnsE_bad {s:Sns} {l:List Cln} {k:Nat} (h:clnsE s [] (l.take (k+1))≠0):clnsE s [] l=clnsE s [] (l.take (k+1)):=by
 conv=>lhs;rw [← List.take_append_drop (k+1) l]
 exact clnsE_app h
theorem clnsE_all {s:Sns} {l:List Cln} (h:clnsE s [] l=0):∀ (k:Nat) (hk:k<l.length),clnE s (l.take k) l[k]=0:=by
 have key:∀ (l pre:List Cln),clnsE s pre l=0→∀ (k:Nat) (hk:k<l.length),clnE s (pre++l.take k) l[k]=0:=by
  intro l
  induction l with
  | nil=>intro pre _ k hk;simp at hk
  | cons y l ih =>
    intro pre h k hk
    have h1:clnE s pre y=0:=by
     by_cases h1:clnE s pre y=0
     ·exact h1
     ·simp [clnsE,h1] at h
    have h2:clnsE s (pre++[y]) l=0:=by simpa [clnsE,h1] using h
    cases k with
    | zero=>simpa using h1
    | succ k =>
      have:=ih _ h2 k (by simpa using hk)
      simpa using this
 exact fun k hk=>by simpa using key l [] h k hk
theorem clnE_ok {s:Sns} {pre:List Cln} {x:Cln} (h:clnE s pre x=0):nameB x.1=true∧pre.any (isN x.1)=false∧tkn s.2 x.2.1=true∧chkS x.2.2 (lens s.1)=0:=by
 unfold clnE at h
 by_cases h1:nameB x.1=false
 ·rw [if_pos h1] at h;simp at h
 ·rw [if_neg h1] at h
  by_cases h2:pre.any (isN x.1)=true
  ·rw [if_pos h2] at h;simp at h
  ·rw [if_neg h2] at h
   by_cases h3:tkn s.2 x.2.1=false
   ·rw [if_pos h3] at h;simp at h
   ·rw [if_neg h3] at h
    exact⟨by simpa using h1,by simpa using h2,by simpa using h3,h⟩
theorem clE_ok {c:Cls} (h:clE c=0):snE c.1=0∧c.2.length≤16∧clnsE c.1 [] c.2=0:=by
 unfold clE at h
 by_cases h1:snE c.1=0
 ·rw [if_neg (by simp [h1])] at h
  by_cases h2:16<c.2.length
  ·rw [if_pos h2] at h;simp at h
  ·rw [if_neg h2] at h;exact⟨h1,by omega,h⟩
 ·rw [if_pos h1] at h;exact absurd h h1
theorem clE_item {c:Cls} (h:clE c=0) {k:Nat} (hk:k<c.2.length):nameB (c.2[k]).1=true∧(c.2.take k).any (isN (c.2[k]).1)=false∧tkn c.1.2 (c.2[k]).2.1=true∧chkS (c.2[k]).2.2 (lens c.1.1)=0 :=
 clnE_ok (clnsE_all (clE_ok h).2.2 k hk)
theorem idx_first {α:Type} {P:α→Bool}:∀ {l:List α} {k:Nat} (hk:k<l.length),P l[k]=true→0≤idxAt P l∧idxAt P l≤k∧((idxAt P l<k)↔(l.take k).any P=true)
 | [],k,hk,_=>by simp at hk
 | x :: l,0,hk,h=>by
   have:P x=true:=h
   simp [idxAt,this]
 | x :: l,k+1,hk,h=>by
   have h':P (l[k]'(by simpa using hk))=true:=h
   obtain⟨a,b,c⟩:=idx_first (by simpa using hk) h'
   unfold idxAt
   by_cases hx:P x=true
   ·rw [if_pos hx]
    refine⟨by omega,by omega, ?_⟩
    simp [hx]
   ·rw [if_neg hx,if_pos a]
    refine⟨by omega,by omega, ?_⟩
    simp only [List.take_succ_cons,List.any_cons,hx,Bool.false_or]
    rw [← c];omega
theorem idxAt_any {α:Type} {P:α→Bool} {l:List α}:decide (0≤idxAt P l)=l.any P:=by
 rw [idxAt_find]
 cases h:l.findIdx? P with
 | none =>
   have:l.any P=false:=by
    rw [List.any_eq_false]
    exact fun x hx=>by simpa using List.findIdx?_eq_none_iff.1 h x hx
   rw [this];simp
 | some k =>
   have:l.any P=true:=by
    obtain⟨hk,h1,_⟩:=List.findIdx?_eq_some_iff_getElem.1 h
    exact List.any_eq_true.2 ⟨l[k],List.getElem_mem _,h1⟩
   rw [this];simp
theorem cfE_ok {c:Cls} {nm:ByteArray} (h:cfE c nm=0):clE c=0∧∃ hk:cfN c nm<c.2.length,(c.2[cfN c nm]).1=nm∧cfI c.2 nm=some (cfN c nm):=by
 have h0:=h
 unfold cfE at h
 by_cases h1:clE c=0
 ·rw [if_neg (by simp [h1])] at h
  refine⟨h1, ?_⟩
  cases hi:cfI c.2 nm with
  | none=>rw [hi] at h;simp at h
  | some k =>
    have e:cfN c nm=k:=by unfold cfN;rw [if_pos h0,hi];rfl
    obtain⟨hk,h2,_⟩:=List.findIdx?_eq_some_iff_getElem.1 (show c.2.findIdx? (isN nm)=some k from hi)
    subst e
    exact⟨hk,of_decide_eq_true h2,rfl⟩
 ·rw [if_pos h1] at h;exact absurd h h1
end Go.Proofs.YtgndgkjefgjamaaGreat
namespace Go.Proofs.YtgndgkjefgjamaaGreat
open Go.RowKit Go.Shelf
attribute [local go_sem] Oper.semAt_some

def encStr:Enc ByteArray where
 size:=1
 rd _ _ cs x:=cs=[.string x]∧x.size≤maxLen
 len h:=by simp [h.1]
 one h:=by simp [h.1,Value.oneCell']
 keep h _ _:=h
def encCln:Enc Cln:=encPair encStr (encPair encInt (encSl encWr))
section
variable {w:World} {S:Nat→Prop} {A:Option Addr}
theorem cln_cs {x:Cln} {cs:List Value} (h:encCln.rd w S cs x):∃ D c,cs=[.string x.1,.int .i64 x.2.1,.slice D x.2.2.length c]∧x.1.size≤maxLen∧I64 x.2.1∧x.2.2.length≤c∧c≤maxLen∧SlAt encWr w S D x.2.2:=by
 obtain⟨c1,c2,rfl,⟨rfl,h1⟩,⟨c3,c4,rfl,⟨rfl,h2⟩,⟨D,c,rfl,h3,h4,h5⟩⟩⟩:=h
 exact⟨D,c,rfl,h1,h2,h3,h4,h5⟩
theorem cln_mk {x:Cln} {D:Option Addr} {c:Nat} (h1:x.1.size≤maxLen) (h2:I64 x.2.1) (h3:x.2.2.length≤c) (h4:c≤maxLen) (h5:SlAt encWr w S D x.2.2):encCln.rd w S [.string x.1,.int .i64 x.2.1,.slice D x.2.2.length c] x :=
 ⟨[_],[_,_],rfl,⟨rfl,h1⟩,⟨[_],[_],rfl,⟨rfl,h2⟩,⟨D,c,rfl,h3,h4,h5⟩⟩⟩
theorem SlAt.cln {l:List Cln} {k:Nat} (h:SlAt encCln w S A l) (hk:k<l.length) :
  ∃ b off D c,A=some ⟨b,off,none⟩∧S b ∧
    w.cell? ⟨b,off+k * 3,none⟩=some (.string l[k].1)∧w.cell? ⟨b,off+k * 3+1,none⟩=some (.int .i64 l[k].2.1)∧w.cell? ⟨b,off+k * 3+2,none⟩=some (.slice D l[k].2.2.length c) ∧
    SlAt encWr w S D l[k].2.2∧l[k].2.2.length≤c∧c≤maxLen∧l[k].1.size≤maxLen∧I64 l[k].2.1:=by
 obtain⟨b,off,cs,e,hb,hs,hr⟩:=h.at_ hk
 obtain⟨D,c,rfl,h1,h2,h3,h4,h5⟩:=cln_cs hr
 exact⟨b,off,D,c,e,hb,hs 0 _ rfl,hs 1 _ rfl,hs 2 _ rfl,h5,h3,h4,h1,h2⟩
end
def sw3 (W:World) (b:Nat) (u v t:Value):World:=((W.setCell ⟨b,0,none⟩ u).setCell ⟨b,1,none⟩ v).setCell ⟨b,2,none⟩ t
theorem sw3_row {w:World} {b:Nat} {T:TypeId} {c0 c1 c2:Value} (h:w.heap[b]? = some (.cells #[c0,c1,c2] T (0,0))) (x0 x1 x2:Value) :
  (sw3 w b x0 x1 x2).heap[b]? = some (.cells #[x0,x1,x2] T (0,0)):=by
 simp [sw3,World.setCell,Array.getElem?_modify,h]
theorem sw3_other {W:World} {b b':Nat} (h:b'≠b) (x0 x1 x2:Value):(sw3 W b x0 x1 x2).heap[b']? = W.heap[b']? := by
 unfold sw3
 exact (heap_setCell_other _ ⟨b,2,none⟩ b' _ h).trans ((heap_setCell_other _ ⟨b,1,none⟩ b' _ h).trans (heap_setCell_other _ ⟨b,0,none⟩ b' _ h))
theorem sw3_sz {W:World} {b:Nat} {x0 x1 x2:Value}:(sw3 W b x0 x1 x2).heap.size=W.heap.size:=by simp [sw3,World.setCell]
theorem sw3_below {B b:Nat} {a w:World} (h:Below B a w) (hB:B≤b) (x0 x1 x2:Value):Below B a (sw3 w b x0 x1 x2) :=
 ((h.setCell (p:=⟨b,0,none⟩) hB x0).setCell (p:=⟨b,1,none⟩) hB x1).setCell (p:=⟨b,2,none⟩) hB x2
theorem tyClns:SliceTy Tryz.prog 27 87 3 48:=sliceTy_mk (z := .agg #[.string ⟨#[]⟩,.int .i64 0,.slice none 0 0]) Tryz.underlying27 (by kernel_rfl) rfl (by decide)
structure ClLim (s:Sns) (l:List Cln):Prop where
 sn:SnLim s.1 s.2
 its:l.length≤100000
 ovl:∀ x∈l,x.2.2.length≤100000∧∀ y∈x.2.2,y.2.2.length≤1000000

theorem nmAt_high {i:Nat} {b:Int} (h:128≤b):nmAt i b=false:=by
 unfold nmAt nmB letB
 split <;> simp <;> omega
theorem rune_at (s:ByteArray) (k:Nat) (h:k<s.size):nmAt k ((Utf8.decode s k).1:Nat)=nmAt k (s[k]'h).toNat∧(nmAt k ((Utf8.decode s k).1:Nat)=true→(Utf8.decode s k).2=1):=by
 by_cases ha:(s[k]'h).toNat<128
 ·rw [decode_ascii s k h ha];exact⟨rfl,fun _=>rfl⟩
 ·have h1:=(decode_high s k h (by omega)).1
  rw [nmAt_high (b:=((Utf8.decode s k).1:Nat)) (by omega),nmAt_high (b:=((s[k]'h).toNat:Nat)) (by omega)]
  exact⟨rfl,fun h=>by cases h⟩
set_option maxRecDepth 100000 in
set_option maxHeartbeats 1000000 in
theorem isName_any (s:ByteArray) (w:World) (q:Bool) (hq:nameB s=q) (hs:s.size≤maxLen) :
  Calls Tryz.prog 47 #[.string s] w fun e w'=>e = .returned (.bool q)∧Below w.heap.size w w':=by
 have HQ:=Lib.hid hq;clear hq
 unfold maxLen at hs
 go_enter Tryz.func47,Tryz.ntmps47
 go_wp2
 go_loopw [3] (fun _ wr=>∃ pos,pos≤s.size∧wr=w.iter s pos∧Hid (nmTo s pos)) (fun _ wr=>s.size - wr.iterPos w.heap.size)
 case atStart=>exact⟨0,Nat.zero_le _,rfl,fun i _ h=>by omega⟩
 case round =>
  obtain⟨pos,hp,rfl,hto⟩:=hrel
  by_cases hlt:pos<s.size
  ·have hnx:∀ ty,(Instr.next (.pointer (some ⟨w.heap.size,0,none⟩)) true ty).run Tryz.prog (w.iter s pos)=_:=fun ty=>run_next_any w s pos ty hlt
   obtain⟨hr1,hr2⟩:=rune_at s pos hlt
   obtain⟨r,hr⟩:∃ r:Int,(((Utf8.decode s pos).1:Nat):Int)=r:=⟨_,rfl⟩
   obtain⟨d,hd⟩:∃ d,(Utf8.decode s pos).2=d:=⟨_,rfl⟩
   rw [hr,hd] at hnx hr2
   rw [hr] at hr1
   have HR:=Lib.hid (And.intro hr1 hr2)
   have hpi:(0:Int)≤pos:=by omega
   clear hr1 hr2 hr hd
   go_upto_region 4 with (fail)
   go_cut [5] (fun e wx=>e = .bool (letB r)∧w.iter s (pos+d)=wx)
   case first =>
    go_wp2_with fail
    all_goals go_meet
    all_goals (refine⟨congrArg Value.bool ?_,rfl⟩;unfold letB;rw [Bool.eq_iff_iff];simp;omega)
   case rest =>
    obtain⟨rfl,rfl⟩:=hcut
    obtain⟨lb,hlb⟩:∃ lb,letB r=lb:=⟨_,rfl⟩
    rw [hlb]
    have HLB:=Lib.hid hlb
    clear hlb
    go_upto_region 5 with (fail)
    go_cut [47] (fun e wx=>e = .bool (!nmAt pos r)∧w.iter s (pos+d)=wx)
    case first =>
     cases lb with
     | true =>
       go_wp2_with fail
       go_meet
       refine⟨congrArg Value.bool ?_,rfl⟩
       unfold nmAt nmB
       rw [HLB.out]
       split <;> rfl
     | false =>
       by_cases h0:pos=0
       ·have h0':((pos:Int)==0)=true:=by rw [beq_iff_eq];omega
        have H0:=Lib.hid h0
        clear h0
        go_wp2_with fail
        go_meet
        refine⟨congrArg Value.bool ?_,rfl⟩
        unfold nmAt
        rw [if_pos H0.out,HLB.out];rfl
       ·have h0':((pos:Int)==0)=false:=by rw [beq_eq_false_iff_ne];omega
        have H0:=Lib.hid h0
        clear h0
        obtain⟨b95,hb95⟩:∃ b,(r != 95)=b:=⟨_,rfl⟩
        obtain⟨b45,hb45⟩:∃ b,(r != 45)=b:=⟨_,rfl⟩
        have HB:=Lib.hid (And.intro hb95 hb45)
        cases b95
        all_goals cases b45
        all_goals (
         go_wp2_with fail
         all_goals go_meet
         all_goals (
          refine⟨congrArg Value.bool ?_,rfl⟩
          have h9:=HB.out.1
          have h4:=HB.out.2
          simp only [bne_iff_ne,bne_eq_false_iff_eq,ne_eq] at h9 h4
          unfold nmAt
          rw [if_neg H0.out]
          unfold nmB
          rw [HLB.out,Bool.eq_iff_iff]
          simp
          omega))
    case rest =>
     obtain⟨rfl,rfl⟩:=hcut
     obtain⟨nb,hnb⟩:∃ nb,nmAt pos r=nb:=⟨_,rfl⟩
     rw [hnb]
     have HNB:=Lib.hid hnb
     clear hnb
     cases nb with
     | true =>
       have h1:d=1:=HR.out.2 HNB.out
       have hto':Hid (nmTo s (pos+1)):=nmTo_succ hto.out hlt (by rw [← HR.out.1];exact HNB.out)
       subst h1
       go_wp2_with fail
       go_roundw
       case rel=>exact⟨pos+1,by omega,rfl,hto'.out⟩
       case measure=>simp;omega
     | false =>
       have hqf:q=false:=by rw [← HQ.out];exact nameB_bad hlt (by rw [← HR.out.1];exact HNB.out)
       subst hqf
       go_wp2_with fail
       go_ret
       exact⟨rfl,ext_alloc (Below.refl _ _)⟩
  ·have hnx:∀ ty,(Instr.next (.pointer (some ⟨w.heap.size,0,none⟩)) true ty).run Tryz.prog (w.iter s pos)=_:=fun ty=>run_next_end w s pos ty hlt
   have hpe:pos=s.size:=by omega
   subst hpe
   by_cases h1:1≤s.size
   ·by_cases h2:s.size≤32
    ·have hqt:q=true:=by rw [← HQ.out];exact nameB_true ⟨h1,h2⟩ hto.out
     subst hqt
     have h1':(1:Int)≤s.size:=by omega
     have h2':(s.size:Int)≤32:=by omega
     go_wp2_with fail
     go_ret
     exact⟨ret_bool (by first | rfl | (simp;done) | (simp;omega)),ext_alloc (Below.refl _ _)⟩
    ·have hqt:q=false:=by rw [← HQ.out];exact nameB_len (by omega)
     subst hqt
     have h1':(1:Int)≤s.size:=by omega
     have h2':¬ (s.size:Int)≤32:=by omega
     go_wp2_with fail
     go_ret
     exact⟨ret_bool (by first | rfl | (simp;done) | (simp;omega)),ext_alloc (Below.refl _ _)⟩
   ·have hqt:q=false:=by rw [← HQ.out];exact nameB_len (by omega)
    subst hqt
    have h1':¬ (1:Int)≤s.size:=by omega
    go_wp2_with fail
    go_ret
    exact⟨ret_bool (by first | rfl | (simp;done) | (simp;omega)),ext_alloc (Below.refl _ _)⟩
end Go.Proofs.YtgndgkjefgjamaaGreat
namespace Go.Proofs.YtgndgkjefgjamaaGreat
open Go.RowKit Go.Shelf
attribute [local go_sem] Oper.semAt_some

theorem strEq (a b:ByteArray):(a.toList==b.toList)=decide (a=b):=by
 rw [ByteArray.toList_eq,ByteArray.toList_eq,Bool.eq_iff_iff,beq_iff_eq,decide_eq_true_iff]
 constructor
 ·intro h
  exact ByteArray.ext (Array.toList_inj.1 h)
 ·rintro rfl;rfl
theorem namedOf_any (nm:ByteArray) (x:Cln) (D:Option Addr) (d m:Nat) (w:World) (q:Bool) (hm:x.2.2.length=m) (hq:isN nm x=q) :
  Calls Tryz.prog 99 #[.string nm,.agg #[.string x.1,.int .i64 x.2.1,.slice D m d]] w fun e w'=>e = .returned (.bool q)∧Below w.heap.size w w':=by
 have HQ:=Lib.hid hq;clear hq
 obtain⟨x1,x2,x3⟩:=x
 obtain⟨W0,hW0⟩:∃ W0,w.alloc (.cells #[.string x1,.int .i64 x2,.slice D m d] 87)=W0:=⟨_,rfl⟩
 have hB0:Below w.heap.size w W0:=by rw [← hW0];exact ext_alloc (Below.refl _ _)
 have hr0:W0.heap[w.heap.size]? = some (.cells #[.string x1,.int .i64 x2,.slice D m d] 87 (0,0)):=by rw [← hW0];exact heap_alloc_new _ _
 obtain⟨r0,_⟩:=blk3 hr0
 have hqq:Hid ((x1.toList==nm.toList)=q):=by rw [Hid,strEq];exact HQ.out
 clear hr0
 go_enter Tryz.func99,Tryz.ntmps99
 go_wp2
 go_ret
 exact⟨ret_bool hqq.out,hB0⟩
theorem numberedOf_any (n:Int) (x:Snp) (D:Option Addr) (d m:Nat) (w:World) (q:Bool) (hm:x.2.2.length=m) (hq:numIs n x=q) :
  Calls Tryz.prog 102 #[.int .i64 n,.agg #[.int .i64 x.1,.int .i64 x.2.1,.slice D m d]] w fun e w'=>e = .returned (.bool q)∧Below w.heap.size w w':=by
 have HQ:=Lib.hid hq;clear hq
 obtain⟨x1,x2,x3⟩:=x
 obtain⟨W0,hW0⟩:∃ W0,w.alloc (.cells #[.int .i64 x1,.int .i64 x2,.slice D m d] 158)=W0:=⟨_,rfl⟩
 have hB0:Below w.heap.size w W0:=by rw [← hW0];exact ext_alloc (Below.refl _ _)
 have hr0:W0.heap[w.heap.size]? = some (.cells #[.int .i64 x1,.int .i64 x2,.slice D m d] 158 (0,0)):=by rw [← hW0];exact heap_alloc_new _ _
 obtain⟨r0,_⟩:=blk3 hr0
 have hqq:Hid ((x1==n)=q):=HQ.out
 clear hr0
 go_enter Tryz.func102,Tryz.ntmps102
 go_wp2
 go_ret
 exact⟨ret_bool hqq.out,hB0⟩
theorem index1_any (nm:ByteArray) (ib nb:Nat) (x:Cln) (D:Option Addr) (d m:Nat) (w:World) (q:Bool) (hm:x.2.2.length=m) (hq:isN nm x=q) (hi:w.cell? ⟨ib,0,none⟩=some (.func (.func 99) #[] #[])) (hil:ib<w.heap.size) (hc:w.cell? ⟨nb,0,none⟩=some (.string nm)) (hnb:nb<w.heap.size) :
  Calls Tryz.prog 101 #[.agg #[.string x.1,.int .i64 x.2.1,.slice D m d],.pointer (some ⟨ib,0,none⟩),.pointer (some ⟨nb,0,none⟩)] w fun e w'=>e = .returned (.bool q)∧Below w.heap.size w w':=by
 obtain⟨W0,hW0⟩:∃ W0,w.alloc (.cells #[.string x.1,.int .i64 x.2.1,.slice D m d] 87)=W0:=⟨_,rfl⟩
 have hB0:Below w.heap.size w W0:=by rw [← hW0];exact ext_alloc (Below.refl _ _)
 have hr0:W0.heap[w.heap.size]? = some (.cells #[.string x.1,.int .i64 x.2.1,.slice D m d] 87 (0,0)):=by rw [← hW0];exact heap_alloc_new _ _
 have hc0:=(hB0.cell (p:=⟨nb,0,none⟩) hnb).trans hc
 have hi0:=(hB0.cell (p:=⟨ib,0,none⟩) hil).trans hi
 have HC:=Lib.hid (namedOf_any nm x D d m W0 q hm hq)
 obtain⟨r0,r1,r2,_⟩:=blk3 hr0
 clear hr0 hm hq
 go_enter Tryz.func101,Tryz.ntmps101
 go_wp2_with fail
 refine HC.out.mono ?_
 rintro e w1 ⟨rfl,hb1⟩
 go_wp2
 go_ret
 exact⟨rfl,ext_trans hB0 hb1⟩
theorem taken1_any (n:Int) (ib nb:Nat) (x:Snp) (D:Option Addr) (d m:Nat) (w:World) (q:Bool) (hm:x.2.2.length=m) (hq:numIs n x=q) (hi:w.cell? ⟨ib,0,none⟩=some (.func (.func 102) #[] #[])) (hil:ib<w.heap.size) (hc:w.cell? ⟨nb,0,none⟩=some (.int .i64 n)) (hnb:nb<w.heap.size) :
  Calls Tryz.prog 104 #[.agg #[.int .i64 x.1,.int .i64 x.2.1,.slice D m d],.pointer (some ⟨ib,0,none⟩),.pointer (some ⟨nb,0,none⟩)] w fun e w'=>e = .returned (.bool q)∧Below w.heap.size w w':=by
 obtain⟨W0,hW0⟩:∃ W0,w.alloc (.cells #[.int .i64 x.1,.int .i64 x.2.1,.slice D m d] 158)=W0:=⟨_,rfl⟩
 have hB0:Below w.heap.size w W0:=by rw [← hW0];exact ext_alloc (Below.refl _ _)
 have hr0:W0.heap[w.heap.size]? = some (.cells #[.int .i64 x.1,.int .i64 x.2.1,.slice D m d] 158 (0,0)):=by rw [← hW0];exact heap_alloc_new _ _
 have hc0:=(hB0.cell (p:=⟨nb,0,none⟩) hnb).trans hc
 have hi0:=(hB0.cell (p:=⟨ib,0,none⟩) hil).trans hi
 have HC:=Lib.hid (numberedOf_any n x D d m W0 q hm hq)
 obtain⟨r0,r1,r2,_⟩:=blk3 hr0
 clear hr0 hm hq
 go_enter Tryz.func104,Tryz.ntmps104
 go_wp2_with fail
 refine HC.out.mono ?_
 rintro e w1 ⟨rfl,hb1⟩
 go_wp2
 go_ret
 exact⟨rfl,ext_trans hB0 hb1⟩
set_option maxHeartbeats 1000000 in
theorem clnAt_any (A:Option Addr) (c n:Nat) (l:List _) (w:World) (hn:l.length=n) (h1:SlAt encCln w (Bl w.heap.size) A l) (hl:n≤9223372036854775807) (nm:ByteArray) (ib nb:Nat) (hib:w.cell? ⟨ib,0,none⟩=some (.func (.func 99) #[] #[])) (hil:ib<w.heap.size) (hnb:w.cell? ⟨nb,0,none⟩=some (.string nm)) (hnl:nb<w.heap.size) (r:Int) (hr:idxAt (isN nm) l=r) :
  Calls Tryz.prog 100 #[.slice A n c,.func (.func 101) #[] #[.pointer (some ⟨ib,0,none⟩),.pointer (some ⟨nb,0,none⟩)]] w fun e w'=>e = .returned (.int .i64 r)∧Below w.heap.size w w':=by
 subst hn
 have HR:=Lib.hid hr;clear hr
 have H1:Hid (∀ w',Below w.heap.size w w'→SlAt encCln w' (Bl w.heap.size) A l):=fun w' hb=>h1.below hb
 clear h1
 have HNB:Hid (∀ W,Below w.heap.size w W→W.cell? ⟨ib,0,none⟩=some (.func (.func 99) #[] #[])∧W.cell? ⟨nb,0,none⟩=some (.string nm)):=fun W hb=>⟨(hb.cell (p:=⟨ib,0,none⟩) hil).trans hib,(hb.cell (p:=⟨nb,0,none⟩) hnl).trans hnb⟩;clear hnb hib
 go_enter Tryz.func100,Tryz.ntmps100
 go_wp2
 go_loopw [8] (fun i wr=>∃ k:Nat,k≤l.length∧i = .int .i64 k∧Below w.heap.size w wr∧Hid (idxAt (isN nm) l=(idxAt (isN nm) (l.drop k))+(if 0≤idxAt (isN nm) (l.drop k) then (k:Int) else 0))) (fun i _=>l.length - (intOf i).toNat)
 case atStart=>exact⟨0,by omega,rfl,Below.refl _ _,by simp [Hid]⟩
 case round =>
  obtain⟨k,hk,rfl,hB,hz⟩:=hrel
  by_cases hlt:k<l.length
  ·have hnn:(0:Int)≤k:=by omega
   have hki:(k:Int)<l.length:=by omega
   have hszr:=hB.size
   have hst:=idxAt_drop (P:=(isN nm)) hlt
   obtain⟨b,off,D,d,rfl,hb,g0,g1,g2,_,_,_,_,_⟩:=(H1.out wr hB).cln hlt
   obtain⟨q,hq⟩:∃ q,Hid ((isN nm) l[k]=q):=⟨(isN nm) l[k],Lib.hid rfl⟩
   rw [hq.out] at hst
   have HST:=Lib.hid hst
   clear hst
   go_wp2_with fail
   refine (index1_any nm ib nb l[k] D d l[k].2.2.length wr q rfl hq.out (HNB.out wr hB).1 (by omega) (HNB.out wr hB).2 (by omega)).mono ?_
   rintro e w1 ⟨rfl,hb1⟩;clear g0 g1 g2
   have hB1:Below w.heap.size w w1:=ext_trans hB hb1
   cases q with
   | true =>
     go_wp2
     go_ret
     refine⟨ret_int ?_,hB1⟩
     rw [← HR.out,hz.out,HST.out];simp
   | false =>
     go_wp2
     go_roundw
     case rel =>
      refine⟨k+1,hlt,by go_num,hB1, ?_⟩
      rw [Hid,hz.out,HST.out]
      rw [if_neg (by decide:¬ false=true)]
      rcases idxAt_cases (isN nm) (l.drop (k+1)) with hp | hp
      ·rw [hp];simp
      ·rw [if_pos hp,if_pos hp,if_pos (by omega)];omega
     case measure=>simp [intOf];omega
  ·have hkk:k=l.length:=by omega
   subst hkk
   go_wp2
   go_ret
   refine⟨ret_int ?_,hB⟩
   rw [← HR.out,hz.out,List.drop_length];simp [idxAt]
set_option maxHeartbeats 1000000 in
theorem tknAt_any (A:Option Addr) (c n:Nat) (l:List _) (w:World) (hn:l.length=n) (h1:SlAt encSnp w (Bl w.heap.size) A l) (hl:n≤9223372036854775807) (num:Int) (ib nb:Nat) (hib:w.cell? ⟨ib,0,none⟩=some (.func (.func 102) #[] #[])) (hil:ib<w.heap.size) (hnb:w.cell? ⟨nb,0,none⟩=some (.int .i64 num)) (hnl:nb<w.heap.size) (r:Int) (hr:idxAt (numIs num) l=r) :
  Calls Tryz.prog 139 #[.slice A n c,.func (.func 104) #[] #[.pointer (some ⟨ib,0,none⟩),.pointer (some ⟨nb,0,none⟩)]] w fun e w'=>e = .returned (.int .i64 r)∧Below w.heap.size w w':=by
 subst hn
 have HR:=Lib.hid hr;clear hr
 have H1:Hid (∀ w',Below w.heap.size w w'→SlAt encSnp w' (Bl w.heap.size) A l):=fun w' hb=>h1.below hb
 clear h1
 have HNB:Hid (∀ W,Below w.heap.size w W→W.cell? ⟨ib,0,none⟩=some (.func (.func 102) #[] #[])∧W.cell? ⟨nb,0,none⟩=some (.int .i64 num)):=fun W hb=>⟨(hb.cell (p:=⟨ib,0,none⟩) hil).trans hib,(hb.cell (p:=⟨nb,0,none⟩) hnl).trans hnb⟩;clear hnb hib
 go_enter Tryz.func139,Tryz.ntmps139
 go_wp2
 go_loopw [8] (fun i wr=>∃ k:Nat,k≤l.length∧i = .int .i64 k∧Below w.heap.size w wr∧Hid (idxAt (numIs num) l=(idxAt (numIs num) (l.drop k))+(if 0≤idxAt (numIs num) (l.drop k) then (k:Int) else 0))) (fun i _=>l.length - (intOf i).toNat)
 case atStart=>exact⟨0,by omega,rfl,Below.refl _ _,by simp [Hid]⟩
 case round =>
  obtain⟨k,hk,rfl,hB,hz⟩:=hrel
  by_cases hlt:k<l.length
  ·have hnn:(0:Int)≤k:=by omega
   have hki:(k:Int)<l.length:=by omega
   have hszr:=hB.size
   have hst:=idxAt_drop (P:=(numIs num)) hlt
   obtain⟨b,off,D,d,rfl,hb,g0,g1,g2,_,_,_,_,_⟩:=(H1.out wr hB).snp hlt
   obtain⟨q,hq⟩:∃ q,Hid ((numIs num) l[k]=q):=⟨(numIs num) l[k],Lib.hid rfl⟩
   rw [hq.out] at hst
   have HST:=Lib.hid hst
   clear hst
   go_wp2_with fail
   refine (taken1_any num ib nb l[k] D d l[k].2.2.length wr q rfl hq.out (HNB.out wr hB).1 (by omega) (HNB.out wr hB).2 (by omega)).mono ?_
   rintro e w1 ⟨rfl,hb1⟩;clear g0 g1 g2
   have hB1:Below w.heap.size w w1:=ext_trans hB hb1
   cases q with
   | true =>
     go_wp2
     go_ret
     refine⟨ret_int ?_,hB1⟩
     rw [← HR.out,hz.out,HST.out];simp
   | false =>
     go_wp2
     go_roundw
     case rel =>
      refine⟨k+1,hlt,by go_num,hB1, ?_⟩
      rw [Hid,hz.out,HST.out]
      rw [if_neg (by decide:¬ false=true)]
      rcases idxAt_cases (numIs num) (l.drop (k+1)) with hp | hp
      ·rw [hp];simp
      ·rw [if_pos hp,if_pos hp,if_pos (by omega)];omega
     case measure=>simp [intOf];omega
  ·have hkk:k=l.length:=by omega
   subst hkk
   go_wp2
   go_ret
   refine⟨ret_int ?_,hB⟩
   rw [← HR.out,hz.out,List.drop_length];simp [idxAt]
theorem index37_any (A:Option Addr) (c n:Nat) (l:List Cln) (nm:ByteArray) (w:World) (hn:l.length=n) (h1:SlAt encCln w (Bl w.heap.size) A l) (hl:n≤9223372036854775807) (r:Int) (hr:idxAt (isN nm) l=r) :
  Calls Tryz.prog 48 #[.slice A n c,.string nm] w fun e w'=>e = .returned (.int .i64 r)∧Below w.heap.size w w':=by
 obtain⟨W0,hW0⟩:∃ W0,(w.alloc (.cells #[.string nm] 9)).alloc (.cells #[.func (.func 99) #[] #[]] 161)=W0:=⟨_,rfl⟩
 have hB0:Below w.heap.size w W0:=by rw [← hW0];exact ext_alloc (ext_alloc (Below.refl _ _))
 have hr0:W0.heap[w.heap.size]? = some (.cells #[.string nm] 9 (0,0)):=by rw [← hW0];exact (Below.heap_alloc _ _ _ (by simp)).trans (heap_alloc_new _ _)
 have hr1:W0.heap[w.heap.size+1]? = some (.cells #[.func (.func 99) #[] #[]] 161 (0,0)):=by rw [← hW0];exact heap_new2 _ _ _
 have hs0:w.heap.size+1<W0.heap.size:=(Array.getElem?_eq_some_iff.1 hr1).1
 have HIX:=Lib.hid (clnAt_any A c n l W0 hn ((h1.below hB0).more (Bl.mono hB0.size)) hl nm (w.heap.size+1) w.heap.size (cell_of_row W0 _ 0 _ _ _ hr1) hs0 (cell_of_row W0 _ 0 _ _ _ hr0) (by omega) r hr)
 have HW0:=Lib.hid hW0
 clear h1 hn hr hr0 hr1 hW0 hs0
 go_enter Tryz.func48,Tryz.ntmps48
 go_upto_region 2 with (fail)
 rw [HW0.out]
 go_wp2_with fail
 refine HIX.out.mono ?_
 rintro e w1 ⟨rfl,hb1⟩
 go_wp2
 go_ret
 exact⟨rfl,ext_trans hB0 hb1⟩
theorem contSnp_any (A:Option Addr) (c n:Nat) (l:List Snp) (w:World) (hn:l.length=n) (h1:SlAt encSnp w (Bl w.heap.size) A l) (hl:n≤9223372036854775807) (num:Int) (ib nb:Nat) (hib:w.cell? ⟨ib,0,none⟩=some (.func (.func 102) #[] #[])) (hil:ib<w.heap.size) (hnb:w.cell? ⟨nb,0,none⟩=some (.int .i64 num)) (hnl:nb<w.heap.size) (q:Bool) (hq:tkn l num=q) :
  Calls Tryz.prog 103 #[.slice A n c,.func (.func 104) #[] #[.pointer (some ⟨ib,0,none⟩),.pointer (some ⟨nb,0,none⟩)]] w fun e w'=>e = .returned (.bool q)∧Below w.heap.size w w':=by
 obtain⟨i,hi⟩:∃ i,idxAt (numIs num) l=i:=⟨_,rfl⟩
 have HIX:=Lib.hid (tknAt_any A c n l w hn h1 hl num ib nb hib hil hnb hnl i hi)
 have hqi:Hid (decide (0≤i)=q):=by rw [Hid, ← hi,idxAt_any];exact hq
 clear h1 hn hi hq hib hnb
 go_enter Tryz.func103,Tryz.ntmps103
 go_wp2_with fail
 refine HIX.out.mono ?_
 rintro e w1 ⟨rfl,hb1⟩
 go_wp2
 go_ret
 exact⟨ret_bool hqi.out,hb1⟩
theorem taken37_any (A A2:Option Addr) (c c2 n m:Nat) (l:List Snp) (num:Int) (w:World) (hm:l.length=m) (h2:SlAt encSnp w (Bl w.heap.size) A2 l) (hl:m≤9223372036854775807) (q:Bool) (hq:tkn l num=q) :
  Calls Tryz.prog 49 #[.agg #[.slice A n c,.slice A2 m c2],.int .i64 num] w fun e w'=>e = .returned (.bool q)∧Below w.heap.size w w':=by
 obtain⟨W0,hW0⟩:∃ W0,((w.alloc (.cells #[.slice A n c,.slice A2 m c2] 26)).alloc (.cells #[.int .i64 num] 3)).alloc (.cells #[.func (.func 102) #[] #[]] 164)=W0:=⟨_,rfl⟩
 have hB0:Below w.heap.size w W0:=by rw [← hW0];exact ext_alloc (ext_alloc (ext_alloc (Below.refl _ _)))
 have hr:W0.heap[w.heap.size]? = some (.cells #[.slice A n c,.slice A2 m c2] 26 (0,0)):=by rw [← hW0];exact (Below.heap_alloc _ _ _ (by simp;omega)).trans ((Below.heap_alloc _ _ _ (by simp)).trans (heap_alloc_new _ _))
 have hr0:W0.heap[w.heap.size+1]? = some (.cells #[.int .i64 num] 3 (0,0)):=by
  rw [← hW0]
  have h:=heap_alloc_new (w.alloc (.cells #[.slice A n c,.slice A2 m c2] 26)) (.cells #[.int .i64 num] 3)
  simp only [World.size_alloc] at h
  exact (Below.heap_alloc _ _ _ (by simp)).trans h
 have hr1:W0.heap[w.heap.size+1+1]? = some (.cells #[.func (.func 102) #[] #[]] 164 (0,0)):=by
  rw [← hW0]
  have h:=heap_alloc_new ((w.alloc (.cells #[.slice A n c,.slice A2 m c2] 26)).alloc (.cells #[.int .i64 num] 3)) (.cells #[.func (.func 102) #[] #[]] 164)
  simp only [World.size_alloc] at h
  exact h
 have hs0:w.heap.size+1+1<W0.heap.size:=(Array.getElem?_eq_some_iff.1 hr1).1
 have HIX:=Lib.hid (contSnp_any A2 c2 m l W0 hm ((h2.below hB0).more (Bl.mono hB0.size)) hl num (w.heap.size+1+1) (w.heap.size+1) (cell_of_row W0 _ 0 _ _ _ hr1) hs0 (cell_of_row W0 _ 0 _ _ _ hr0) (by omega) q hq)
 obtain⟨p0,p1,_⟩:=blk2 hr
 have HW0:=Lib.hid hW0
 have HP:=Lib.hid (And.intro p0 p1)
 clear h2 hm hq hr hr0 hr1 hW0 hs0 p0 p1
 go_enter Tryz.func49,Tryz.ntmps49
 go_upto_region 2 with (fail)
 rw [HW0.out]
 obtain⟨p0,p1⟩:=HP.out
 go_wp2_with fail
 refine HIX.out.mono ?_
 rintro e w1 ⟨rfl,hb1⟩
 go_wp2
 go_ret
 exact⟨rfl,ext_trans hB0 hb1⟩
end Go.Proofs.YtgndgkjefgjamaaGreat

/-
  clone.ownWrites, own: the walks.; Drawn regions whose last operation stores into a cell that the region has read: the loads may be taken first all the same. No program in sight.; clone.sizes, Check: the walks.; Clones as results; clone.New, Create: the walks.
-/
import Derived.BigQuiet
import Derived.OrdersHeld
import Derived.RegionTactic
import Derived.Deep.RegionHeld3
import Derived.WalkMore
import Derived.Test.YtgndgkjefgjamaaGreatV01
import Derived.Test.YtgndgkjefgjamaaGreatV02
import Derived.Test.YtgndgkjefgjamaaGreatV03
import Derived.Test.YtgndgkjefgjamaaGreatV04
import Derived.Test.YtgndgkjefgjamaaGreatV05
import Derived.Test.YtgndgkjefgjamaaGreatV06
set_option linter.unusedVariables false
set_option linter.unusedSimpArgs false
set_option linter.unusedSectionVars false
set_option linter.unnecessarySimpa false
namespace Go.Proofs.YtgndgkjefgjamaaGreat
open Go.RowKit Go.Shelf
attribute [local go_sem] Oper.semAt_some

set_option maxHeartbeats 1000000 in
theorem clWrites_any (A:Option Addr) (c n:Nat) (l:List Wr) (w:World) (hn:l.length=n) (h1:SlAt encWr w (Bl w.heap.size) A l) (hl:n≤100000) (hd:∀ x∈l,x.2.2.length≤1000000) :
  Calls Tryz.prog 64 #[.slice A n c] w fun e w'=>∃ B vc,e = .returned (.slice B n vc)∧OwnX (fun _=>False) encWr w' w.heap.size 45 (.slice B n vc) l∧Below w.heap.size w w':=by
 subst hn
 have H1:Hid (∀ w',Below w.heap.size w w'→SlAt encWr w' (Bl w.heap.size) A l):=fun w' hb=>h1.below hb
 have HD:=Lib.hid hd
 clear h1 hd
 go_enter Tryz.func64,Tryz.ntmps64
 go_wp2
 go_loopw [3,8] (fun v i wr=>∃ (k:Nat) (B:Option Addr) (vc:Nat) (out:List Wr),k≤l.length∧i = .int .i64 k∧v = .slice B out.length vc∧Below w.heap.size w wr∧Hid (out=l.take k)∧Hid (OwnX (fun _=>False) encWr wr w.heap.size 45 (.slice B out.length vc) out)) (fun _ i _=>l.length - (intOf i).toNat)
 case atStart=>exact⟨0,none,0,[],by omega,rfl,rfl,Below.refl _ _,by simp [Hid],OwnX.nil_⟩
 case round =>
  obtain⟨wo,rfl⟩:∃ wo:World,wo=wr:=⟨_,rfl⟩
  obtain⟨k,B,vc,out,hk,rfl,rfl,hB,hout,hown⟩:=hrel
  by_cases hlt:k<l.length
  ·obtain⟨b,off,D,dc,rfl,hb,g0,g1,g2,hD,hn1,hn2,hi1,hi2⟩:=(H1.out wo hB).wr hlt
   have hdl:=HD.out l[k] (List.getElem_mem hlt)
   have hst:Hid (l.take (k+1)=l.take k++[l[k]]):=List.take_succ_eq_append_getElem hlt
   obtain⟨x,hx⟩:∃ x,l[k]=x:=⟨_,rfl⟩
   rw [hx] at g0 g1 g2 hD hn1 hi1 hi2 hdl hst
   obtain⟨v,s,d⟩:=x
   simp only at g0 g1 g2 hD hn1 hi1 hi2 hdl
   have hki:(k:Int)<l.length:=by omega
   have hnn:(0:Int)≤k:=by omega
   have hol:out.length≤k:=by rw [hout.out];simp;omega
   have hszo:=hB.size
   clear hx
   go_upto_region 5 with (fail)
   obtain⟨W1,hW1⟩:∃ W1,wo.alloc (.cells #[.int .i64 v,.int .i64 s,.slice D d.length dc] 45)=W1:=⟨_,rfl⟩
   rw [hW1]
   have hb1:Below wo.heap.size wo W1:=by rw [← hW1];exact ext_alloc (Below.refl _ _)
   have hr1:W1.heap[wo.heap.size]? = some (.cells #[.int .i64 v,.int .i64 s,.slice D d.length dc] 45 (0,0)):=by rw [← hW1];exact heap_alloc_new _ _
   have hs1:W1.heap.size=wo.heap.size+1:=by rw [← hW1];simp
   have HCL:=Lib.hid (cloneSecs_any D dc d.length d W1 rfl ((hD.blk (w':=W1) (fun g hg=>hb1.block g (Nat.lt_of_lt_of_le hg hszo))).more (fun g hg=>by have:g<w.heap.size:=hg;show g<W1.heap.size;omega)) hdl)
   obtain⟨r0,r1,r2,rf⟩:=blk3 hr1
   clear hW1 g0 g1 g2 hD
   go_wp2_with fail
   refine HCL.out.mono ?_
   rintro e w2 ⟨A2,c2,rfl,k1,k2,k3,hb2⟩
   have hr2:w2.heap[wo.heap.size]? = some (.cells #[.int .i64 v,.int .i64 s,.slice D d.length dc] 45 (0,0)):=(hb2.block _ (by omega)).trans hr1
   have HK3:=Lib.hid k3
   clear r0 r1 r2 rf hr1 HCL k3
   obtain⟨r0,r1,r2,rf⟩:=blk3 hr2
   go_upto_region 6 with (fail)
   obtain⟨W3,hW3⟩:∃ W3,w2.setCell ⟨wo.heap.size,2,none⟩ (.slice A2 d.length c2)=W3:=⟨_,rfl⟩
   rw [hW3]
   have hr3:W3.heap[wo.heap.size]? = some (.cells #[.int .i64 v,.int .i64 s,.slice A2 d.length c2] 45 (0,0)):=by rw [← hW3];exact blk3_set hr2 _
   have hs3:W3.heap.size=w2.heap.size:=by rw [← hW3];simp [World.setCell]
   have hs2:=hb2.size
   have hb3:Below wo.heap.size wo W3:=by rw [← hW3];exact (hb1.trans (hb2.mono hb1.size)).setCell (p:=⟨wo.heap.size,2,none⟩) (Nat.le_refl wo.heap.size) _
   have hK3:Hid (SlAt encSec W3 (Nw W1.heap.size W3.heap.size) A2 d):=by
    rw [hs3]
    refine HK3.out.blk (fun g hg => ?_)
    rw [← hW3]
    exact Below.heap_setCell _ _ _ _ (by have:=hg.1;show g≠wo.heap.size;omega)
   have hs3g:w2.heap.size≤W3.heap.size:=by omega
   have hs1g:wo.heap.size+1≤W1.heap.size:=by omega
   clear r0 r1 r2 rf hr2 hW3 HK3 hb2 hb1 hs3 hs1
   obtain⟨r0,r1,r2,_⟩:=blk3 hr3
   have hO4:=Lib.hid ((hown.out.below hb3).alloc (.cells #[.int .i64 v,.int .i64 s,.slice A2 d.length c2] 45))
   have hlt1:=hown.out.lt
   have HRD:Hid (encWr.rd (W3.alloc (.cells #[.int .i64 v,.int .i64 s,.slice A2 d.length c2] 45)) (fun g=>Nw w.heap.size (W3.alloc (.cells #[.int .i64 v,.int .i64 s,.slice A2 d.length c2] 45)).heap.size g∧¬ False∧(Value.slice B out.length vc).ownBlock≠some g) [.int .i64 v,.int .i64 s,.slice A2 d.length c2] (v,s,d)) :=
    wr_mk (x:=(v,s,d)) hi1 hi2 k1 k2 (OwnX.since (X:=fun _=>False) (B:=W1.heap.size) ((hK3.out.blk (fun g hg=>Below.heap_alloc _ _ _ hg.2)).more (fun g hg=>hg.mono (Nat.le_refl _) (by simp))) (by omega) (fun _ h=>h.elim) (fun g hg=>by have:=(hlt1 g hg).2;omega))
   have HLT:=Lib.hid hlt1
   have hO4o:=Lib.hid hO4.out.1
   clear hlt1
   go_wp2_with (at_builtin;refine Hid.out ?_)
   change wpList _ _ _ _ _ _
   refine wpList_app1 (E:=encWr) tyWrs rfl _ _ rfl rfl hO4o.out (v,s,d) [.int .i64 v,.int .i64 s,.slice A2 d.length c2] rfl HRD.out (heap_alloc_new _ _) (fun _ h=>h.1.2) (by simp;omega) (by unfold maxLen;omega) (by omega) ?_
   intro A5 c5 w5 hown5 hg5 hat5
   have hO5:=Lib.hid (hO4.out.app hown5 hg5 hat5 (fun _ h=>h.elim))
   have hB5:=Lib.hid (((hB.trans (hb3.mono hszo)).alloc (by omega) (.cells #[.int .i64 v,.int .i64 s,.slice A2 d.length c2] 45)).grown hg5 (by simp;omega) (fun g h=>(HLT.out g h).1))
   clear hown5 hg5 hat5 r0 r1 r2 hr3
   go_wp2
   go_roundw
   case rel=>exact⟨k+1,A5,c5,out++[(v,s,d)],hlt,by go_num,by simp,hB5.out,by rw [Hid,hst.out,hout.out],by have:=hO5.out;simpa [Hid] using this⟩
   case measure=>simp [intOf];omega
  ·have hkk:k=l.length:=by omega
   subst hkk
   go_wp2
   go_ret
   have e:=hout.out
   rw [List.take_length] at e
   rw [← e]
   exact⟨B,vc,rfl,hown.out,hB⟩
def OwnIn (w:World) (a b:Nat) (v:Value) (l:List Wr):Prop:=Own encWr w a 45 (fun g=>Nw a b g∧v.ownBlock≠some g) v l∧∀ g,v.ownBlock=some g→g<b
theorem OwnIn.keep {w w':World} {a b:Nat} {v:Value} {l:List Wr} (h:OwnIn w a b v l) (hk:∀ g,Nw a b g→w'.heap[g]? = w.heap[g]?):OwnIn w' a b v l :=
 ⟨h.1.blk (fun g hg=>by
  rcases hg with hg | hg
  ·exact hk g hg.1
  ·exact hk g ⟨(h.1.lt g hg).1,h.2 g hg⟩),h.2⟩
theorem OwnIn.sl {w:World} {a b n d:Nat} {D:Option Addr} {l:List Wr} (h:OwnIn w a b (.slice D n d) l):n=l.length∧l.length≤d∧d≤maxLen∧SlAt encWr w (Nw a b) D l:=by
 obtain⟨A',c',he,h1,h2,h3⟩:=h.1.reads (S':=Nw a b) (fun g hg=>hg.1) (fun g hg=>⟨(h.1.lt g hg).1,h.2 g hg⟩)
 simp only [List.cons.injEq,Value.slice.injEq,and_true] at he
 obtain⟨rfl,rfl,rfl⟩:=he
 exact⟨rfl,h1,h2,h3⟩
abbrev CB:=Cln × Option Addr × Nat × Nat × Nat
def encCB:Enc CB where
 size:=3
 rd _ _ cs y:=cs=[.string y.1.1,.int .i64 y.1.2.1,.slice y.2.1 y.1.2.2.length y.2.2.1]∧y.1.1.size≤maxLen∧I64 y.1.2.1
 len h:=by rw [h.1];rfl
 one h:=by rw [h.1];simp [Value.oneCell']
 keep h _ _:=h
theorem tyCBs:SliceTy Tryz.prog 27 87 encCB.size 48:=tyClns
structure ClsOwn (w:World) (lo:Nat) (G:Option Addr) (g:Nat) (ys:List CB):Prop where
 own:Own encCB w lo 87 (fun _=>False) (.slice G ys.length g) ys
 ov:∀ y∈ys,lo≤y.2.2.2.1∧y.2.2.2.2≤w.heap.size∧OwnIn w y.2.2.2.1 y.2.2.2.2 (.slice y.2.1 y.1.2.2.length y.2.2.1) y.1.2.2∧∀ b,(Value.slice G ys.length g).ownBlock=some b→¬ Nw y.2.2.2.1 y.2.2.2.2 b
 dj:ys.Pairwise (fun x y=>x.2.2.2.2≤y.2.2.2.1)
theorem ClsOwn.keep {w w':World} {lo g:Nat} {G:Option Addr} {ys:List CB} (h:ClsOwn w lo G g ys) (hs:w.heap.size≤w'.heap.size) (hk:∀ b,lo≤b→b<w.heap.size→w'.heap[b]? = w.heap[b]?):ClsOwn w' lo G g ys :=
 ⟨h.own.blk (fun b hb=>by
  rcases hb with hb | hb
  ·exact hb.elim
  ·exact hk b (h.own.lt b hb).1 (h.own.lt b hb).2),
  fun y hy=>by
   obtain⟨a,b,c,d⟩:=h.ov y hy
   exact⟨a,by omega,c.keep (fun x hx=>hk x (by have:=hx.1;omega) (by have:=hx.2;omega)),d⟩,h.dj⟩
theorem All2.mapR {α β γ:Type} {R:α→β→Prop} {R':α→γ→Prop} {f:β→γ}:∀ {l:List α} {m:List β},All2 R l m→(∀ a b,b∈m→R a b→R' a (f b))→All2 R' l (m.map f)
 | [],[],_,_=>trivial
 | _ :: _,b :: m,h,hr=>⟨hr _ b (by simp) h.1,All2.mapR h.2 (fun a c hc=>hr a c (by simp [hc]))⟩
 | [],_ :: _,h,_=>h.elim
 | _ :: _,[],h,_=>h.elim
theorem ClsOwn.ownX {w:World} {lo g:Nat} {G:Option Addr} {ys:List CB} {l:List Cln} (h:ClsOwn w lo G g ys) (hm:ys.map (·.1)=l):OwnX (fun _=>False) encCln w lo 87 (.slice G l.length g) l:=by
 subst hm
 obtain⟨css,hrow,hall,_⟩:=h.own
 rw [List.length_map]
 refine⟨⟨css,by rw [List.length_map];exact hrow,All2.mapR hall (fun cs y hy hr => ?_),fun b hb hS=>hS.2.2 hb⟩,fun b _ hf=>hf⟩
 obtain⟨a,b,c,d⟩:=h.ov y hy
 obtain⟨_,c1,c2,c3⟩:=c.sl
 obtain⟨rfl,r1,r2⟩:=hr
 exact cln_mk r1 r2 c1 c2 (c3.more (fun x hx=>⟨⟨by have:=hx.1;omega,by have:=hx.2;omega⟩,fun hf=>hf,fun e=>d x e hx⟩))
structure ClRet (s:Sns) (l:List Cln) (A:Option Addr) (c:Nat) (D:Option Addr) (d:Nat) (G:Option Addr) (g m1 m2 lo:Nat) (w:World):Prop where
 im:s.1.length≤c∧c≤maxLen∧SlAt (encSl encSec) w (Nw lo m1) A s.1
 sn:s.2.length≤d∧d≤maxLen∧SlAt encSnp w (Nw m1 m2) D s.2
 le:lo≤m1∧m1≤m2∧m2≤w.heap.size
 cl:OwnX (fun _=>False) encCln w m2 87 (.slice G l.length g) l
 ow:∃ ys,ys.map (·.1)=l∧ClsOwn w m2 G g ys
set_option maxHeartbeats 4000000 in
set_option maxRecDepth 100000 in
theorem own37_any (A A2 A3:Option Addr) (c c2 c3 n m p:Nat) (im:Img) (l:List Snp) (cl:List Cln) (w:World) (hn:im.length=n) (hm:l.length=m) (hp:cl.length=p) (h1:SlAt (encSl encSec) w (Bl w.heap.size) A im) (h2:SlAt encSnp w (Bl w.heap.size) A2 l) (h3:SlAt encCln w (Bl w.heap.size) A3 cl) (hL:ClLim (im,l) cl) :
  Calls Tryz.prog 50 #[.agg #[.slice A n c,.slice A2 m c2,.slice A3 p c3]] w fun e w'=>∃ B vc D dc G gc m1 m2,e = .returned (.agg #[.slice B n vc,.slice D m dc,.slice G p gc])∧ClRet (im,l) cl B vc D dc G gc m1 m2 w.heap.size w'∧Below w.heap.size w w':=by
 subst hn hm hp
 obtain⟨n0,hn0⟩:∃ n0,w.heap.size=n0:=⟨_,rfl⟩
 obtain⟨W0,hW0⟩:∃ W0,(w.alloc (.cells #[.slice A im.length c,.slice A2 l.length c2,.slice A3 cl.length c3] 29)).alloc (.cells #[.slice none 0 0,.slice none 0 0,.slice none 0 0] 29)=W0:=⟨_,rfl⟩
 have hB0:Below n0 w W0:=by rw [← hW0, ← hn0];exact ext_alloc (ext_alloc (Below.refl _ _))
 have hr0:W0.heap[n0]? = some (.cells #[.slice A im.length c,.slice A2 l.length c2,.slice A3 cl.length c3] 29 (0,0)):=by
  rw [← hW0, ← hn0];exact (Below.heap_alloc _ _ _ (by simp)).trans (heap_alloc_new _ _)
 have hr1:W0.heap[n0+1]? = some (.cells #[.slice none 0 0,.slice none 0 0,.slice none 0 0] 29 (0,0)):=by
  rw [← hW0, ← hn0];exact heap_new2 _ _ _
 obtain⟨n2,hn2⟩:∃ n2,W0.heap.size=n2:=⟨_,rfl⟩
 have hn02:n0+2≤n2:=by rw [← hn2, ← hW0, ← hn0];simp
 have up:∀ {α:Type} {E:Enc α} {A:Option Addr} {l:List α},SlAt E w (Bl w.heap.size) A l→∀ W,Below n2 W0 W→SlAt E W (Bl W.heap.size) A l:=fun h W hb=>by
  rw [hn0] at h
  exact (h.blk (fun g hg=>(hb.block g (by have:g<n0:=hg;omega)).trans (hB0.block g hg))).more (fun g hg=>by have:g<n0:=hg;have:=hb.size;show g<W.heap.size;omega)
 have H1:=Lib.hid (up h1)
 have H2:=Lib.hid (up h2)
 have H3:=Lib.hid (up h3)
 have HR:Hid (∀ W,Below n2 W0 W→W.heap[n0]? = some (.cells #[.slice A im.length c,.slice A2 l.length c2,.slice A3 cl.length c3] 29 (0,0))∧W.heap[n0+1]? = some (.cells #[.slice none 0 0,.slice none 0 0,.slice none 0 0] 29 (0,0))):=fun W hb=>⟨(hb.block _ (by omega)).trans hr0,(hb.block _ (by omega)).trans hr1⟩
 have HN0:=Lib.hid hn0
 have HN2:=Lib.hid hn2
 have HB0:Hid (Below w.heap.size w W0):=by rw [hn0];exact hB0
 have HL:Hid (SnLim im l∧(∀ x∈l,x.2.2.length≤100000∧∀ y∈x.2.2,y.2.2.length≤1000000)∧(∀ x∈cl,x.2.2.length≤100000∧∀ y∈x.2.2,y.2.2.length≤1000000)):=⟨hL.sn,hL.sn.sav,hL.ovl⟩
 have hl1:=hL.sn.ims
 have hl2:=hL.sn.its
 have hl3:=hL.its
 simp only at hl1 hl2
 have HW0:=Lib.hid hW0
 clear h1 h2 h3 hL up hr0 hr1 hW0 hn2 hB0
 go_enter Tryz.func50,Tryz.ntmps50
 go_upto_region 1 with (fail)
 rw [HW0.out]
 obtain⟨p0,p1,p2,_⟩:=blk3 (HR.out W0 (Below.refl _ _)).1
 go_wp2_with fail
 clear p0 p1 p2
 go_loopw [3,16] (fun v i wr=>∃ (k:Nat) (B:Option Addr) (vc:Nat) (out:Img),k≤im.length∧i = .int .i64 k∧v = .slice B out.length vc∧Below n2 W0 wr∧n2≤wr.heap.size∧Hid (out=im.take k)∧Hid (OwnX (fun _=>False) (encSl encSec) wr n2 43 (.slice B out.length vc) out)) (fun _ i _=>im.length - (intOf i).toNat)
 case atStart=>exact⟨0,none,0,[],by omega,rfl,rfl,Below.refl _ _,by rw [HN2.out];exact Nat.le_refl _,by simp [Hid],OwnX.nil_⟩
 case round =>
  obtain⟨wo,rfl⟩:∃ wo:World,wo=wr:=⟨_,rfl⟩
  obtain⟨k,B,vc,out,hk,rfl,rfl,hB,hszo,hout,hown⟩:=hrel
  by_cases hlt:k<im.length
  ·obtain⟨b,off,D,dc,rfl,hb,g0,hD,hd1,hd2⟩:=(H1.out wo hB).sl hlt
   have hrl:=HL.out.1.row im[k] (List.getElem_mem hlt)
   have hst:Hid (im.take (k+1)=im.take k++[im[k]]):=List.take_succ_eq_append_getElem hlt
   obtain⟨row,hrow⟩:∃ x,im[k]=x:=⟨_,rfl⟩
   rw [hrow] at g0 hD hd1 hrl hst
   have hki:(k:Int)<im.length:=by omega
   have hnn:(0:Int)≤k:=by omega
   have hol:out.length≤k:=by rw [hout.out];simp;omega
   have HCL:=Lib.hid (cloneSecs_any D dc row.length row wo rfl hD hrl)
   clear hrow hD
   go_wp2_with fail
   refine HCL.out.mono ?_
   rintro e w4 ⟨A4,c4,rfl,k1,k2,k3,h4⟩
   have hO4:=Lib.hid ((hown.out.below h4).alloc (.cells #[.slice A4 row.length c4] 43))
   have hO4o:=Lib.hid hO4.out.1
   have hlt1:=Lib.hid hown.out.lt
   have hz4:=h4.size
   have HRD:Hid ((encSl encSec).rd (w4.alloc (.cells #[.slice A4 row.length c4] 43)) (fun g=>Nw n2 (w4.alloc (.cells #[.slice A4 row.length c4] 43)).heap.size g∧¬ False∧(Value.slice B out.length vc).ownBlock≠some g) [.slice A4 row.length c4] row) :=
    ⟨A4,c4,rfl,k1,k2,OwnX.since (X:=fun _=>False) (B:=wo.heap.size) ((k3.blk (fun g hg=>Below.heap_alloc _ _ _ hg.2)).more (fun g hg=>hg.mono (Nat.le_refl _) (by simp))) hszo (fun g hg=>hg.elim) (fun g hg=>(hlt1.out g hg).2)⟩
   clear g0 k3 HCL
   go_wp2_with (at_builtin;refine Hid.out ?_)
   change wpList _ _ _ _ _ _
   refine wpList_app1 (E:=encSl encSec) tyImage rfl _ _ rfl rfl hO4o.out row [.slice A4 row.length c4] rfl HRD.out (heap_alloc_new _ _) (fun _ h=>h.1.2) (by simp;omega) (by unfold maxLen;omega) (by omega) ?_
   intro A5 c5 w5 hown5 hg5 hat5
   have hz5:=hg5.size
   rw [World.size_alloc] at hz5
   have hO5:Hid (OwnX (fun _=>False) (encSl encSec) w5 n2 43 (.slice A5 (out.length+1) c5) (out++[row])):=hO4.out.app hown5 hg5 hat5 (fun g hg=>hg.elim)
   have hB5:Below n2 W0 w5:=hB.trans (((h4.mono hszo).alloc (by omega) (.cells #[.slice A4 row.length c4] 43)).grown hg5 (by simp;omega) (fun g h=>(hlt1.out g h).1))
   clear hown5 hg5 hat5 hO4 hO4o HRD h4
   go_wp2
   go_roundw
   case rel=>exact⟨k+1,A5,c5,out++[row],hlt,by go_num,by simp,hB5,by omega,by rw [Hid,hst.out,hout.out],by simpa [Hid] using hO5.out⟩
   case measure=>simp [intOf];omega
  ·have hkk:k=im.length:=by omega
   subst hkk
   rw [List.take_length] at hout
   rw [hout.out] at hown ⊢
   have hIM:Hid (im.length≤vc∧vc≤maxLen∧SlAt (encSl encSec) wo (Nw n2 wo.heap.size) B im):=by
    obtain⟨_,a,b,c⟩:=hown.out.parts
    exact⟨a,b,c.more (fun g hg=>hg.1)⟩
   obtain⟨p0,p1,p2,_⟩:=blk3 (HR.out wo hB).1
   obtain⟨wz,rfl⟩:∃ wz,wz=wo:=⟨_,rfl⟩
   obtain⟨z1,hz1⟩:∃ z1,wz.heap.size=z1:=⟨_,rfl⟩
   rw [hz1] at hIM hszo
   have hz1':z1≤wz.heap.size:=by omega
   have hBz:=hB
   have HZ1:=Lib.hid hz1
   clear hown hout hz1
   go_wp2_with fail
   clear p0 p1 p2
   go_loopw [6,30] (fun v i wr=>∃ (k:Nat) (D2:Option Addr) (dc:Nat) (out:List _),k≤l.length∧i = .int .i64 k∧v = .slice D2 out.length dc∧Below z1 wz wr∧z1≤wr.heap.size∧Hid (out=l.take k)∧Hid (OwnX (fun _=>False) encSnp wr z1 158 (.slice D2 out.length dc) out)) (fun _ i _=>l.length - (intOf i).toNat)
   case atStart=>exact⟨0,none,0,[],by omega,rfl,rfl,Below.refl _ _,by omega,by simp [Hid],OwnX.nil_⟩
   case round =>
    obtain⟨wp,rfl⟩:∃ wo:World,wo=wr:=⟨_,rfl⟩
    obtain⟨k,D2,dc,out,hk2,rfl,rfl,hBp,hszp,hout,hown⟩:=hrel
    have hBp2:Below n2 W0 wp:=hBz.trans (hBp.mono (by omega))
    by_cases hlt2:k<l.length
    ·obtain⟨b,off,D,dd,rfl,hb,g0,g1,g2,hD,hd1,hd2,hi1,hi2⟩:=(H2.out wp hBp2).snp hlt2
     obtain⟨hsl,hsd⟩:=HL.out.2.1 l[k] (List.getElem_mem hlt2)
     have hst:Hid (l.take (k+1)=l.take k++[l[k]]):=List.take_succ_eq_append_getElem hlt2
     obtain⟨x,hx⟩:∃ x,l[k]=x:=⟨_,rfl⟩
     rw [hx] at g0 g1 g2 hD hd1 hi1 hi2 hsl hsd hst
     obtain⟨num,tm,sv⟩:=x
     simp only at g0 g1 g2 hD hd1 hi1 hi2 hsl hsd
     have hki:(k:Int)<l.length:=by omega
     have hnn:(0:Int)≤k:=by omega
     have hol:out.length≤k:=by rw [hout.out];simp;omega
     clear hx
     obtain⟨W1,hW1⟩:∃ W1,wp.alloc (.cells #[.int .i64 num,.int .i64 tm,.slice D sv.length dd] 158)=W1:=⟨_,rfl⟩
     have HW1:=Lib.hid hW1
     have hb1:Below wp.heap.size wp W1:=by rw [← hW1];exact ext_alloc (Below.refl _ _)
     have hr1:W1.heap[wp.heap.size]? = some (.cells #[.int .i64 num,.int .i64 tm,.slice D sv.length dd] 158 (0,0)):=by rw [← hW1];exact heap_alloc_new _ _
     have hs1:W1.heap.size=wp.heap.size+1:=by rw [← hW1];simp
     have HWR:=Lib.hid (clWrites_any D dd sv.length sv W1 rfl ((hD.blk (w':=W1) (fun g hg=>hb1.block g hg)).more (fun g hg=>by have:g<wp.heap.size:=hg;show g<W1.heap.size;omega)) hsl hsd)
     clear hW1 hD
     go_upto_region 11 with (fail)
     rw [HW1.out]
     clear HW1 g0 g1 g2
     obtain⟨r0,r1,r2,rf⟩:=blk3 hr1
     go_wp2_with fail
     refine HWR.out.mono ?_
     rintro e w2 ⟨A3,c3,rfl,hox,hb2⟩
     obtain⟨_,k1,k2,k3⟩:=hox.parts
     have hr2:w2.heap[wp.heap.size]? = some (.cells #[.int .i64 num,.int .i64 tm,.slice D sv.length dd] 158 (0,0)):=(hb2.block _ (by omega)).trans hr1
     have HK3:=Lib.hid k3
     clear r0 r1 r2 rf hr1 HWR k3 hox
     obtain⟨r0,r1,r2,rf⟩:=blk3 hr2
     go_upto_region 12 with (fail)
     obtain⟨W3,hW3⟩:∃ W3,w2.setCell ⟨wp.heap.size,2,none⟩ (.slice A3 sv.length c3)=W3:=⟨_,rfl⟩
     rw [hW3]
     have hr3:W3.heap[wp.heap.size]? = some (.cells #[.int .i64 num,.int .i64 tm,.slice A3 sv.length c3] 158 (0,0)):=by rw [← hW3];exact blk3_set hr2 _
     have hs3:W3.heap.size=w2.heap.size:=by rw [← hW3];simp [World.setCell]
     have hs2:=hb2.size
     have hb3:Below wp.heap.size wp W3:=by rw [← hW3];exact (hb1.trans (hb2.mono hb1.size)).setCell (p:=⟨wp.heap.size,2,none⟩) (Nat.le_refl wp.heap.size) _
     have hK3:Hid (SlAt encWr W3 (Nw W1.heap.size W3.heap.size) A3 sv):=by
      rw [hs3]
      refine (HK3.out.more (fun g hg=>hg.1)).blk (fun g hg => ?_)
      rw [← hW3]
      exact Below.heap_setCell _ _ _ _ (by have:=hg.1;show g≠wp.heap.size;omega)
     have hs3g:w2.heap.size≤W3.heap.size:=by omega
     have hs1g:wp.heap.size+1≤W1.heap.size:=by omega
     clear r0 r1 r2 rf hr2 hW3 HK3 hb2 hb1 hs3 hs1
     obtain⟨r0,r1,r2,_⟩:=blk3 hr3
     have hO4:=Lib.hid ((hown.out.below hb3).alloc (.cells #[.int .i64 num,.int .i64 tm,.slice A3 sv.length c3] 158))
     have hO4o:=Lib.hid hO4.out.1
     have hlt1:=Lib.hid hown.out.lt
     have HRD:Hid ((encSnp).rd (W3.alloc (.cells #[.int .i64 num,.int .i64 tm,.slice A3 sv.length c3] 158)) (fun g=>Nw z1 (W3.alloc (.cells #[.int .i64 num,.int .i64 tm,.slice A3 sv.length c3] 158)).heap.size g∧¬ False∧(Value.slice D2 out.length dc).ownBlock≠some g) [.int .i64 num,.int .i64 tm,.slice A3 sv.length c3] (num,tm,sv)) :=
      snp_mk (x:=(num,tm,sv)) hi1 hi2 k1 k2 (OwnX.since (X:=fun _=>False) (B:=W1.heap.size) ((hK3.out.blk (fun g hg=>Below.heap_alloc _ _ _ hg.2)).more (fun g hg=>hg.mono (Nat.le_refl _) (by simp))) (by omega) (fun g hg=>hg.elim) (fun g hg=>by have:=(hlt1.out g hg).2;omega))
     go_wp2_with (at_builtin;refine Hid.out ?_)
     change wpList _ _ _ _ _ _
     refine wpList_app1 (E:=encSnp) tySnps rfl _ _ rfl rfl hO4o.out (num,tm,sv) [.int .i64 num,.int .i64 tm,.slice A3 sv.length c3] rfl HRD.out (heap_alloc_new _ _) (fun _ h=>h.1.2) (by simp;omega) (by unfold maxLen;omega) (by omega) ?_
     intro A5 c5 w5 hown5 hg5 hat5
     have hz5:=hg5.size
     rw [World.size_alloc] at hz5
     have hO5:Hid (OwnX (fun _=>False) encSnp w5 z1 158 (.slice A5 (out.length+1) c5) (out++[(num,tm,sv)])):=hO4.out.app hown5 hg5 hat5 (fun g hg=>hg.elim)
     have hB5:Below z1 wz w5:=hBp.trans (((hb3.mono hszp).alloc (by omega) (.cells #[.int .i64 num,.int .i64 tm,.slice A3 sv.length c3] 158)).grown hg5 (by simp;omega) (fun g h=>(hlt1.out g h).1))
     clear hown5 hg5 hat5 r0 r1 r2 hr3 hO4 hO4o HRD hK3
     go_wp2
     go_roundw
     case rel=>exact⟨k+1,A5,c5,out++[(num,tm,sv)],hlt2,by go_num,by simp,hB5,by omega,by rw [Hid,hst.out,hout.out],by simpa [Hid] using hO5.out⟩
     case measure=>simp [intOf];omega
    ·have hkk:k=l.length:=by omega
     subst hkk
     rw [List.take_length] at hout
     rw [hout.out] at hown ⊢
     clear hout
     have hSN:Hid (l.length≤dc∧dc≤maxLen∧SlAt encSnp wp (Nw z1 wp.heap.size) D2 l):=by
      obtain⟨_,a,b,c⟩:=hown.out.parts
      exact⟨a,b,c.more (fun g hg=>hg.1)⟩
     obtain⟨wa,rfl⟩:∃ wa,wa=wz:=⟨_,rfl⟩
     obtain⟨wz,rfl⟩:∃ wz,wz=wp:=⟨_,rfl⟩
     obtain⟨D1,rfl⟩:∃ D1,D1=D2:=⟨_,rfl⟩
     obtain⟨d1,rfl⟩:∃ d1,d1=dc:=⟨_,rfl⟩
     have HB1:=Lib.hid hBp
     clear hBz hBp
     have hBz:=hBp2
     obtain⟨p0,p1,p2,_⟩:=blk3 (HR.out wz hBp2).1
     obtain⟨z2,hz2⟩:∃ z2,wz.heap.size=z2:=⟨_,rfl⟩
     rw [hz2] at hSN hszp
     have hz2':z2≤wz.heap.size:=by omega
     have HZ2:=Lib.hid hz2
     clear hown hz2 hBp2
     go_wp2_with fail
     clear p0 p1 p2
     go_loopw [9,46] (fun v i wr=>∃ (k:Nat) (D2:Option Addr) (dc:Nat) (out:List CB),k≤cl.length∧i = .int .i64 k∧v = .slice D2 out.length dc∧Below z2 wz wr∧z2≤wr.heap.size∧Hid (out.map (·.1)=cl.take k)∧Hid (ClsOwn wr z2 D2 dc out)) (fun _ i _=>cl.length - (intOf i).toNat)
     case atStart=>exact⟨0,none,0,[],by omega,rfl,rfl,Below.refl _ _,by omega,by simp [Hid],⟨Own.nil_,(fun y hy=>by cases hy),List.Pairwise.nil⟩⟩
     case round =>
      obtain⟨wp,rfl⟩:∃ wo:World,wo=wr:=⟨_,rfl⟩
      obtain⟨k,D2,dc,out,hk2,rfl,rfl,hBp,hszp,hout,hown⟩:=hrel
      have hBp2:Below n2 W0 wp:=hBz.trans (hBp.mono (by omega))
      by_cases hlt2:k<cl.length
      ·obtain⟨b,off,D,dd,rfl,hb,g0,g1,g2,hD,hd1,hd2,hi1,hi2⟩:=(H3.out wp hBp2).cln hlt2
       obtain⟨hsl,hsd⟩:=HL.out.2.2 cl[k] (List.getElem_mem hlt2)
       have hst:Hid (cl.take (k+1)=cl.take k++[cl[k]]):=List.take_succ_eq_append_getElem hlt2
       obtain⟨x,hx⟩:∃ x,cl[k]=x:=⟨_,rfl⟩
       rw [hx] at g0 g1 g2 hD hd1 hi1 hi2 hsl hsd hst
       obtain⟨num,tm,sv⟩:=x
       simp only at g0 g1 g2 hD hd1 hi1 hi2 hsl hsd
       have hki:(k:Int)<cl.length:=by omega
       have hnn:(0:Int)≤k:=by omega
       have hol:out.length≤k:=by have:=congrArg List.length hout.out;rw [List.length_map] at this;rw [this];simp;omega
       clear hx
       obtain⟨W1,hW1⟩:∃ W1,wp.alloc (.cells #[.string num,.int .i64 tm,.slice D sv.length dd] 87)=W1:=⟨_,rfl⟩
       have HW1:=Lib.hid hW1
       have hb1:Below wp.heap.size wp W1:=by rw [← hW1];exact ext_alloc (Below.refl _ _)
       have hr1:W1.heap[wp.heap.size]? = some (.cells #[.string num,.int .i64 tm,.slice D sv.length dd] 87 (0,0)):=by rw [← hW1];exact heap_alloc_new _ _
       have hs1:W1.heap.size=wp.heap.size+1:=by rw [← hW1];simp
       have HWR:=Lib.hid (clWrites_any D dd sv.length sv W1 rfl ((hD.blk (w':=W1) (fun g hg=>hb1.block g hg)).more (fun g hg=>by have:g<wp.heap.size:=hg;show g<W1.heap.size;omega)) hsl hsd)
       clear hW1 hD
       go_upto_region 18 with (fail)
       rw [HW1.out]
       clear HW1 g0 g1 g2
       obtain⟨r0,r1,r2,rf⟩:=blk3 hr1
       go_wp2_with fail
       refine HWR.out.mono ?_
       rintro e w2 ⟨A3,c3,rfl,hox,hb2⟩
       obtain⟨_,k1,k2,k3⟩:=hox.parts
       have hr2:w2.heap[wp.heap.size]? = some (.cells #[.string num,.int .i64 tm,.slice D sv.length dd] 87 (0,0)):=(hb2.block _ (by omega)).trans hr1
       have HK3:=Lib.hid k3
       have HOX:=Lib.hid (show OwnIn w2 W1.heap.size w2.heap.size (.slice A3 sv.length c3) sv from ⟨hox.1.more (fun g hg=>⟨hg.1,hg.2.2⟩) (fun g hg hS=>hS.2 hg),fun g hg=>(hox.lt g hg).2⟩)
       clear r0 r1 r2 rf hr1 HWR k3 hox
       obtain⟨r0,r1,r2,rf⟩:=blk3 hr2
       go_upto_region 19 with (fail)
       obtain⟨W3,hW3⟩:∃ W3,w2.setCell ⟨wp.heap.size,2,none⟩ (.slice A3 sv.length c3)=W3:=⟨_,rfl⟩
       rw [hW3]
       have hr3:W3.heap[wp.heap.size]? = some (.cells #[.string num,.int .i64 tm,.slice A3 sv.length c3] 87 (0,0)):=by rw [← hW3];exact blk3_set hr2 _
       have hs3:W3.heap.size=w2.heap.size:=by rw [← hW3];simp [World.setCell]
       have hs2:=hb2.size
       have hb3:Below wp.heap.size wp W3:=by rw [← hW3];exact (hb1.trans (hb2.mono hb1.size)).setCell (p:=⟨wp.heap.size,2,none⟩) (Nat.le_refl wp.heap.size) _
       have hK3:Hid (OwnIn W3 W1.heap.size w2.heap.size (.slice A3 sv.length c3) sv):=HOX.out.keep (fun g hg=>by
        rw [← hW3]
        exact Below.heap_setCell _ _ _ _ (by have:=hg.1;show g≠wp.heap.size;omega))
       have hs3g:w2.heap.size≤W3.heap.size:=by omega
       have hs1g:wp.heap.size+1≤W1.heap.size:=by omega
       have hs3g2:W3.heap.size≤w2.heap.size:=by omega
       clear r0 r1 r2 rf hr2 hW3 HK3 hb2 hb1 hs3 hs1
       obtain⟨r0,r1,r2,_⟩:=blk3 hr3
       have hO4o:=Lib.hid ((hown.out.own.blk (w':=W3) (fun b hb=>by
        rcases hb with hb | hb
        ·exact hb.elim
        ·exact hb3.block b (hown.out.own.lt b hb).2)).blk (w':=W3.alloc (.cells #[.string num,.int .i64 tm,.slice A3 sv.length c3] 87)) (fun b hb=>by
        rcases hb with hb | hb
        ·exact hb.elim
        ·exact Below.heap_alloc _ _ _ (by have:=(hown.out.own.lt b hb).2;omega)))
       have hlt1:=Lib.hid hown.out.own.lt
       obtain⟨y,hy⟩:∃ y:CB,y=((num,tm,sv),A3,c3,W1.heap.size,w2.heap.size):=⟨_,rfl⟩
       have HRD:Hid (encCB.rd (W3.alloc (.cells #[.string num,.int .i64 tm,.slice A3 sv.length c3] 87)) (fun _=>False) [.string num,.int .i64 tm,.slice A3 sv.length c3] y):=by
        rw [hy];exact⟨rfl,hi1,hi2⟩
       have HY:=Lib.hid hy
       clear hy
       go_wp2_with (at_builtin;refine Hid.out ?_)
       change wpList _ _ _ _ _ _
       refine wpList_app1 (E:=encCB) tyCBs rfl _ _ rfl rfl hO4o.out y [.string num,.int .i64 tm,.slice A3 sv.length c3] rfl HRD.out (heap_alloc_new _ _) (fun _ h=>h.elim) (by simp;omega) (by unfold maxLen;omega) (by omega) ?_
       intro A5 c5 w5 hown5 hg5 hat5
       have hz5:=hg5.size
       rw [World.size_alloc] at hz5
       have ha1:(out++[y]).length=out.length+1:=by simp
       have hk5:∀ b,b<W3.heap.size→(Value.slice D2 out.length dc).ownBlock≠some b→w5.heap[b]? = W3.heap[b]? := fun b hb hne=>(hg5.block b (by rw [World.size_alloc];omega) (fun e=>hne e.symm)).trans (Below.heap_alloc _ _ _ hb)
       have hO5:Hid (ClsOwn w5 z2 A5 c5 (out++[y])):=by
        have hvb:∀ b,(Value.slice A5 (out++[y]).length c5).ownBlock=some b→(Value.slice D2 out.length dc).ownBlock=some b∨b=W3.heap.size+1:=fun b hb=>by
         rw [ha1] at hb
         have hat5':(Value.slice A5 (out.length+1) c5).ownBlock=(Value.slice D2 out.length dc).ownBlock∨(Value.slice A5 (out.length+1) c5).ownBlock=some (W3.heap.size+1):=by rw [World.size_alloc] at hat5;exact hat5
         rcases hat5' with hat | hat
         ·exact Or.inl (by rw [← hat];exact hb)
         ·rw [hat] at hb;injection hb with hb;exact Or.inr hb.symm
        refine⟨by rw [ha1];exact hown5,fun y' hy' => ?_, ?_⟩
        ·rcases List.mem_append.1 hy' with hy' | hy'
         ·obtain⟨a,b,c,d⟩:=hown.out.ov y' hy'
          refine⟨a,by omega,c.keep (fun x hx=>(hk5 x (by have:=hx.2;have:=hb3.size;omega) (fun e=>d x e hx)).trans (hb3.block x (by have:=hx.2;omega))),fun x hx hn => ?_⟩
          rcases hvb x hx with e | e
          ·exact d x e hn
          ·have:=hn.2;have:=hb3.size;omega
         ·have hvb':=hvb
          rw [HY.out] at hvb'
          rw [List.mem_singleton.1 hy',HY.out]
          refine⟨by show z2≤W1.heap.size;omega,by show w2.heap.size≤w5.heap.size;omega,hK3.out.keep (fun x hx=>hk5 x (by have:=hx.2;omega) (fun e=>by have:=(hlt1.out x e).2;have:=hx.1;omega)),fun x hx hn => ?_⟩
          rcases hvb' x hx with e | e
          ·have:=(hlt1.out x e).2;have:=hn.1;simp only at this;omega
          ·have:=hn.2;simp only at this;omega
        ·rw [List.pairwise_append]
         refine⟨hown.out.dj,List.pairwise_singleton _ _,fun a ha b hb => ?_⟩
         rw [List.mem_singleton.1 hb,HY.out]
         have:=(hown.out.ov a ha).2.1
         show a.2.2.2.2≤W1.heap.size
         omega
       have hB5:Below z2 wz w5:=hBp.trans (((hb3.mono hszp).alloc (by omega) (.cells #[.string num,.int .i64 tm,.slice A3 sv.length c3] 87)).grown hg5 (by rw [World.size_alloc];omega) (fun g h=>(hlt1.out g h).1))
       have hm5:Hid ((out++[y]).map (·.1)=cl.take (k+1)):=by rw [Hid,hst.out,List.map_append,hout.out,HY.out];rfl
       clear hown5 hg5 hat5 r0 r1 r2 hr3 hO4o HRD hK3 hk5
       go_wp2
       go_roundw
       case rel=>exact⟨k+1,A5,c5,out++[y],hlt2,by go_num,by rw [ha1],hB5,by omega,hm5.out,hO5.out⟩
       case measure=>simp [intOf];omega
      ·have hkk:k=cl.length:=by omega
       subst hkk
       rw [List.take_length] at hout
       have hcll:out.length=cl.length:=by have:=congrArg List.length hout.out;rw [List.length_map] at this;exact this
       have HYS:=Lib.hid (show ∃ ys,ys.map (·.1)=cl∧ClsOwn wp z2 D2 dc ys from ⟨out,hout.out,hown.out⟩)
       have hown2:=Lib.hid (hown.out.ownX hout.out)
       clear hown hout
       have hown:=hown2
       clear hown2
       rw [hcll]
       clear hcll
       obtain⟨v0,v1,v2,vf⟩:=blk3 (HR.out wp hBp2).2
       have HHP:=Lib.hid (HR.out wp hBp2).2
       have HB2:=Lib.hid hBp
       have HBP2:=Lib.hid hBp2
       clear hBp hBp2 hBz
       go_wp2_with fail
       change bodyPost _ _ _ _ _ (sw3 wp (n0+1) (.slice B im.length vc) (.slice D1 l.length d1) (.slice D2 cl.length dc))
       have hz:=sw3_row HHP.out (.slice B im.length vc) (.slice D1 l.length d1) (.slice D2 cl.length dc)
       have ho:∀ g,n2≤g→(sw3 wp (n0+1) (.slice B im.length vc) (.slice D1 l.length d1) (.slice D2 cl.length dc)).heap[g]? = wp.heap[g]? := fun g hg=>sw3_other (by omega) _ _ _
       have hBe:Below n0 W0 (sw3 wp (n0+1) (.slice B im.length vc) (.slice D1 l.length d1) (.slice D2 cl.length dc)):=(((HBP2.out.mono (by omega:n0≤n2)).setCell (p:=⟨n0+1,0,none⟩) (by show n0≤n0+1;omega) _).setCell (p:=⟨n0+1,1,none⟩) (by show n0≤n0+1;omega) _).setCell (p:=⟨n0+1,2,none⟩) (by show n0≤n0+1;omega) _
       have hsz:(sw3 wp (n0+1) (.slice B im.length vc) (.slice D1 l.length d1) (.slice D2 cl.length dc)).heap.size=wp.heap.size:=by simp [sw3,World.setCell]
       generalize sw3 wp (n0+1) (.slice B im.length vc) (.slice D1 l.length d1) (.slice D2 cl.length dc)=W3 at hz ho hBe hsz ⊢
       obtain⟨y0,y1,y2,_⟩:=blk3 hz
       have hret:ClRet (im,l) cl B vc D1 d1 D2 dc z1 z2 n0 W3 :=
        ⟨⟨hIM.out.1,hIM.out.2.1,(hIM.out.2.2.blk (fun g hg=>(ho g hg.1).trans ((HB2.out.block g (by have:=hg.2;omega)).trans (HB1.out.block g hg.2)))).more (fun g hg=>⟨by have:=hg.1;omega,hg.2⟩)⟩,
         ⟨hSN.out.1,hSN.out.2.1,hSN.out.2.2.blk (fun g hg=>(ho g (by have:=hg.1;omega)).trans (HB2.out.block g hg.2))⟩,
         ⟨by omega,by omega,by omega⟩,hown.out.keep (by omega) (fun g h1 h2 _=>ho g (by omega)),by
          obtain⟨ys,e1,e2⟩:=HYS.out
          exact⟨ys,e1,e2.keep (by omega) (fun g h1 h2=>ho g (by omega))⟩⟩
       have hHR:=Lib.hid hret
       have hBee:=Lib.hid hBe
       clear hret hBe ho hsz hown HHP HBP2
       refine bodyPost_ret (v := .agg #[.slice B im.length vc,.slice D1 l.length d1,.slice D2 cl.length dc]) ?_ rfl ?_
       ·simp [results,Tryz.results50,Tryz.f50,go_sem,y0,y1,y2]
       ·exact⟨B,vc,D1,d1,D2,dc,z1,z2,rfl,by rw [HN0.out];exact hHR.out,HB0.out.trans (by rw [HN0.out];exact hBee.out)⟩
end Go.Proofs.YtgndgkjefgjamaaGreat
namespace Go.Proofs.YtgndgkjefgjamaaGreat

section
variable {P:Program} {ops:Array Oper} {Q:Exit→Act→World→Prop} {md:Region.Mode} {S:World→Prop} {k:Nat}
def wpAnyU (P:Program) (md:Region.Mode) (ops:Array Oper) (Q:Exit→Act→World→Prop) (S:World→Prop) (k:Nat):Nat→Array Bool→Act→World→Prop
 | 0,listed,a,w=>Region.ready md ops listed=[]∧Q .normal a w
 | fuel+1,listed,a,w =>
   (Region.ready md ops listed=[]→Q .normal a w) ∧
   ∀ i∈Region.ready md ops listed,wpOp P ops Q i (fun a' w'=>(i≠k→S w')∧wpAnyU P md ops Q S k fuel (listed.setIfInBounds i true) a' w') a w
theorem wpAny_ofU:∀ (fuel:Nat) (listed:Array Bool) (a:Act) (w:World),wpAnyU P md ops Q S k fuel listed a w→wpAny P md ops Q fuel listed a w
 | 0,_,_,_,h=>h
 | fuel+1,_,_,_,h=>⟨h.1,fun i hi=>wpOp_mono (fun a' w' h'=>wpAny_ofU fuel _ a' w' h'.2) (h.2 i hi)⟩
def waitsFor (md:Region.Mode) (ops:Array Oper) (k i:Nat):Bool:=match ops[k]? with
 | none=>true
 | some o=>o.after.any fun e=>Region.binds md e && e.on==i
theorem waits_not {i:Nat} {listed:Array Bool} (h:waitsFor md ops k i=true) (hi:i∈Region.ready md ops listed):¬ k∈Region.ready md ops listed:=fun hk=>by
 obtain⟨_,o,ho,hall⟩:=mem_ready.1 hk
 unfold waitsFor at h
 rw [ho] at h
 simp only [Array.any_eq_true] at h
 obtain⟨j,hj,hb⟩:=h
 simp only [Bool.and_eq_true,beq_iff_eq] at hb
 have h1:=hall _ (Array.getElem_mem hj) hb.1
 have h0:=(mem_ready.1 hi).1
 rw [hb.2] at h1
 rcases Nat.lt_or_ge i listed.size with h' | h'
 ·simp [h'] at h0 h1;rw [h0] at h1;cases h1
 ·simp [Array.getElem?_eq_none h'] at h1
theorem wpAnyU_first {i:Nat} {oi:Oper} {v:Value} (hi:ops[i]? = some oi) (hsel:∀ (j:Nat) (o:Oper) cs b,ops[j]? = some o→o.op ≠ .select cs b)
  (hQ:∀ c a w,Q (.panic c) (a.put oi.dst v) w→Q (.panic c) a w) (hik:i≠k) (hwt:waitsFor md ops k i=true) :
  ∀ (fuel:Nat) (listed:Array Bool) (a:Act) (w:World),
    (∀ j oj,ops[j]? = some oj→j≠i→listed.getD j true=false→(∀ e∈oj.after,Region.binds md e=true→e.on≠i)→oi.apart ops oj=true) →
    i∈Region.ready md ops listed→YieldsIf P ops S oi v a→S w →
    wpAnyU P md ops Q S k fuel (listed.setIfInBounds i true) (a.put oi.dst v) w→wpAnyU P md ops Q S k (fuel+1) listed a w:=by
 intro fuel
 induction fuel with
 | zero =>
   intro listed a w _ hr hy hS H
   refine⟨fun h=>(by rw [h] at hr;cases hr),fun j hj => ?_⟩
   by_cases hji:j=i
   ·subst hji;exact hy.wpOp hi hS ⟨fun _=>hS,H⟩
   ·have:=ready_mono hj hji
    rw [H.1] at this
    cases this
 | succ fuel ih =>
   intro listed a w hfree hr hy hS H
   refine⟨fun h=>(by rw [h] at hr;cases hr),fun j hj => ?_⟩
   by_cases hji:j=i
   ·subst hji;exact hy.wpOp hi hS ⟨fun _=>hS,H⟩
   ·have hjk:j≠k:=fun e=>by subst e;exact waits_not hwt hr hj
    have h1:=H.2 j (ready_mono hj hji)
    obtain⟨hjun,oj,hoj,hall⟩:=mem_ready.1 hj
    have hnot:∀ e∈oj.after,Region.binds md e=true→e.on≠i:=fun e he hb heq=>by
     have h1:=hall e he hb
     have h0:=(mem_ready.1 hr).1
     rw [heq] at h1
     rcases Nat.lt_or_ge i listed.size with h' | h'
     ·simp [h'] at h0 h1;rw [h0] at h1;cases h1
     ·simp [Array.getElem?_eq_none h'] at h1
    have h2:=wpOp_putIf hoj (hfree j oj hoj hji hjun hnot) (fun cs b=>hsel i oi cs b hi) (fun cs b=>hsel j oj cs b hoj) hQ hy h1
    have hfree':∀ m ok,ops[m]? = some ok→m≠i→(listed.setIfInBounds j true).getD m true=false →
      (∀ e∈ok.after,Region.binds md e=true→e.on≠i)→oi.apart ops ok=true:=fun m ok hm hmi hun hno=>by
     refine hfree m ok hm hmi ?_ hno
     by_cases hjm:j=m
     ·subst hjm;exact hjun
     ·rw [getD_set_ne true hjm] at hun;exact hun
    refine wpOp_mono (fun a' w' h3=>⟨h3.2.1,ih (listed.setIfInBounds j true) a' w' hfree' (ready_mono hr (Ne.symm hji)) h3.1 (h3.2.1 hjk) ?_⟩) h2
    rw [Array.setIfInBounds_comm _ _ hji]
    exact h3.2.2
theorem wpAnyU_take {i:Nat} {oi:Oper} {v:Value} {fuel:Nat} {listed:Array Bool} {a:Act} {w:World} (hi:ops[i]? = some oi)
  (hs:Region.noSelect ops=true) (hf:Region.free md ops listed i=true) (hr:(Region.ready md ops listed).contains i=true) (hk:(waitsFor md ops k i && !(i==k))=true)
  (hQ:∀ c a w,Q (.panic c) (a.put oi.dst v) w→Q (.panic c) a w) (hw:Region.wanted oi (yielded ops a.tmps)=true) (hy:∀ w,S w→(execOp a.eval oi).run P w = .ok (.value v) w) (hS:S w)
  (h:wpAnyU P md ops Q S k fuel (listed.setIfInBounds i true) (a.put oi.dst v) w):wpAnyU P md ops Q S k (fuel+1) listed a w:=by
 simp only [Bool.and_eq_true,Bool.not_eq_true',beq_eq_false_iff_ne] at hk
 exact wpAnyU_first hi (Region.noSelect_spec hs) hQ hk.2 hk.1 fuel listed a w (Region.free_spec hi hf) (by simpa using hr) (Or.inl ⟨hw,hy⟩) hS h
theorem wpAnyU_takeD {i:Nat} {oi:Oper} {v:Value} {d:Nat} {fuel:Nat} {listed:Array Bool} {a:Act} {w:World} (hi:ops[i]? = some oi) (hd:oi.dst=some d)
  (hs:Region.noSelect ops=true) (hf:Region.free md ops listed i=true) (hr:(Region.ready md ops listed).contains i=true) (hk:(waitsFor md ops k i && !(i==k))=true)
  (hQ:∀ c a w,Q (.panic c) (a.put (some d) v) w→Q (.panic c) a w) (hw:Region.wanted oi (yielded ops a.tmps)=true) (hy:∀ w,S w→(execOp a.eval oi).run P w = .ok (.value v) w) (hS:S w)
  (h:wpAnyU P md ops Q S k fuel (listed.setIfInBounds i true) { tmps:=a.tmps.setIfInBounds d v,defers:=a.defers } w):wpAnyU P md ops Q S k (fuel+1) listed a w :=
 wpAnyU_take (v:=v) hi hs hf hr hk (by rw [hd];exact hQ) hw hy hS (by rw [hd];exact h)
theorem wpAnyU_one {i:Nat} {o:Oper} {fuel:Nat} {listed:Array Bool} {a:Act} {w:World} (hr:Region.ready md ops listed=[i]) (ho:ops[i]? = some o)
  (h:∀ K':Act→World→Prop,Shut (∀ a w,(i≠k→S w)→wpAnyU P md ops Q S k fuel (listed.setIfInBounds i true) a w→K' a w)→if Region.wanted o (yielded ops a.tmps)=true then Oper.wp P o a w K' Q else K' (a.put o.dst undef) w) :
  wpAnyU P md ops Q S k (fuel+1) listed a w :=
 ⟨fun h0=>by rw [hr] at h0;simp at h0,fun j hj=>by
  rw [hr,List.mem_singleton] at hj
  subst hj
  exact wpOp_step ho (fun K' hK=>h K' (fun a w hS hW=>hK a w ⟨hS,hW⟩))⟩
theorem wpAnyU_op {i:Nat} {o:Oper} {fuel:Nat} {listed:Array Bool} {a:Act} {w:World} (hr:Region.ready md ops listed=[i]) (ho:ops[i]? = some o) (hg:o.guard=none)
  (h:∀ K':Act→World→Prop,Shut (∀ a w,(i≠k→S w)→wpAnyU P md ops Q S k fuel (listed.setIfInBounds i true) a w→K' a w)→Oper.wp P o a w K' Q) :
  wpAnyU P md ops Q S k (fuel+1) listed a w :=
 wpAnyU_one hr ho (fun K' hK=>by rw [if_pos (by simp [Region.wanted,hg])];exact h K' hK)
theorem wpAnyU_two {i j:Nat} {oi oj:Oper} {fuel:Nat} {listed:Array Bool} {a:Act} {w:World} (hr:Region.ready md ops listed=[i,j]) (hoi:ops[i]? = some oi) (hoj:ops[j]? = some oj) (hgi:oi.guard=none) (hgj:oj.guard=none)
  (hi:∀ K':Act→World→Prop,Shut (∀ a w,(i≠k→S w)→wpAnyU P md ops Q S k fuel (listed.setIfInBounds i true) a w→K' a w)→Oper.wp P oi a w K' Q)
  (hj:∀ K':Act→World→Prop,Shut (∀ a w,(j≠k→S w)→wpAnyU P md ops Q S k fuel (listed.setIfInBounds j true) a w→K' a w)→Oper.wp P oj a w K' Q) :
  wpAnyU P md ops Q S k (fuel+1) listed a w :=
 ⟨fun h0=>by rw [hr] at h0;simp at h0,fun m hm=>by
  rw [hr] at hm
  simp only [List.mem_cons,List.not_mem_nil,or_false] at hm
  rcases hm with rfl | rfl
  ·exact wpOp_step hoi (fun K' hK=>by rw [if_pos (by simp [Region.wanted,hgi])];exact hi K' (fun a w hS hW=>hK a w ⟨hS,hW⟩))
  ·exact wpOp_step hoj (fun K' hK=>by rw [if_pos (by simp [Region.wanted,hgj])];exact hj K' (fun a w hS hW=>hK a w ⟨hS,hW⟩))⟩
theorem wpAnyU_done {listed:Array Bool} {a:Act} {w:World} (hr:Region.ready md ops listed=[]) (h:Q .normal a w):∀ fuel,wpAnyU P md ops Q S k fuel listed a w
 | 0=>⟨hr,h⟩
 | _+1=>⟨fun _=>h,by rw [hr];simp⟩
theorem wp_region_U {id:Nat} {a:Act} {w:World} (S:World→Prop) (k:Nat) (hm:P.follows .mixedOrders=true)
  (h:wpAnyU P .any ops Q S k ops.size (Array.replicate ops.size false) a w.drew):(Code.region id ops true).wp P Q a w :=
 wp_region_any hm (wpAny_ofU _ _ _ _ h)
end
end Go.Proofs.YtgndgkjefgjamaaGreat
namespace Go.Proofs.YtgndgkjefgjamaaGreat
open Go.RowKit Go.Shelf
attribute [local go_sem] Oper.semAt_some

set_option maxHeartbeats 1000000 in
theorem clSizes (A:Option Addr) (c n:Nat) (im:Img) (w:World) (hn:im.length=n) (h1:SlAt (encSl encSec) w (Bl w.heap.size) A im) (hl:n≤100000) :
  Calls Tryz.prog 58 #[.slice A n c] w fun e w'=>∃ B vc,e = .returned (.slice B n vc)∧n≤vc∧vc≤maxLen∧SlAt encInt w' (Nw w.heap.size w'.heap.size) B (lens im)∧Below w.heap.size w w':=by
 subst hn
 have H1:Hid (∀ w',Below w.heap.size w w'→SlAt (encSl encSec) w' (Bl w.heap.size) A im):=fun w' hb=>h1.below hb
 clear h1
 go_enter Tryz.func58,Tryz.ntmps58
 go_wp2
 go_loopw [3,8] (fun v i wr=>∃ (k:Nat) (B:Option Addr) (vc:Nat) (out:List Int),k≤im.length∧i = .int .i64 k∧v = .slice B out.length vc∧Below w.heap.size w wr∧Hid (out=lens (im.take k))∧Hid (OwnX (fun _=>False) encInt wr w.heap.size 3 (.slice B out.length vc) out)) (fun _ i _=>im.length - (intOf i).toNat)
 case atStart=>exact⟨0,none,0,[],by omega,rfl,rfl,Below.refl _ _,by simp [Hid,lens],OwnX.nil_⟩
 case round =>
  obtain⟨wo,rfl⟩:∃ wo:World,wo=wr:=⟨_,rfl⟩
  obtain⟨k,B,vc,out,hk,rfl,rfl,hB,hout,hown⟩:=hrel
  by_cases hlt:k<im.length
  ·obtain⟨b,off,D,dc,rfl,hb,g0,hD,hd1,hd2⟩:=(H1.out wo hB).sl hlt
   have hst:Hid (lens (im.take (k+1))=lens (im.take k)++[(im[k].length:Int)]):=by rw [Hid,List.take_succ_eq_append_getElem hlt,lens,List.map_append];rfl
   obtain⟨n,hn⟩:∃ n,im[k].length=n:=⟨_,rfl⟩
   rw [hn] at g0 hd1 hst
   have hki:(k:Int)<im.length:=by omega
   have hnn:(0:Int)≤k:=by omega
   have hol:out.length≤k:=by rw [hout.out];simp [lens];omega
   have hszo:=hB.size
   have hn63:(n:Int)≤9223372036854775807:=by unfold maxLen at hd2;omega
   have hO4:=Lib.hid (hown.out.alloc (.cells #[.int .i64 n] 3))
   have hO4o:=Lib.hid hO4.out.1
   have hlo:=Lib.hid hown.out.lt
   have HRD:Hid (encInt.rd (wo.alloc (.cells #[.int .i64 n] 3)) (fun g=>Nw w.heap.size (wo.alloc (.cells #[.int .i64 n] 3)).heap.size g∧¬ (fun _=>False) g∧(Value.slice B out.length vc).ownBlock≠some g) [.int .i64 n] (n:Int)):=⟨rfl,by unfold I64;omega⟩
   clear hn hD hd1 hd2
   go_wp2_with (at_builtin;refine Hid.out ?_)
   change wpList _ _ _ _ _ _
   refine wpList_app1 (E:=encInt) (t:=113) (e:=3) (bytes:=8) (sliceTy_mk (z := .int .i64 0) Tryz.underlying113 (by kernel_rfl) rfl (by decide)) rfl _ _ rfl rfl hO4o.out (n:Int) [.int .i64 n] rfl HRD.out (heap_alloc_new _ _) (fun _ h=>h.1.2) (by simp;omega) (by unfold maxLen;omega) (by omega) ?_
   intro A5 c5 w5 hown5 hg5 hat5
   have hO5:=Lib.hid (hO4.out.app hown5 hg5 hat5 (fun _ h=>h.elim))
   have hB5:=Lib.hid ((hB.alloc (by omega) (.cells #[.int .i64 n] 3)).grown hg5 (by simp;omega) (fun g h=>(hlo.out g h).1))
   clear hown5 hg5 hat5 g0
   go_wp2
   go_roundw
   case rel=>exact⟨k+1,A5,c5,out++[(n:Int)],hlt,by go_num,by simp,hB5.out,by rw [Hid,hst.out,hout.out],by have:=hO5.out;simpa [Hid] using this⟩
   case measure=>simp [intOf];omega
  ·have hkk:k=im.length:=by omega
   subst hkk
   go_wp2
   go_ret
   have e:=hout.out
   rw [List.take_length] at e
   obtain⟨_,p1,p2,p3⟩:=hown.out.parts
   have el:out.length=im.length:=by rw [e];simp [lens]
   refine⟨B,vc,by rw [← el];rfl,by omega,p2, ?_,hB⟩
   rw [← e]
   exact p3.more (fun _ h=>h.1)
set_option maxHeartbeats 4000000 in
set_option maxRecDepth 100000 in
theorem clCheck_any (A A2 A3:Option Addr) (c c2 c3 n m p:Nat) (im:Img) (l:List Snp) (cl:List Cln) (r:Int) (w:World) (hn:im.length=n) (hm:l.length=m) (hp:cl.length=p) (hr:clE ((im,l),cl)=r) (h1:SlAt (encSl encSec) w (Bl w.heap.size) A im) (h2:SlAt encSnp w (Bl w.heap.size) A2 l) (h3:SlAt encCln w (Bl w.heap.size) A3 cl) (hl1:n≤100000) (hl2:m≤9223372036854775807) (hl3:p≤9223372036854775807) :
  Calls Tryz.prog 17 #[.agg #[.slice A n c,.slice A2 m c2,.slice A3 p c3]] w fun e w'=>e = .returned (.int .i64 r)∧Below w.heap.size w w':=by
 subst hn hm hp
 have HR:=Lib.hid hr;clear hr
 obtain⟨n0,hn0⟩:∃ n0,w.heap.size=n0:=⟨_,rfl⟩
 obtain⟨W0,hW0⟩:∃ W0,w.alloc (.cells #[.slice A im.length c,.slice A2 l.length c2,.slice A3 cl.length c3] 29)=W0:=⟨_,rfl⟩
 have hB0:Below n0 w W0:=by rw [← hW0, ← hn0];exact ext_alloc (Below.refl _ _)
 have hr0:W0.heap[n0]? = some (.cells #[.slice A im.length c,.slice A2 l.length c2,.slice A3 cl.length c3] 29 (0,0)):=by
  rw [← hW0, ← hn0];exact heap_alloc_new _ _
 obtain⟨n2,hn2⟩:∃ n2,W0.heap.size=n2:=⟨_,rfl⟩
 have hn02:n0+1≤n2:=by rw [← hn2, ← hW0, ← hn0];simp
 have up:∀ {α:Type} {E:Enc α} {A:Option Addr} {l:List α},SlAt E w (Bl w.heap.size) A l→∀ W,Below n2 W0 W→SlAt E W (Bl W.heap.size) A l:=fun h W hb=>by
  rw [hn0] at h
  exact (h.blk (fun g hg=>(hb.block g (by have:g<n0:=hg;omega)).trans (hB0.block g hg))).more (fun g hg=>by have:g<n0:=hg;have:=hb.size;show g<W.heap.size;omega)
 have H1:=Lib.hid (up h1)
 have H2:=Lib.hid (up h2)
 have H3:=Lib.hid (up h3)
 have HC:Hid (∀ W,Below n2 W0 W→W.cell? ⟨n0,0,none⟩=some (.slice A im.length c)∧W.cell? ⟨n0,1,none⟩=some (.slice A2 l.length c2)∧W.cell? ⟨n0,2,none⟩=some (.slice A3 cl.length c3)):=fun W hb=>by
  obtain⟨a,b,d,_⟩:=blk3 ((hb.block _ (by omega)).trans hr0)
  exact⟨a,b,d⟩
 have HBW:Hid (∀ W,Below n2 W0 W→Below w.heap.size w W):=fun W hb=>by rw [hn0];exact hB0.trans (hb.mono (by omega))
 obtain⟨s0,hs0'⟩:∃ s0,Hid (snE (im,l)=s0):=⟨_,rfl⟩
 have HSC:=Lib.hid (snCheck_any A A2 c c2 im.length l.length im l s0 W0 rfl rfl hs0'.out (H1.out W0 (Below.refl _ _)) (H2.out W0 (Below.refl _ _)) hl1 hl2)
 have HSE:Hid (clE ((im,l),cl)=if s0≠0 then s0 else if 16<cl.length then 6 else clnsE (im,l) [] cl):=by rw [Hid,clE,hs0'.out]
 obtain⟨p0,p1,p2⟩:=HC.out W0 (Below.refl _ _)
 have HN2:=Lib.hid hn2
 clear h1 h2 h3 hr0 up hB0
 go_enter Tryz.func17,Tryz.ntmps17
 go_wp2_with fail
 refine HSC.out.mono ?_
 rintro e w1 ⟨rfl,hb1⟩
 rw [HN2.out] at hb1
 clear p0 p1 p2 HSC hn2 hW0 hn0
 by_cases hx0:s0=0
 case neg =>
  have hx0':(s0 != 0)=true:=by simp [hx0]
  have hE:Hid (s0=r):=by rw [Hid, ← HR.out,HSE.out,if_pos hx0]
  clear hx0
  go_wp2_with fail
  go_ret
  exact⟨ret_int hE.out,HBW.out w1 hb1⟩
 have hx0':(s0 != 0)=false:=by simp [hx0]
 have HX:=Lib.hid hx0
 clear hx0
 obtain⟨p0,p1,p2⟩:=HC.out w1 hb1
 by_cases hl:cl.length≤16
 case neg =>
  have hl':(16:Int)<cl.length:=by omega
  have hE:Hid ((6:Int)=r):=by rw [Hid, ← HR.out,HSE.out,if_neg (by rw [HX.out];decide),if_pos (by omega)]
  clear hl
  go_wp2_with fail
  go_ret
  exact⟨ret_int hE.out,HBW.out w1 hb1⟩
 have hl':¬ (16:Int)<cl.length:=by omega
 have hR2:Hid (clnsE (im,l) [] cl=r):=by rw [Hid, ← HR.out,HSE.out,if_neg (by rw [HX.out];decide),if_neg (by omega)]
 obtain⟨sz,hsz⟩:∃ sz,Hid (lens im=sz):=⟨_,rfl⟩
 have hszl:sz.length≤im.length∧im.length≤sz.length:=by rw [← hsz.out];simp [lens]
 clear HSE HR
 go_wp2_with fail
 clear p0 p1 p2
 go_loopw [20] (fun i wr=>∃ (k:Nat),k≤cl.length∧i = .int .i64 k∧Below n2 W0 wr∧Hid (clnsE (im,l) [] (cl.take k)=0)) (fun i _=>cl.length - (intOf i).toNat)
 case atStart=>exact⟨0,by omega,rfl,hb1,by simp [Hid,clnsE]⟩
 case round =>
  obtain⟨wo,rfl⟩:∃ wo:World,wo=wr:=⟨_,rfl⟩
  obtain⟨k,hk,rfl,hB,hok⟩:=hrel
  by_cases hlt:k<cl.length
  ·obtain⟨b,off,Dx,dx,rfl,hb,g0,g1,g2,hDx,hd1,hd2,hi1,hi2⟩:=(H3.out wo hB).cln hlt
   have hstep:=clnsE_step hok.out hlt
   have hbad:=fun h=>(clnsE_bad (s:=(im,l)) (l:=cl) (k:=k) h).symm
   have hfi:=idx_first (P:=isN cl[k].1) hlt (by unfold isN;simp)
   rw [hstep,hR2.out] at hbad
   obtain⟨x,hx⟩:∃ x,cl[k]=x:=⟨_,rfl⟩
   rw [hx] at g0 g1 g2 hDx hd1 hi1 hi2 hstep hbad hfi
   obtain⟨nm,num,sv⟩:=x
   simp only at g0 g1 g2 hDx hd1 hi1 hi2 hfi
   have HBAD:=Lib.hid hbad
   have HSTEP:=Lib.hid hstep
   have hki:(k:Int)<cl.length:=by omega
   have hnn:(0:Int)≤k:=by omega
   obtain⟨nx,hnx⟩:∃ nx,wo.heap.size=nx:=⟨_,rfl⟩
   obtain⟨W1,hW1⟩:∃ W1,wo.alloc (.cells #[.string nm,.int .i64 num,.slice Dx sv.length dx] 87)=W1:=⟨_,rfl⟩
   have hbx1:Below nx wo W1:=by rw [← hW1, ← hnx];exact ext_alloc (Below.refl _ _)
   have hrx:W1.heap[nx]? = some (.cells #[.string nm,.int .i64 num,.slice Dx sv.length dx] 87 (0,0)):=by rw [← hW1, ← hnx];exact heap_alloc_new _ _
   obtain⟨n4,hn4⟩:∃ n4,W1.heap.size=n4:=⟨_,rfl⟩
   have hnx4:nx<n4:=by rw [← hn4];exact (Array.getElem?_eq_some_iff.1 hrx).1
   have hn2x:n2≤nx:=by rw [← hnx];have:=hB.size;have:=HN2.out;omega
   have hB1:Below n2 W0 W1:=hB.trans (hbx1.mono hn2x)
   have HBX:Hid (∀ W,Below n4 W1 W→Below n2 W0 W):=fun W hb=>hB1.trans (hb.mono (by omega))
   have HXX:Hid (∀ W,Below n4 W1 W→(W.cell? ⟨nx,0,none⟩=some (.string nm)∧W.cell? ⟨nx,1,none⟩=some (.int .i64 num)∧W.cell? ⟨nx,2,none⟩=some (.slice Dx sv.length dx))∧(W.cell? ⟨n0,0,none⟩=some (.slice A im.length c)∧W.cell? ⟨n0,1,none⟩=some (.slice A2 l.length c2)∧W.cell? ⟨n0,2,none⟩=some (.slice (some ⟨b,off,none⟩) cl.length c3))):=fun W hb=>by
    obtain⟨x0,x1,x2,_⟩:=blk3 ((hb.block _ hnx4).trans hrx)
    exact⟨⟨x0,x1,x2⟩,HC.out W (HBX.out W hb)⟩
   have HDX:Hid (∀ W,Below n4 W1 W→SlAt encWr W (Bl W.heap.size) Dx sv):=fun W hb=>(hDx.blk (fun g hg=>(hb.block g (by have:g<wo.heap.size:=hg;omega)).trans (hbx1.block g (by have:g<wo.heap.size:=hg;omega)))).more (fun g hg=>by have:g<wo.heap.size:=hg;have:=hb.size;show g<W.heap.size;omega)
   have HW1:=Lib.hid hW1
   have HN4:=Lib.hid hn4
   have HNX:=Lib.hid hnx
   clear hx hstep hbad hW1 hrx hDx
   go_upto_region 9 with (fail)
   rw [HW1.out]
   clear HW1 hnx g0 g1 g2
   obtain⟨⟨x0,x1,x2⟩,p0,p1,p2⟩:=HXX.out W1 (Below.refl _ _)
   obtain⟨q1,hq1⟩:∃ q,Hid (nameB nm=q):=⟨_,rfl⟩
   have HI1:=Lib.hid (isName_any nm W1 q1 hq1.out hi1)
   go_wp2_with fail
   refine HI1.out.mono ?_
   rintro e w3 ⟨rfl,hb3⟩
   rw [HN4.out] at hb3
   clear HI1 x0 x1 x2 p0 p1 p2 hn4
   cases q1 with
   | false =>
     have hE:Hid ((23:Int)=r):=by
      have e0:clnE (im,l) (cl.take k) (nm,num,sv)=23:=by unfold clnE;rw [if_pos hq1.out]
      have:=HBAD.out (by rw [e0];decide)
      rw [Hid, ← this,e0]
     go_wp2_with fail
     go_ret
     exact⟨ret_int hE.out,HBW.out w3 (HBX.out w3 hb3)⟩
   | true =>
   obtain⟨iv,hiv⟩:∃ i,idxAt (isN nm) cl=i:=⟨_,rfl⟩
   rw [hiv] at hfi
   have HIX:=Lib.hid (fun W (hb:Below n4 W1 W)=>index37_any (some ⟨b,off,none⟩) c3 cl.length cl nm W rfl (H3.out W (HBX.out W hb)) hl3 iv hiv)
   obtain⟨hf1,hf2,hf3⟩:=hfi
   have HF3:=Lib.hid hf3
   obtain⟨⟨x0,x1,x2⟩,p0,p1,p2⟩:=HXX.out w3 hb3
   clear hiv hf3
   go_wp2_with fail
   refine (HIX.out w3 hb3).mono ?_
   rintro e w4 ⟨rfl,hb4⟩
   have hb14:Below n4 W1 w4:=hb3.trans (hb4.mono (by have:=hb3.size;have:=HN4.out;omega))
   clear HIX x0 x1 x2 p0 p1 p2
   by_cases hik:iv<k
   case pos =>
    have hE:Hid ((8:Int)=r):=by
     have e0:clnE (im,l) (cl.take k) (nm,num,sv)=8:=by unfold clnE;rw [if_neg (by rw [hq1.out];decide),if_pos (HF3.out.1 hik)]
     have:=HBAD.out (by rw [e0];decide)
     rw [Hid, ← this,e0]
    go_wp2_with fail
    go_ret
    exact⟨ret_int hE.out,HBW.out w4 (HBX.out w4 hb14)⟩
   obtain⟨q3,hq3⟩:∃ q,Hid (tkn l num=q):=⟨_,rfl⟩
   have HTK:=Lib.hid (taken37_any A A2 c c2 im.length l.length l num w4 rfl (H2.out w4 (HBX.out w4 hb14)) hl2 q3 hq3.out)
   have hany:Hid ((cl.take k).any (isN nm)=false):=by rw [Hid, ← Bool.not_eq_true];exact fun h=>hik (HF3.out.2 h)
   obtain⟨⟨x0,x1,x2⟩,p0,p1,p2⟩:=HXX.out w4 hb14
   go_wp2_with fail
   refine HTK.out.mono ?_
   rintro e w5 ⟨rfl,hb5⟩
   have hb15:Below n4 W1 w5:=hb14.trans (hb5.mono (by have:=hb14.size;have:=HN4.out;omega))
   clear HTK x0 x1 x2 p0 p1 p2 hik
   cases q3 with
   | false =>
     have hE:Hid ((7:Int)=r):=by
      have e0:clnE (im,l) (cl.take k) (nm,num,sv)=7:=by unfold clnE;rw [if_neg (by rw [hq1.out];decide),if_neg (by rw [hany.out];decide),if_pos hq3.out]
      have:=HBAD.out (by rw [e0];decide)
      rw [Hid, ← this,e0]
     go_wp2_with fail
     go_ret
     exact⟨ret_int hE.out,HBW.out w5 (HBX.out w5 hb15)⟩
   | true =>
   obtain⟨ev,hev⟩:∃ ev,chkS sv sz=ev:=⟨_,rfl⟩
   have hee:Hid (clnE (im,l) (cl.take k) (nm,num,sv)=ev):=by unfold clnE;rw [Hid,if_neg (by rw [hq1.out];decide),if_neg (by rw [hany.out];decide),if_neg (by rw [hq3.out];decide)];show chkS sv (lens im)=ev;rw [hsz.out];exact hev
   have HSZ:=Lib.hid (fun W (hb:Below n4 W1 W)=>clSizes A c im.length im W rfl (H1.out W (HBX.out W hb)) hl1)
   have HCK:Hid (∀ W Z zc,Below n4 W1 W→SlAt encInt W (Bl W.heap.size) Z sz→Calls Tryz.prog 57 #[.slice Dx sv.length dx,.slice Z im.length zc] W fun e w'=>e = .returned (.int .i64 ev)∧Below W.heap.size W w'):=fun W Z zc hb hz=>by
    have h:=coCheck_any Dx Z dx zc sv sz W (HDX.out W hb) (by unfold maxLen at hd2;omega) hz (by omega) ev hev
    rw [show sz.length=im.length by omega] at h
    exact h
   have hSw:Below n4 W1 w5.drew:=hb15.drew
   clear hev
   go_upto_region 15 with (fail)
   go_cut [6] (fun e wx=>e = .int .i64 ev∧Below n4 W1 wx)
   case first =>
    refine wp_region_U (fun W'=>Below n4 W1 W') 8 (by kernel_rfl) ?_
    refine wpAnyU_takeD (i:=0) (v := ?_) rfl rfl (by kernel_rfl) (by kernel_rfl) (by kernel_rfl) (by kernel_rfl) (fun _ _ _ h=>h) (by rfl) ?_ hSw ?_
    rotate_left 1
    ·intro W9 hW9
     try dsimp only at hW9
     obtain _:=trivial
     go_simp
     try with_reducible rfl
    try simp only [List.setIfInBounds_toArray,List.set_cons_zero,List.set_cons_succ]
    refine wpAnyU_takeD (i:=1) (v := ?_) rfl rfl (by kernel_rfl) (by kernel_rfl) (by kernel_rfl) (by kernel_rfl) (fun _ _ _ h=>h) (by rfl) ?_ hSw ?_
    rotate_left 1
    ·intro W9 hW9
     try dsimp only at hW9
     obtain⟨⟨x0,x1,x2⟩,p0,p1,p2⟩:=HXX.out W9 hW9
     go_simp
     try with_reducible rfl
    try simp only [List.setIfInBounds_toArray,List.set_cons_zero,List.set_cons_succ]
    refine wpAnyU_takeD (i:=2) (v := ?_) rfl rfl (by kernel_rfl) (by kernel_rfl) (by kernel_rfl) (by kernel_rfl) (fun _ _ _ h=>h) (by rfl) ?_ hSw ?_
    rotate_left 1
    ·intro W9 hW9
     try dsimp only at hW9
     obtain _:=trivial
     go_simp
     try with_reducible rfl
    try simp only [List.setIfInBounds_toArray,List.set_cons_zero,List.set_cons_succ]
    refine wpAnyU_takeD (i:=3) (v := ?_) rfl rfl (by kernel_rfl) (by kernel_rfl) (by kernel_rfl) (by kernel_rfl) (fun _ _ _ h=>h) (by rfl) ?_ hSw ?_
    rotate_left 1
    ·intro W9 hW9
     try dsimp only at hW9
     obtain _:=trivial
     go_simp
     try with_reducible rfl
    try simp only [List.setIfInBounds_toArray,List.set_cons_zero,List.set_cons_succ]
    refine wpAnyU_takeD (i:=4) (v := ?_) rfl rfl (by kernel_rfl) (by kernel_rfl) (by kernel_rfl) (by kernel_rfl) (fun _ _ _ h=>h) (by rfl) ?_ hSw ?_
    rotate_left 1
    ·intro W9 hW9
     try dsimp only at hW9
     obtain⟨⟨x0,x1,x2⟩,p0,p1,p2⟩:=HXX.out W9 hW9
     go_simp
     try with_reducible rfl
    try simp only [List.setIfInBounds_toArray,List.set_cons_zero,List.set_cons_succ]
    refine wpAnyU_op (i:=5) (by kernel_rfl) rfl rfl (fun K hK => ?_)
    go_wp2_with fail
    refine ((HSZ.out _ hSw)).mono ?_
    rintro e w6 ⟨Z6,zc6,rfl,z1,z2,z3,hb6⟩
    refine hK.out _ _ (fun _=>(hSw.trans (hb6.mono (by have:=hSw.size;have:=HN4.out;omega)))) ?_
    clear hK K
    try simp only [Act.put,List.setIfInBounds_toArray,List.set_cons_zero,List.set_cons_succ]
    have hS6:Below n4 W1 w6:=hSw.trans (hb6.mono (by have:=hSw.size;have:=HN4.out;omega))
    rw [hsz.out] at z3
    have HZ3:=Lib.hid (z3.more (S':=Bl w6.heap.size) (fun g hg=>hg.2))
    clear z3
    refine wpAnyU_op (i:=6) (by kernel_rfl) rfl rfl (fun K hK => ?_)
    go_wp2_with fail
    refine ((HCK.out _ _ _ hS6 HZ3.out)).mono ?_
    rintro e w7 ⟨rfl,hb7⟩
    refine hK.out _ _ (fun _=>(hS6.trans (hb7.mono (by have:=hS6.size;have:=HN4.out;omega)))) ?_
    clear hK K
    try simp only [Act.put,List.setIfInBounds_toArray,List.set_cons_zero,List.set_cons_succ]
    have hS7:Below n4 W1 w7:=hS6.trans (hb7.mono (by have:=hS6.size;have:=HN4.out;omega))
    refine wpAnyU_op (i:=7) (by kernel_rfl) rfl rfl (fun K hK => ?_)
    go_simp
    refine hK.out _ _ (fun _=>hS7) ?_
    clear hK K
    try simp only [Act.put,List.setIfInBounds_toArray,List.set_cons_zero,List.set_cons_succ]
    refine wpAnyU_done (by kernel_rfl) ?_ _
    go_wp2
    go_meet
    exact⟨rfl,hS7⟩
   case rest =>
    obtain⟨rfl,hbx⟩:=hcut
    by_cases hv0:ev=0
    case neg =>
     have hv0':(ev != 0)=true:=by simp [hv0]
     have hE:Hid (ev=r):=by
      have:=HBAD.out (by rw [hee.out];exact hv0)
      rw [Hid, ← this,hee.out]
     clear hv0
     go_wp2_with fail
     go_ret
     exact⟨ret_int hE.out,HBW.out _ (HBX.out _ hbx)⟩
    case pos =>
     have hv0':(ev != 0)=false:=by simp [hv0]
     have hok2:Hid (clnsE (im,l) [] (cl.take (k+1))=0):=by rw [Hid,HSTEP.out,hee.out];exact hv0
     have hBn:=HBX.out _ hbx
     clear hv0
     go_wp2_with fail
     go_roundw
     case rel=>exact⟨k+1,hlt,by go_num,hBn,hok2.out⟩
     case measure=>simp [intOf];omega
  ·have hkk:k=cl.length:=by omega
   subst hkk
   have hki:¬ ((cl.length:Int)<cl.length):=by omega
   have hE:Hid ((0:Int)=r):=by
    have:=hok.out
    rw [List.take_length,hR2.out] at this
    exact this.symm
   go_wp2_with fail
   go_ret
   exact⟨ret_int hE.out,HBW.out wo hB⟩
end Go.Proofs.YtgndgkjefgjamaaGreat
namespace Go.Proofs.YtgndgkjefgjamaaGreat
open Go.RowKit Go.Shelf
attribute [local go_sem] Oper.semAt_some

structure ClAt (x:Cls) (A:Option Addr) (c:Nat) (D:Option Addr) (d:Nat) (G:Option Addr) (g:Nat) (S:Nat→Prop) (W:World):Prop where
 im:x.1.1.length≤c∧c≤maxLen∧SlAt (encSl encSec) W S A x.1.1
 sn:x.1.2.length≤d∧d≤maxLen∧SlAt encSnp W S D x.1.2
 cl:x.2.length≤g∧g≤maxLen∧SlAt encCln W S G x.2
theorem ClAt.keep {x:Cls} {A D G:Option Addr} {c d g:Nat} {S S':Nat→Prop} {W W':World} (h:ClAt x A c D d G g S W) (hk:∀ b,S b→W'.heap[b]? = W.heap[b]?) (hS:∀ b,S b→S' b):ClAt x A c D d G g S' W' :=
 ⟨⟨h.im.1,h.im.2.1,(h.im.2.2.blk hk).more hS⟩,⟨h.sn.1,h.sn.2.1,(h.sn.2.2.blk hk).more hS⟩,⟨h.cl.1,h.cl.2.1,(h.cl.2.2.blk hk).more hS⟩⟩
theorem ClAt.zero {S:Nat→Prop} {W:World}:ClAt zCls none 0 none 0 none 0 S W:=⟨⟨by simp [zCls,zSns],by simp,SlAt.nil_⟩,⟨by simp [zCls,zSns],by simp,SlAt.nil_⟩,⟨by simp [zCls],by simp,SlAt.nil_⟩⟩
theorem ClRet.at_ {s:Sns} {l:List Cln} {A D G:Option Addr} {c d g m1 m2 lo:Nat} {w:World} (h:ClRet s l A c D d G g m1 m2 lo w):ClAt (s,l) A c D d G g (Nw lo w.heap.size) w:=by
 obtain⟨_,a,b,c⟩:=h.cl.parts
 have:=h.le
 exact⟨⟨h.im.1,h.im.2.1,h.im.2.2.more (fun g hg=>⟨hg.1,by have:=hg.2;omega⟩)⟩,⟨h.sn.1,h.sn.2.1,h.sn.2.2.more (fun g hg=>⟨by have:=hg.1;omega,by have:=hg.2;omega⟩)⟩,⟨a,b,c.more (fun g hg=>⟨by have:=hg.1.1;omega,hg.1.2⟩)⟩⟩
def RetCl (x:Cls) (n:Int) (w:World) (e:Ending) (w':World):Prop :=
 ∃ A c D d G g,e = .returned (.tuple #[.agg #[.slice A x.1.1.length c,.slice D x.1.2.length d,.slice G x.2.length g],.int .i64 n])∧ClAt x A c D d G g (Nw w.heap.size w'.heap.size) w'∧Below w.heap.size w w'
theorem cl_end {w W:World} {b:Nat} {T:TypeId} {c0 c1 c2:Value} (hrow:W.heap[b]? = some (.cells #[c0,c1,c2] T (0,0))) (hb:w.heap.size≤b) (hB:Below w.heap.size w W) {x:Cls} {A D G:Option Addr} {c d g:Nat}
  (h:ClAt x A c D d G g (fun q=>w.heap.size≤q∧q<W.heap.size∧q≠b) W) (n:Int) :
  (sw3 W b (.slice A x.1.1.length c) (.slice D x.1.2.length d) (.slice G x.2.length g)).heap[b]? = some (.cells #[.slice A x.1.1.length c,.slice D x.1.2.length d,.slice G x.2.length g] T (0,0)) ∧
  RetCl x n w (.returned (.tuple #[.agg #[.slice A x.1.1.length c,.slice D x.1.2.length d,.slice G x.2.length g],.int .i64 n])) (sw3 W b (.slice A x.1.1.length c) (.slice D x.1.2.length d) (.slice G x.2.length g)) :=
 ⟨sw3_row hrow _ _ _,A,c,D,d,G,g,rfl,h.keep (fun q hq=>sw3_other hq.2.2 _ _ _) (fun q hq=>⟨hq.1,by rw [sw3_sz];exact hq.2.1⟩),sw3_below hB hb _ _ _⟩
set_option maxHeartbeats 2000000 in
set_option maxRecDepth 100000 in
theorem clNew_any (A A2:Option Addr) (c c2 n m:Nat) (im:Img) (l:List Snp) (w:World) (hn:im.length=n) (hm:l.length=m) (h1:SlAt (encSl encSec) w (Bl w.heap.size) A im) (h2:SlAt encSnp w (Bl w.heap.size) A2 l) (hL:SnLim im l) :
  Calls Tryz.prog 14 #[.agg #[.slice A n c,.slice A2 m c2]] w (RetCl (clNew (im,l)) (snE (im,l)) w):=by
 subst hn hm
 obtain⟨n0,hn0⟩:∃ n0,w.heap.size=n0:=⟨_,rfl⟩
 obtain⟨W0,hW0⟩:∃ W0,(w.alloc (.cells #[.slice A im.length c,.slice A2 l.length c2] 26)).alloc (.cells #[.slice none 0 0,.slice none 0 0,.slice none 0 0] 29)=W0:=⟨_,rfl⟩
 have hB0:Below n0 w W0:=by rw [← hW0, ← hn0];exact ext_alloc (ext_alloc (Below.refl _ _))
 have hr0:W0.heap[n0]? = some (.cells #[.slice A im.length c,.slice A2 l.length c2] 26 (0,0)):=by
  rw [← hW0, ← hn0];exact (Below.heap_alloc _ _ _ (by simp)).trans (heap_alloc_new _ _)
 have hr1:W0.heap[n0+1]? = some (.cells #[.slice none 0 0,.slice none 0 0,.slice none 0 0] 29 (0,0)):=by
  rw [← hW0, ← hn0];exact heap_new2 _ _ _
 obtain⟨n2,hn2⟩:∃ n2,W0.heap.size=n2:=⟨_,rfl⟩
 have hn02:n0+1<n2:=by rw [← hn2];exact (Array.getElem?_eq_some_iff.1 hr1).1
 have up:∀ {α:Type} {E:Enc α} {A:Option Addr} {l:List α},SlAt E w (Bl w.heap.size) A l→∀ W,Below n2 W0 W→SlAt E W (Bl W.heap.size) A l:=fun h W hb=>by
  rw [hn0] at h
  exact (h.blk (fun g hg=>(hb.block g (by have:g<n0:=hg;omega)).trans (hB0.block g hg))).more (fun g hg=>by have:g<n0:=hg;have:=hb.size;show g<W.heap.size;omega)
 have H1:=Lib.hid (up h1)
 have H2:=Lib.hid (up h2)
 obtain⟨s0,hs0⟩:∃ s0,snE (im,l)=s0:=⟨_,rfl⟩
 have hl1:=hL.ims
 have hl2:=hL.its
 have HSC:=Lib.hid (snCheck_any A A2 c c2 im.length l.length im l s0 W0 rfl rfl hs0 (H1.out W0 (Below.refl _ _)) (H2.out W0 (Below.refl _ _)) hl1 (by omega))
 have HOW:=Lib.hid (fun W (hb:Below n2 W0 W)=>own37_any A A2 none c c2 0 im.length l.length 0 im l [] W rfl rfl rfl (H1.out W hb) (H2.out W hb) SlAt.nil_ ⟨hL,by simp,fun x hx=>by cases hx⟩)
 have HS0:=Lib.hid hs0
 have HN0:=Lib.hid hn0
 have HN2:=Lib.hid hn2
 have HB0:Hid (Below w.heap.size w W0):=by rw [hn0];exact hB0
 have hN0:n0≤w.heap.size∧w.heap.size≤n0:=by omega
 rw [hs0]
 obtain⟨p0,p1,_⟩:=blk2 hr0
 clear h1 h2 up hB0 hL hs0
 go_enter Tryz.func14,Tryz.ntmps14
 go_wp2_with fail
 refine HSC.out.mono ?_
 rintro e w1 ⟨rfl,hb1⟩
 rw [HN2.out] at hb1
 have hr11:=(hb1.block (n0+1) (by omega)).trans hr1
 have hbw1:Below w.heap.size w w1:=HB0.out.trans (hb1.mono (by omega))
 clear p0 p1 HSC hn2 hn0 hW0
 by_cases hx0:s0=0
 case neg =>
  have hx0':(s0 != 0)=true:=by simp [hx0]
  have HT:Hid (clNew (im,l)=zCls):=by rw [Hid,clNew,HS0.out,if_neg hx0]
  clear hx0
  obtain⟨v0,v1,v2,vf⟩:=blk3 hr11
  go_wp2_with fail
  have hend:=cl_end (w:=w) (x:=zCls) (A:=none) (c:=0) (D:=none) (d:=0) (G:=none) (g:=0) hr11 (by omega) hbw1 ClAt.zero s0
  obtain⟨hz,hret⟩:=hend
  change bodyPost _ _ _ _ _ (sw3 w1 (n0+1) (.slice none (zCls).1.1.length 0) (.slice none (zCls).1.2.length 0) (.slice none (zCls).2.length 0))
  generalize sw3 w1 (n0+1) (.slice none (zCls).1.1.length 0) (.slice none (zCls).1.2.length 0) (.slice none (zCls).2.length 0)=W3 at hz hret ⊢
  obtain⟨z0,z1,z2,_⟩:=blk3 hz
  refine bodyPost_ret (v := .tuple #[.agg #[.slice none (zCls).1.1.length 0,.slice none (zCls).1.2.length 0,.slice none (zCls).2.length 0],.int .i64 s0]) ?_ rfl ?_
  ·simp [results,Tryz.results14,Tryz.f14,go_sem,z0,z1,z2,zCls,zSns]
  rw [HT.out];exact hret
 have hx0':(s0 != 0)=false:=by simp [hx0]
 have HT:Hid (clNew (im,l)=((im,l),[])):=by rw [Hid,clNew,HS0.out,if_pos hx0]
 subst hx0
 obtain⟨p0,p1,_⟩:=blk2 ((hb1.block n0 (by omega)).trans hr0)
 have HO:=Lib.hid (HOW.out w1 hb1)
 go_wp2_with fail
 refine HO.out.mono ?_
 rintro e w2 ⟨B,vc,D,dc,G,gc,m1,m2,rfl,hcr,hb2⟩
 have hca:=hcr.at_
 have hz1:=hb1.size
 have hN2:n2≤W0.heap.size:=by have:=HN2.out;omega
 have hr12:=(hb2.block (n0+1) (by omega)).trans hr11
 have hbw2:Below w.heap.size w w2:=hbw1.trans (hb2.mono hbw1.size)
 have HCA:=Lib.hid (hca.keep (S':=fun q=>w.heap.size≤q∧q<w2.heap.size∧q≠n0+1) (fun _ _=>rfl) (fun q hq=>⟨by have:=hq.1;omega,hq.2,by have:=hq.1;omega⟩))
 clear p0 p1 HO hcr hca
 obtain⟨v0,v1,v2,vf⟩:=blk3 hr12
 go_wp2_with fail
 have hend:=cl_end (w:=w) (x:=(((im,l),[]):Cls)) (A:=B) (c:=vc) (D:=D) (d:=dc) (G:=G) (g:=gc) hr12 (by omega) hbw2 HCA.out 0
 obtain⟨hz,hret⟩:=hend
 change bodyPost _ _ _ _ _ (sw3 w2 (n0+1) (.slice B ((((im,l),[]):Cls)).1.1.length vc) (.slice D ((((im,l),[]):Cls)).1.2.length dc) (.slice G ((((im,l),[]):Cls)).2.length gc))
 generalize sw3 w2 (n0+1) (.slice B ((((im,l),[]):Cls)).1.1.length vc) (.slice D ((((im,l),[]):Cls)).1.2.length dc) (.slice G ((((im,l),[]):Cls)).2.length gc)=W3 at hz hret ⊢
 obtain⟨z0,z1,z2,_⟩:=blk3 hz
 refine bodyPost_ret (v := .tuple #[.agg #[.slice B ((((im,l),[]):Cls)).1.1.length vc,.slice D ((((im,l),[]):Cls)).1.2.length dc,.slice G ((((im,l),[]):Cls)).2.length gc],.int .i64 0]) ?_ rfl ?_
 ·simp [results,Tryz.results14,Tryz.f14,go_sem,z0,z1,z2,zCls,zSns]
 rw [HT.out];exact hret
theorem OwnX.head {α:Type} {X:Nat→Prop} {E:Enc α} {w:World} {lo n c:Nat} {e:TypeId} {A:Option Addr} {l:List α} (h:OwnX X E w lo e (.slice A n c) l) (hl:0<l.length):∃ g,A=some ⟨g,0,none⟩∧lo≤g∧g<w.heap.size∧¬ X g:=by
 have hlt:=h.lt
 have hx:=h.2
 obtain⟨⟨css,⟨_,h1⟩,_,_⟩,_⟩:=h
 rcases h1 with ⟨_,e2⟩ | ⟨g,cap,cur,e1,_⟩
 ·omega
 ·simp only [Value.slice.injEq] at e1
  obtain⟨rfl,_,_⟩:=e1
  exact⟨g,rfl,(hlt g rfl).1,(hlt g rfl).2,hx g rfl⟩
set_option maxHeartbeats 4000000 in
set_option maxRecDepth 100000 in
theorem clCreate_any (A A2 A3:Option Addr) (c c2 c3 n m p:Nat) (im:Img) (l:List Snp) (cl:List Cln) (nm:ByteArray) (num:Int) (w:World) (hn:im.length=n) (hm:l.length=m) (hp:cl.length=p) (h1:SlAt (encSl encSec) w (Bl w.heap.size) A im) (h2:SlAt encSnp w (Bl w.heap.size) A2 l) (h3:SlAt encCln w (Bl w.heap.size) A3 cl) (hL:ClLim (im,l) cl) (hnm:nm.size≤maxLen) (hI:I64 num) :
  Calls Tryz.prog 12 #[.agg #[.slice A n c,.slice A2 m c2,.slice A3 p c3],.string nm,.int .i64 num] w (RetCl (creS ((im,l),cl) nm num) (creE ((im,l),cl) nm num) w):=by
 subst hn hm hp
 obtain⟨n0,hn0⟩:∃ n0,w.heap.size=n0:=⟨_,rfl⟩
 obtain⟨W0,hW0⟩:∃ W0,(w.alloc (.cells #[.slice A im.length c,.slice A2 l.length c2,.slice A3 cl.length c3] 29)).alloc (.cells #[.slice none 0 0,.slice none 0 0,.slice none 0 0] 29)=W0:=⟨_,rfl⟩
 have hB0:Below n0 w W0:=by rw [← hW0, ← hn0];repeat (first | exact Below.refl _ _ | refine ext_alloc ?_)
 have hr0:W0.heap[n0]? = some (.cells #[.slice A im.length c,.slice A2 l.length c2,.slice A3 cl.length c3] 29 (0,0)):=by rw [← hW0, ← hn0];exact (Below.heap_alloc _ _ _ (by simp)).trans (heap_alloc_new _ _)
 have hr1:W0.heap[n0+1]? = some (.cells #[.slice none 0 0,.slice none 0 0,.slice none 0 0] 29 (0,0)):=by rw [← hW0, ← hn0];exact heap_new2 _ _ _
 obtain⟨n2,hn2⟩:∃ n2,W0.heap.size=n2:=⟨_,rfl⟩
 have hn02:n0+1<n2:=by rw [← hn2];exact (Array.getElem?_eq_some_iff.1 hr1).1
 have up:∀ {α:Type} {E:Enc α} {A:Option Addr} {l:List α},SlAt E w (Bl w.heap.size) A l→∀ W,Below n2 W0 W→SlAt E W (Bl W.heap.size) A l:=fun h W hb=>by
  rw [hn0] at h
  exact (h.blk (fun g hg=>(hb.block g (by have:g<n0:=hg;omega)).trans (hB0.block g hg))).more (fun g hg=>by have:g<n0:=hg;have:=hb.size;show g<W.heap.size;omega)
 have H1:=Lib.hid (up h1)
 have H2:=Lib.hid (up h2)
 have H3:=Lib.hid (up h3)
 have HC:Hid (∀ W,Below n2 W0 W→W.cell? ⟨n0,0,none⟩=some (.slice A im.length c)∧W.cell? ⟨n0,1,none⟩=some (.slice A2 l.length c2)∧W.cell? ⟨n0,2,none⟩=some (.slice A3 cl.length c3)):=fun W hb=>by
  obtain⟨a,b,d,_⟩:=blk3 ((hb.block _ (by omega)).trans hr0)
  exact⟨a,b,d⟩
 have HRR:Hid (∀ W,Below n2 W0 W→W.heap[n0+1]? = some (.cells #[.slice none 0 0,.slice none 0 0,.slice none 0 0] 29 (0,0))):=fun W hb=>(hb.block _ (by omega)).trans hr1
 have HROW0:Hid (∀ W,Below n2 W0 W→W.heap[n0]? = some (.cells #[.slice A im.length c,.slice A2 l.length c2,.slice A3 cl.length c3] 29 (0,0))):=fun W hb=>(hb.block _ (by omega)).trans hr0
 have HBW:Hid (∀ W,Below n2 W0 W→Below w.heap.size w W):=fun W hb=>by rw [hn0];exact hB0.trans (hb.mono (by omega))
 have HN0:=Lib.hid hn0
 have HN2:=Lib.hid hn2
 have hN0:n0≤w.heap.size∧w.heap.size≤n0:=by omega
 have hl1:=hL.sn.ims
 have hl2:=hL.sn.its
 have hl3:=hL.its
 have HLM:=Lib.hid hL
 simp only at hl1 hl2
 obtain⟨s0,hs0⟩:∃ s0,clE ((im,l),cl)=s0:=⟨_,rfl⟩
 have HCK:=Lib.hid (fun W (hb:Below n2 W0 W)=>clCheck_any A A2 A3 c c2 c3 im.length l.length cl.length im l cl s0 W rfl rfl rfl hs0 (H1.out W hb) (H2.out W hb) (H3.out W hb) hl1 (by omega) (by omega))
 have HOW:=Lib.hid (fun W (hb:Below n2 W0 W)=>own37_any A A2 A3 c c2 c3 im.length l.length cl.length im l cl W rfl rfl rfl (H1.out W hb) (H2.out W hb) (H3.out W hb) HLM.out)
 have HS0:=Lib.hid hs0
 have hB00:=Below.refl n2 W0
 obtain⟨p0,p1,p2⟩:=HC.out W0 hB00
 clear h1 h2 h3 up hB0 hL hr0 hr1 hs0
 have HCE:Hid (creE ((im,l),cl) nm num=if s0≠0 then s0 else if nameB nm=false then 23 else if cl.any (isN nm)=true then 8 else if tkn l num=false then 7 else if 16≤cl.length then 6 else 0):=by rw [Hid,creE,HS0.out]
 have HER:Hid (∀ q:Int,creE ((im,l),cl) nm num=q→q≠0→creS ((im,l),cl) nm num=zCls):=fun q h hq=>by rw [creS,if_neg (by rw [h];exact hq)]
 obtain⟨q1,hq1⟩:∃ q,nameB nm=q:=⟨_,rfl⟩
 obtain⟨iv,hiv⟩:∃ i,idxAt (isN nm) cl=i:=⟨_,rfl⟩
 obtain⟨q3,hq3⟩:∃ q,tkn l num=q:=⟨_,rfl⟩
 have hia:=idxAt_any (P:=isN nm) (l:=cl)
 rw [hiv] at hia
 have HIN:=Lib.hid (fun W=>isName_any nm W q1 hq1 hnm)
 have HIX:=Lib.hid (fun W (hb:Below n2 W0 W)=>index37_any A3 c3 cl.length cl nm W rfl (H3.out W hb) (by omega) iv hiv)
 have HTK:=Lib.hid (fun W (hb:Below n2 W0 W)=>taken37_any A A2 c c2 im.length l.length l num W rfl (H2.out W hb) (by omega) q3 hq3)
 rw [hq1,hq3, ← hia] at HCE
 have HCK0:=Lib.hid (HCK.out W0 hB00)
 clear hq1 hiv hq3 hia
 go_enter Tryz.func12,Tryz.ntmps12
 go_wp2_with fail
 refine HCK0.out.mono ?_
 rintro e w1 ⟨rfl,hb1⟩
 rw [HN2.out] at hb1
 clear p0 p1 p2 HCK0 hn2 hn0 hW0
 have hr1:=HRR.out w1 hb1
 by_cases hx0:s0=0
 case neg =>
  have hx0':(s0 != 0)=true:=by simp [hx0]
  have HE:Hid (creE ((im,l),cl) nm num=s0):=by rw [Hid,HCE.out,if_pos hx0]
  have HT:=Lib.hid (HER.out s0 HE.out hx0)
  clear hx0
  obtain⟨v0,v1,v2,vf⟩:=blk3 hr1
  go_wp2_with fail
  have hend:=cl_end (w:=w) (x:=zCls) (A:=none) (c:=0) (D:=none) (d:=0) (G:=none) (g:=0) hr1 (by omega) (HBW.out w1 hb1) ClAt.zero s0
  obtain⟨hz,hret⟩:=hend
  change bodyPost _ _ _ _ _ (sw3 w1 (n0+1) (.slice none (zCls).1.1.length 0) (.slice none (zCls).1.2.length 0) (.slice none (zCls).2.length 0))
  generalize sw3 w1 (n0+1) (.slice none (zCls).1.1.length 0) (.slice none (zCls).1.2.length 0) (.slice none (zCls).2.length 0)=W3 at hz hret ⊢
  obtain⟨z0,z1,z2,_⟩:=blk3 hz
  refine bodyPost_ret (v := .tuple #[.agg #[.slice none (zCls).1.1.length 0,.slice none (zCls).1.2.length 0,.slice none (zCls).2.length 0],.int .i64 s0]) ?_ rfl ?_
  ·simp [results,Tryz.results12,Tryz.f12,go_sem,z0,z1,z2,zCls,zSns]
  rw [HT.out,HE.out];exact hret
 have hx0':(s0 != 0)=false:=by simp [hx0]
 rw [if_neg (by simp [hx0])] at HCE
 subst hx0
 cases q1 with
 | false =>
   have HE:Hid (creE ((im,l),cl) nm num=23):=by rw [Hid,HCE.out,if_pos rfl]
   have HT:=Lib.hid (HER.out 23 HE.out (by decide))
   go_wp2_with fail
   refine (HIN.out w1).mono ?_
   rintro e w2 ⟨rfl,hb2⟩
   have hbb2:Below n2 W0 w2:=hb1.trans (hb2.mono (by have:=hb1.size;have:=HN2.out;omega))
   have hr2:=HRR.out w2 hbb2
   obtain⟨v0,v1,v2,vf⟩:=blk3 hr2
   go_wp2_with fail
   have hend:=cl_end (w:=w) (x:=zCls) (A:=none) (c:=0) (D:=none) (d:=0) (G:=none) (g:=0) hr2 (by omega) (HBW.out w2 hbb2) ClAt.zero 23
   obtain⟨hz,hret⟩:=hend
   change bodyPost _ _ _ _ _ (sw3 w2 (n0+1) (.slice none (zCls).1.1.length 0) (.slice none (zCls).1.2.length 0) (.slice none (zCls).2.length 0))
   generalize sw3 w2 (n0+1) (.slice none (zCls).1.1.length 0) (.slice none (zCls).1.2.length 0) (.slice none (zCls).2.length 0)=W3 at hz hret ⊢
   obtain⟨z0,z1,z2,_⟩:=blk3 hz
   refine bodyPost_ret (v := .tuple #[.agg #[.slice none (zCls).1.1.length 0,.slice none (zCls).1.2.length 0,.slice none (zCls).2.length 0],.int .i64 23]) ?_ rfl ?_
   ·simp [results,Tryz.results12,Tryz.f12,go_sem,z0,z1,z2,zCls,zSns]
   rw [HT.out,HE.out];exact hret
 | true =>
 rw [if_neg (by decide)] at HCE
 go_wp2_with fail
 refine (HIN.out w1).mono ?_
 rintro e w2 ⟨rfl,hb2⟩
 have hbb2:Below n2 W0 w2:=hb1.trans (hb2.mono (by have:=hb1.size;have:=HN2.out;omega))
 obtain⟨p0,p1,p2⟩:=HC.out w2 hbb2
 clear HIN
 go_wp2_with fail
 refine (HIX.out w2 hbb2).mono ?_
 rintro e w3 ⟨rfl,hb3⟩
 have hbb3:Below n2 W0 w3:=hbb2.trans (hb3.mono (by have:=hbb2.size;have:=HN2.out;omega))
 clear p0 p1 p2 HIX
 by_cases hiv0:0≤iv
 case pos =>
  have HE:Hid (creE ((im,l),cl) nm num=8):=by rw [Hid,HCE.out,if_pos (decide_eq_true hiv0)]
  have HT:=Lib.hid (HER.out 8 HE.out (by decide))
  have hr3:=HRR.out w3 hbb3
  obtain⟨v0,v1,v2,vf⟩:=blk3 hr3
  go_wp2_with fail
  have hend:=cl_end (w:=w) (x:=zCls) (A:=none) (c:=0) (D:=none) (d:=0) (G:=none) (g:=0) hr3 (by omega) (HBW.out w3 hbb3) ClAt.zero 8
  obtain⟨hz,hret⟩:=hend
  change bodyPost _ _ _ _ _ (sw3 w3 (n0+1) (.slice none (zCls).1.1.length 0) (.slice none (zCls).1.2.length 0) (.slice none (zCls).2.length 0))
  generalize sw3 w3 (n0+1) (.slice none (zCls).1.1.length 0) (.slice none (zCls).1.2.length 0) (.slice none (zCls).2.length 0)=W3 at hz hret ⊢
  obtain⟨z0,z1,z2,_⟩:=blk3 hz
  refine bodyPost_ret (v := .tuple #[.agg #[.slice none (zCls).1.1.length 0,.slice none (zCls).1.2.length 0,.slice none (zCls).2.length 0],.int .i64 8]) ?_ rfl ?_
  ·simp [results,Tryz.results12,Tryz.f12,go_sem,z0,z1,z2,zCls,zSns]
  rw [HT.out,HE.out];exact hret
 rw [if_neg (by simp;omega)] at HCE
 have hivn:decide (0≤iv)=false:=decide_eq_false hiv0
 obtain⟨p0,p1,p2⟩:=HC.out w3 hbb3
 go_wp2_with fail
 refine (HTK.out w3 hbb3).mono ?_
 rintro e w4 ⟨rfl,hb4⟩
 have hbb4:Below n2 W0 w4:=hbb3.trans (hb4.mono (by have:=hbb3.size;have:=HN2.out;omega))
 clear p0 p1 p2 HTK
 have hr4:=HRR.out w4 hbb4
 cases q3 with
 | false =>
   have HE:Hid (creE ((im,l),cl) nm num=7):=by rw [Hid,HCE.out,if_pos rfl]
   have HT:=Lib.hid (HER.out 7 HE.out (by decide))
   obtain⟨v0,v1,v2,vf⟩:=blk3 hr4
   go_wp2_with fail
   have hend:=cl_end (w:=w) (x:=zCls) (A:=none) (c:=0) (D:=none) (d:=0) (G:=none) (g:=0) hr4 (by omega) (HBW.out w4 hbb4) ClAt.zero 7
   obtain⟨hz,hret⟩:=hend
   change bodyPost _ _ _ _ _ (sw3 w4 (n0+1) (.slice none (zCls).1.1.length 0) (.slice none (zCls).1.2.length 0) (.slice none (zCls).2.length 0))
   generalize sw3 w4 (n0+1) (.slice none (zCls).1.1.length 0) (.slice none (zCls).1.2.length 0) (.slice none (zCls).2.length 0)=W3 at hz hret ⊢
   obtain⟨z0,z1,z2,_⟩:=blk3 hz
   refine bodyPost_ret (v := .tuple #[.agg #[.slice none (zCls).1.1.length 0,.slice none (zCls).1.2.length 0,.slice none (zCls).2.length 0],.int .i64 7]) ?_ rfl ?_
   ·simp [results,Tryz.results12,Tryz.f12,go_sem,z0,z1,z2,zCls,zSns]
   rw [HT.out,HE.out];exact hret
 | true =>
 rw [if_neg (by decide)] at HCE
 obtain⟨p0,p1,p2⟩:=HC.out w4 hbb4
 by_cases h16:16≤cl.length
 case pos =>
  have h16':(16:Int)≤cl.length:=by omega
  have HE:Hid (creE ((im,l),cl) nm num=6):=by rw [Hid,HCE.out,if_pos h16]
  have HT:=Lib.hid (HER.out 6 HE.out (by decide))
  obtain⟨v0,v1,v2,vf⟩:=blk3 hr4
  go_wp2_with fail
  have hend:=cl_end (w:=w) (x:=zCls) (A:=none) (c:=0) (D:=none) (d:=0) (G:=none) (g:=0) hr4 (by omega) (HBW.out w4 hbb4) ClAt.zero 6
  obtain⟨hz,hret⟩:=hend
  change bodyPost _ _ _ _ _ (sw3 w4 (n0+1) (.slice none (zCls).1.1.length 0) (.slice none (zCls).1.2.length 0) (.slice none (zCls).2.length 0))
  generalize sw3 w4 (n0+1) (.slice none (zCls).1.1.length 0) (.slice none (zCls).1.2.length 0) (.slice none (zCls).2.length 0)=W3 at hz hret ⊢
  obtain⟨z0,z1,z2,_⟩:=blk3 hz
  refine bodyPost_ret (v := .tuple #[.agg #[.slice none (zCls).1.1.length 0,.slice none (zCls).1.2.length 0,.slice none (zCls).2.length 0],.int .i64 6]) ?_ rfl ?_
  ·simp [results,Tryz.results12,Tryz.f12,go_sem,z0,z1,z2,zCls,zSns]
  rw [HT.out,HE.out];exact hret
 have h16':¬ (16:Int)≤cl.length:=by omega
 have HE:Hid (creE ((im,l),cl) nm num=0):=by rw [Hid,HCE.out,if_neg h16]
 have HT:Hid (creS ((im,l),cl) nm num=((im,l),cl++[(nm,num,[])])):=by rw [Hid,creS,if_pos HE.out]
 have HO:=Lib.hid (HOW.out w4 hbb4)
 go_wp2_with fail
 refine HO.out.mono ?_
 rintro e w5 ⟨B,vc,D,dc,G,gc,m1,m2,rfl,hcr,hb5⟩
 have hbb5:Below n2 W0 w5:=hbb4.trans (hb5.mono (by have:=hbb4.size;have:=HN2.out;omega))
 clear p0 p1 p2 HO
 obtain⟨ob,hob⟩:∃ ob,w5.heap.size=ob:=⟨_,rfl⟩
 obtain⟨w6,hw6⟩:∃ w6,w5.alloc (.cells #[.slice B im.length vc,.slice D l.length dc,.slice G cl.length gc] 29)=w6:=⟨_,rfl⟩
 have HW6:=Lib.hid hw6
 have hb6:Below ob w5 w6:=by rw [← hw6, ← hob];exact ext_alloc (Below.refl _ _)
 have hr6:w6.heap[ob]? = some (.cells #[.slice B im.length vc,.slice D l.length dc,.slice G cl.length gc] 29 (0,0)):=by rw [← hw6, ← hob];exact heap_alloc_new _ _
 clear hw6
 go_upto_region 13 with (fail)
 rw [HW6.out]
 obtain⟨q0,q1,q2,qf⟩:=blk3 hr6
 have hle:=hcr.le
 have hlv:=hcr.cl.lt
 have hz6:ob<w6.heap.size:=(Array.getElem?_eq_some_iff.1 hr6).1
 have hO6:OwnX (fun b=>b=ob) encCln w6 m2 87 (.slice G cl.length gc) cl:=(hcr.cl.var (X':=fun b=>b=ob) (fun g hg=>Or.inr (by rw [hob];omega))).below (by rw [hob];exact hb6)
 have hO4:=Lib.hid (hO6.alloc (.cells #[.string nm,.int .i64 num,.slice none 0 0] 87))
 have hO4o:=Lib.hid hO4.out.1
 have HCR:=Lib.hid hcr
 have HRD:Hid (encCln.rd (w6.alloc (.cells #[.string nm,.int .i64 num,.slice none 0 0] 87)) (fun g=>Nw m2 (w6.alloc (.cells #[.string nm,.int .i64 num,.slice none 0 0] 87)).heap.size g∧¬ g=ob∧(Value.slice G cl.length gc).ownBlock≠some g) [.string nm,.int .i64 num,.slice none 0 0] (nm,num,[])) :=
  cln_mk (x:=(nm,num,[])) (D:=none) (c:=0) hnm hI (by simp) (by simp) SlAt.nil_
 have HBB5:=Lib.hid hbb5
 have HLV:=Lib.hid hlv
 clear hcr hO6 HW6 hlv hbb5
 go_wp2_with (at_builtin;refine Hid.out ?_)
 change wpList _ _ _ _ _ _
 refine wpList_app1 (E:=encCln) tyClns rfl _ _ rfl rfl hO4o.out (nm,num,[]) [.string nm,.int .i64 num,.slice none 0 0] rfl HRD.out (heap_alloc_new _ _) (fun _ h=>h.1.2) (by simp;omega) (by unfold maxLen;omega) (by omega) ?_
 intro A5 c5 w7 hown5 hg5 hat5
 have hz7:=hg5.size
 rw [World.size_alloc] at hz7
 have hO7:=hO4.out.app hown5 hg5 hat5 (fun g hg=>by rw [World.size_alloc];have:g=ob:=hg;omega)
 have hk7:∀ g,g<m2∨g=ob→w7.heap[g]? = w6.heap[g]? := fun g hg=>(hg5.block g (by rw [World.size_alloc];omega) (fun e=>by
  rcases hg with hg | hg
  ·have:=(HLV.out g e.symm).1;omega
  ·have:=(HLV.out g e.symm).2;omega)).trans (Below.heap_alloc _ _ _ (by omega))
 have hr7:=(hk7 ob (Or.inr rfl)).trans hr6
 have hb67:Below n2 w6 w7:=((Below.refl n2 w6).alloc (by have:=HBB5.out.size;have:=HN2.out;omega) (.cells #[.string nm,.int .i64 num,.slice none 0 0] 87)).grown hg5 (by rw [World.size_alloc];have:=HBB5.out.size;have:=HN2.out;omega) (fun g h=>by have:=(HLV.out g h).1;have:=hbb4.size;have:=HN2.out;omega)
 have hbb7:Below n2 W0 w7:=(HBB5.out.trans (hb6.mono (by have:=HBB5.out.size;have:=HN2.out;omega))).trans hb67
 obtain⟨xl,hxl⟩:∃ xl,cl++[(nm,num,[])]=xl:=⟨_,rfl⟩
 have hlen:cl.length+1=xl.length:=by rw [← hxl];simp
 rw [hxl,hlen] at hO7
 rw [hxl] at HT
 have HO7:=Lib.hid hO7
 clear q0 q1 q2 qf hown5 hg5 hat5 hO4 hO4o HRD hO7 hxl
 obtain⟨q0,q1,q2,qf⟩:=blk3 hr7
 go_upto_region 14 with (fail)
 clear q0 q1 q2 qf
 change Code.wp _ _ _ _ (w7.setCell ⟨ob,2,none⟩ (.slice A5 xl.length c5))
 have hr8:(w7.setCell ⟨ob,2,none⟩ (.slice A5 xl.length c5)).heap[ob]? = some (.cells #[.slice B im.length vc,.slice D l.length dc,.slice A5 xl.length c5] 29 (0,0)):=blk3_set hr7 _
 have hO8:=Lib.hid (HO7.out.set (p:=⟨ob,2,none⟩) rfl (.slice A5 xl.length c5))
 have hk8:∀ g,g<m2→(w7.setCell ⟨ob,2,none⟩ (.slice A5 xl.length c5)).heap[g]? = w5.heap[g]? := fun g hg=>(heap_setCell_other _ _ _ _ (by show g≠ob;omega)).trans ((hk7 g (Or.inl hg)).trans (hb6.block g (by omega)))
 have hbb8:Below n2 W0 (w7.setCell ⟨ob,2,none⟩ (.slice A5 xl.length c5)):=hbb7.setCell (p:=⟨ob,2,none⟩) (by show n2≤ob;have:=HBB5.out.size;have:=HN2.out;omega) _
 have hz8:(w7.setCell ⟨ob,2,none⟩ (.slice A5 xl.length c5)).heap.size=w7.heap.size:=by simp [World.setCell]
 generalize w7.setCell ⟨ob,2,none⟩ (.slice A5 xl.length c5)=w8 at hr8 hO8 hk8 hbb8 hz8 ⊢
 have hz8':w7.heap.size≤w8.heap.size:=by omega
 obtain⟨_,y1,y2,y3⟩:=hO8.out.parts
 have hlo:n0+1<w4.heap.size∧w.heap.size≤w4.heap.size:=by have:=hbb4.size;have:=HN2.out;omega
 have HCL:Hid (ClAt (((im,l),xl):Cls) B vc D dc A5 c5 (fun q=>w.heap.size≤q∧q<w8.heap.size∧q≠n0+1) w8):=by
  have h:=HCR.out
  exact⟨⟨h.im.1,h.im.2.1,(h.im.2.2.blk (fun g hg=>hk8 g (by have:=hg.2;omega))).more (fun g hg=>⟨by have:=hg.1;omega,by have:=hg.2;omega,by have:=hg.1;omega⟩)⟩,
   ⟨h.sn.1,h.sn.2.1,(h.sn.2.2.blk (fun g hg=>hk8 g hg.2)).more (fun g hg=>⟨by have:=hg.1;omega,by have:=hg.2;omega,by have:=hg.1;omega⟩)⟩,
   ⟨y1,y2,y3.more (fun g hg=>⟨by have:=hg.1.1;omega,hg.1.2,by have:=hg.1.1;omega⟩)⟩⟩
 obtain⟨q0,q1,q2,qf⟩:=blk3 hr8
 have hr18:=HRR.out w8 hbb8
 obtain⟨v0,v1,v2,vf⟩:=blk3 hr18
 clear hz8 hk7 hk8 y3
 go_wp2_with fail
 have hend:=cl_end (w:=w) (x:=(((im,l),xl):Cls)) (A:=B) (c:=vc) (D:=D) (d:=dc) (G:=A5) (g:=c5) hr18 (by omega) (HBW.out w8 hbb8) HCL.out 0
 obtain⟨hz,hret⟩:=hend
 change bodyPost _ _ _ _ _ (sw3 w8 (n0+1) (.slice B ((((im,l),xl):Cls)).1.1.length vc) (.slice D ((((im,l),xl):Cls)).1.2.length dc) (.slice A5 ((((im,l),xl):Cls)).2.length c5))
 generalize sw3 w8 (n0+1) (.slice B ((((im,l),xl):Cls)).1.1.length vc) (.slice D ((((im,l),xl):Cls)).1.2.length dc) (.slice A5 ((((im,l),xl):Cls)).2.length c5)=W3 at hz hret ⊢
 obtain⟨z0,z1,z2,_⟩:=blk3 hz
 refine bodyPost_ret (v := .tuple #[.agg #[.slice B ((((im,l),xl):Cls)).1.1.length vc,.slice D ((((im,l),xl):Cls)).1.2.length dc,.slice A5 ((((im,l),xl):Cls)).2.length c5],.int .i64 0]) ?_ rfl ?_
 ·simp [results,Tryz.results12,Tryz.f12,go_sem,z0,z1,z2,zCls,zSns]
 rw [HT.out,HE.out];exact hret
end Go.Proofs.YtgndgkjefgjamaaGreat

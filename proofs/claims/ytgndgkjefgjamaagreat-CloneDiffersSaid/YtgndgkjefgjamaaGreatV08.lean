/-
  slices.Concat over writes; (*item).save: the walks.; slices.Backward over writes, and Lookup.
-/
import Derived.Lib.AppendZerosOnto
import Derived.BigQuiet
import Derived.Test.YtgndgkjefgjamaaGreatV01
import Derived.Test.YtgndgkjefgjamaaGreatV02
import Derived.Test.YtgndgkjefgjamaaGreatV03
import Derived.Test.YtgndgkjefgjamaaGreatV04
import Derived.Test.YtgndgkjefgjamaaGreatV05
import Derived.Test.YtgndgkjefgjamaaGreatV06
set_option linter.unusedVariables false
set_option linter.unusedSimpArgs false
set_option linter.unusedSectionVars false
set_option linter.unnecessarySimpa false
namespace Go.Proofs.YtgndgkjefgjamaaGreat
open Go.RowKit Go.Shelf
attribute [local go_sem] Oper.semAt_some

theorem growWr (n:Nat) (w:World) (hn:n≤100000):Calls Tryz.prog 173 #[.slice none 0 0,.int .i64 n] w fun e w'=>∃ A c,e = .returned (.slice A 0 c)∧(∀ S:Nat→Prop,(∀ b,S b→b<w.heap.size)→Own encWr w' w.heap.size 45 S (.slice A 0 c) [])∧Below w.heap.size w w':=by
 by_cases h0:n=0
 ·subst h0
  go_enter Tryz.func173,Tryz.ntmps173
  go_wp2
  go_ret
  exact⟨none,0,rfl,fun _ _=>Own.nil_,Below.refl _ _⟩
 ·obtain⟨i,z,hi,hz,hsz,hby,hzs⟩:=(tyWrs).info
  have hold:(Builtin.firstCells i.size 0 (.slice none 0 0)).run Tryz.prog w.drew = .ok #[] w.drew:=run_firstCells_none w.drew i.size 0 0 0
  have hg0:0<0+n:=by omega
  have hb1:n * i.bytes≤281474976710656:=by rw [hby];omega
  have hb2:(0+n) * i.bytes≤140737488355328:=by rw [hby];omega
  have hr:=fun ty=>Lib.run_append_grow_zeros (P:=Tryz.prog) w 64 3 ty 45 i z .i64 .i64 Tryz.underlying64 Tryz.underlying3 hi hz none 0 0 [] hold n (by omega) (by rw [hsz];decide) hg0 (by omega) hb1 (growslice_fits hg0 hb2)
  have hG1:=grownCap_ge w (0+n) 0 45
  have hG2:=grownCap_le_maxLen w (0+n) 0 45 (by unfold maxLen;omega)
  obtain⟨G,hG⟩:∃ G,grownCap w (0+n) 0 45=G:=⟨_,rfl⟩
  rw [hG] at hr hG1 hG2
  obtain⟨cur,hcur⟩:∃ cur:Array Value,(([]:List Value).toArray++Builtin.zeroCells z.cells n++Builtin.zeroCells z.cells (G - (0+n)))=cur:=⟨_,rfl⟩
  have hsize:cur.size=G * (encWr).size:=by
   rw [← hcur,Array.size_append,Array.size_append,size_zeroCells,size_zeroCells,hzs]
   show 0+n * (encWr).size+(G - (0+n)) * (encWr).size=G * (encWr).size
   rw [Nat.zero_add, ← Nat.add_mul,show n+(G - (0+n))=G by omega]
  rw [hcur] at hr
  have hO:Hid (∀ S:Nat→Prop,(∀ b,S b→b<w.heap.size)→Own encWr (w.drew.alloc (.cells cur 45)) w.heap.size 45 S (.slice (some ⟨w.heap.size,0,none⟩) 0 G) []):=fun S hS =>
   Own.make0 (w:=w.drew) (Nat.le_refl _) hG2 hsize (fun h=>Nat.lt_irrefl _ (hS _ h))
  have e1:((0+n:Nat):Int)=(n:Int):=by simp
  have hn0:(0:Int)<n:=by omega
  simp only [Nat.zero_add] at hr
  have hGi:(n:Int)≤G:=by omega
  unfold maxLen at hG2
  clear hi hz hsz hby hzs hold hb1 hb2 hG hcur hsize hG1
  go_enter Tryz.func173,Tryz.ntmps173
  go_wp2_with (at_builtin;refine Lib.wpList_append_run _ rfl _ _ _ _ rfl _ _ rfl rfl _ _ (hr _) ?_)
  all_goals (go_ret;exact⟨_,_,rfl,hO.out,(Below.refl _ w).drew.alloc (Nat.le_refl _) _⟩)
set_option maxHeartbeats 1000000 in
theorem concatWr (A:Option Addr) (c n N:Nat) (ls:List (List _)) (w:World) (hn:ls.length=n) (h1:SlAt (encSl encWr) w (Bl w.heap.size) A ls) (hN:ls.flatten.length=N) (hl:N≤100000) (hn4:n≤100000) :
  Calls Tryz.prog 155 #[.slice A n c] w fun e w'=>∃ A c,e = .returned (.slice A N c)∧Own encWr w' w.heap.size 45 (Bl w.heap.size) (.slice A N c) ls.flatten∧Below w.heap.size w w':=by
 subst hn
 have H1:Hid (∀ w',Below w.heap.size w w'→SlAt (encSl encWr) w' (Bl w.heap.size) A ls):=fun w' hb=>h1.below hb
 clear h1
 have hpre:∀ k,(ls.take k).flatten.length≤N:=fun k=>by
  rw [← hN]
  conv=>rhs;rw [← List.take_append_drop k ls]
  rw [List.flatten_append,List.length_append];omega
 have HP:=Lib.hid hpre;clear hpre
 have HN:=Lib.hid hN;clear hN
 have HG:=Lib.hid (fun W=>growWr N W hl)
 have hl64:(N:Int)≤100000:=by omega
 go_enter Tryz.func155,Tryz.ntmps155
 go_wp2
 go_loopw [3,11] (fun sz i wr=>∃ (k q:Nat),k≤ls.length∧i = .int .i64 k∧sz = .int .i64 q∧Hid (q=(ls.take k).flatten.length)∧Drew w wr) (fun _ i _=>ls.length - (intOf i).toNat)
 case atStart=>exact⟨0,0,by omega,rfl,rfl,by simp [Hid],Drew.refl _⟩
 case round =>
  obtain⟨wo,rfl⟩:∃ wo:World,wo=wr:=⟨_,rfl⟩
  obtain⟨k,q,hk,rfl,rfl,hq,hd⟩:=hrel
  have hqN:q≤N:=by rw [hq.out];exact HP.out k
  by_cases hlt:k<ls.length
  ·obtain⟨b,off,D,dc,rfl,hb,g0,hD,hd1,hd2⟩:=(H1.out wo (hd.below _)).sl hlt
   have hst:Hid (q+(ls[k]'hlt).length=(ls.take (k+1)).flatten.length):=by rw [Hid,hq.out,List.take_succ_eq_append_getElem hlt,List.flatten_append,List.flatten_singleton,List.length_append]
   have hst2:q+(ls[k]'hlt).length≤N:=by rw [hst.out];exact HP.out _
   obtain⟨x,hx⟩:∃ x,Hid (x=ls[k]'hlt):=⟨_,Lib.hid rfl⟩
   rw [← hx.out] at g0 hst hst2
   have hnn:(0:Int)≤k:=by omega
   have hki:(k:Int)<ls.length:=by omega
   have hneg:¬ (q:Int)+(x.length:Int)<0:=by omega
   clear hD hd1 hd2
   go_wp2
   go_roundw
   case rel=>exact⟨k+1,q+x.length,hlt,by go_num,by go_num,hst.out,hd⟩
   case measure=>simp [intOf];omega
  ·have hkk:k=ls.length:=by omega
   subst hkk
   have hqn:q=N:=by rw [hq.out,List.take_length];exact HN.out
   subst hqn
   have hB0:Below w.heap.size w wo:=hd.below _
   clear hqN hq hd HP
   go_wp2_with fail
   refine (HG.out wo).mono ?_
   rintro e w1 ⟨A1,c1,rfl,hO1,hb1⟩
   have hB1:Below w.heap.size w w1:=hB0.trans (hb1.mono hB0.size)
   have HO1:Hid (Own encWr w1 w.heap.size 45 (Bl w.heap.size) (.slice A1 0 c1) []):=by
    have h:=hO1 (Bl w.heap.size) (fun b hb=>Nat.lt_of_lt_of_le hb hB0.size)
    obtain⟨css,⟨k0,k1⟩,k2,k3⟩:=h
    refine⟨css,⟨k0, ?_⟩,k2,k3⟩
    rcases k1 with k1 | ⟨g,cap,cur,e1,hg,r⟩
    ·exact Or.inl k1
    ·exact Or.inr ⟨g,cap,cur,e1,Nat.le_trans hB0.size hg,r⟩
   clear hO1 HG
   go_wp2
   go_loopw [6,27] (fun v i wr=>∃ (k:Nat) (B:Option Addr) (vc:Nat) (out:List _),k≤ls.length∧i = .int .i64 k∧v = .slice B out.length vc∧Hid (out=(ls.take k).flatten)∧Below w.heap.size w wr∧Hid (Own encWr wr w.heap.size 45 (Bl w.heap.size) (.slice B out.length vc) out)) (fun _ i _=>ls.length - (intOf i).toNat)
   case atStart=>exact⟨0,A1,c1,[],by omega,rfl,rfl,by simp [Hid],hB1,HO1.out⟩
   case round =>
    obtain⟨wo2,rfl⟩:∃ wo:World,wo=wr:=⟨_,rfl⟩
    obtain⟨k,B,vc,out,hk,rfl,rfl,hout,hB,hown⟩:=hrel
    by_cases hlt:k<ls.length
    ·obtain⟨b,off,D,dc,he,hb,g0,hD,hd1,hd2⟩:=(H1.out wo2 hB).sl hlt
     subst he
     have hst:Hid (out++(ls[k]'hlt)=(ls.take (k+1)).flatten):=by rw [Hid,hout.out,List.take_succ_eq_append_getElem hlt,List.flatten_append,List.flatten_singleton]
     have hst2:out.length+(ls[k]'hlt).length≤q:=by
      rw [← List.length_append,hst.out, ← HN.out]
      conv=>rhs;rw [← List.take_append_drop (k+1) ls]
      rw [List.flatten_append,List.length_append];omega
     obtain⟨x,hx⟩:∃ x,Hid (x=ls[k]'hlt):=⟨_,Lib.hid rfl⟩
     rw [← hx.out] at g0 hst hst2 hD hd1
     have hDh:=Lib.hid hD;clear hD
     have hnn:(0:Int)≤k:=by omega
     have hki:(k:Int)<ls.length:=by omega
     have hszw:=hB.size
     go_wp2_with (at_builtin;refine Hid.out ?_)
     change wpList _ _ _ _ _ _
     refine wpList_appAll (E:=encWr) tyWrs rfl _ _ rfl rfl hown.out rfl rfl hDh.out (fun g hg=>Nat.lt_of_lt_of_le hg hszw) hszw (by unfold maxLen;omega) (by omega) ?_
     intro A5 c5 w5 hown5 hg5 hat5
     have hB5:=Lib.hid (hB.grown hg5 hszw (fun g h=>(hown.out.lt g h).1))
     have HO5:Hid (Own encWr w5 w.heap.size 45 (Bl w.heap.size) (.slice A5 (out++x).length c5) (out++x)):=by rw [List.length_append];exact hown5
     clear hown5 hg5 hat5 hd1 hd2 g0
     go_wp2
     go_roundw
     case rel=>exact⟨k+1,A5,c5,out++x,hlt,by go_num,by simp,hst.out,hB5.out,HO5.out⟩
     case measure=>simp [intOf];omega
    ·have hkk:k=ls.length:=by omega
     subst hkk
     go_wp2
     go_ret
     have e:=hout.out
     rw [List.take_length] at e
     have el:out.length=q:=by rw [e];exact HN.out
     refine⟨B,vc,by rw [← el];rfl, ?_,hB⟩
     rw [← e, ← el]
     exact hown.out
theorem litSl36 {α:Type} {E:Enc α} {W:World} {S S0:Nat→Prop} {g:Nat} {T:TypeId} {cs:Array Value} {css:List (List Value)} {l:List α} (hg:W.heap[g]? = some (.cells cs T (0,0))) (hcs:cs=css.flatten.toArray) (hr:All2 (E.rd W S0) css l) (h0:∀ b,S0 b→S b) (h1:S g):SlAt E W S (some ⟨g,0,none⟩) l:=by
 have hsz:=All2.sizes hr
 have hlen:css.flatten.length=l.length * E.size:=by rw [flatten_len E.size css hsz,hr.length]
 intro hne
 refine⟨g,0,rfl,h1,fun i x hx => ?_⟩
 obtain⟨c,hc,hr'⟩:=hr.get hx
 refine⟨c,fun j v hv => ?_,Enc.more hr' h0⟩
 rw [cell_of_row W g _ _ T _ hg,hcs]
 have:=flatten_at E.size css i j c v hsz hc hv
 rw [show 0+i * E.size+j=i * E.size+j from by omega]
 simpa using this
theorem grownBelow36 {w w':World} {b:Nat} (hb:Below w.heap.size w w') (u:Value) (j:Nat):w.grownBy (w'.setCell ⟨b,j,none⟩ u) (some b) :=
 ⟨hb.os,hb.tape,hb.output,by simpa [World.setCell] using hb.size,fun i hi hne=>(Below.heap_setCell w' _ u i (fun e=>hne (by rw [e]))).trans (hb.block i hi)⟩
def SaveRet (pb:Nat) (num tm:Int) (r:List Wr) (w:World) (e:Ending) (w':World):Prop :=
 ∃ A c,e = .returned (.tuple #[])∧w'.heap[pb]? = some (.cells #[.int .i64 num,.int .i64 tm,.slice A r.length c] 190 (0,0))∧(r.length≤c∧c≤maxLen∧SlAt encWr w' (Nw w.heap.size w'.heap.size) A r)∧w.grownBy w' (some pb)
set_option maxHeartbeats 2000000 in
set_option maxRecDepth 100000 in
theorem save_any (pb:Nat) (num tm:Int) (A D:Option Addr) (c d n:Nat) (l sv:List Wr) (w:World) (hn:l.length=n) (hr:w.heap[pb]? = some (.cells #[.int .i64 num,.int .i64 tm,.slice D sv.length d] 190 (0,0))) (h1:SlAt encWr w (Bl w.heap.size) A l) (h2:SlAt encWr w (Bl w.heap.size) D sv)
  (hc:n≤c∧c≤maxLen) (hd:sv.length≤d∧d≤maxLen) (hl:n+sv.length≤100000) :
  Calls Tryz.prog 128 #[.pointer (some ⟨pb,0,none⟩),.slice A n c] w (SaveRet pb num tm (foldL (l++sv)) w):=by
 subst hn
 have hpb:pb<w.heap.size:=(Array.getElem?_eq_some_iff.1 hr).1
 obtain⟨r0,r1,r2,rf⟩:=blk3 hr
 obtain⟨W1,hW1⟩:∃ W1,w.alloc (.cells #[.slice A l.length c,.slice D sv.length d] 64)=W1:=⟨_,rfl⟩
 have hb1:Below w.heap.size w W1:=by rw [← hW1];exact ext_alloc (Below.refl _ _)
 have hs1:w.heap.size<W1.heap.size:=by rw [← hW1];simp
 have hr1:W1.heap[w.heap.size]? = some (.cells #[.slice A l.length c,.slice D sv.length d] 64 (0,0)):=by rw [← hW1];exact heap_alloc_new _ _
 have hL:SlAt (encSl encWr) W1 (Bl W1.heap.size) (some ⟨w.heap.size,0,none⟩) [l,sv] :=
  litSl36 (S0:=Bl w.heap.size) (css:=[[.slice A l.length c],[.slice D sv.length d]]) hr1 rfl ⟨⟨A,c,rfl,hc.1,hc.2,h1.below hb1⟩,⟨D,d,rfl,hd.1,hd.2,h2.below hb1⟩,trivial⟩ (fun b hb=>Nat.lt_trans hb hs1) hs1
 have HCT:=Lib.hid (concatWr (some ⟨w.heap.size,0,none⟩) 2 2 (l++sv).length [l,sv] W1 rfl hL (by simp) (by simp;omega) (by omega))
 have hfl:([l,sv]:List (List Wr)).flatten=l++sv:=by simp
 rw [hfl] at HCT
 obtain⟨cat,hcat⟩:∃ cat,l++sv=cat:=⟨_,rfl⟩
 have hcl:cat.length≤100000:=by rw [← hcat,List.length_append];exact hl
 rw [hcat] at HCT ⊢
 clear hcat
 clear h1 h2 hL hr1 hfl
 go_enter Tryz.func128,Tryz.ntmps128
 go_wp2_with fail
 refine HCT.out.mono ?_
 rintro e w2 ⟨A2,c2,rfl,ho,hb2⟩
 have hbw2:Below w.heap.size w w2:=ext_trans hb1 hb2
 obtain⟨A',c',he,_,_,k3⟩:=ho.reads (S':=Bl w2.heap.size) (fun g hg=>Nat.lt_of_lt_of_le hg hb2.size) (fun g hg=>(ho.lt g hg).2)
 simp only [List.cons.injEq,Value.slice.injEq,and_true] at he
 obtain⟨rfl,_,rfl⟩:=he
 have HFD:=Lib.hid (fold_any A2 c2 cat w2 k3 (by omega))
 clear ho k3 HCT hb2 hW1
 go_wp2_with fail
 refine HFD.out.mono ?_
 rintro e w3 ⟨A3,c3,rfl,t1,t2,t3,hb3⟩
 have hbw3:Below w.heap.size w w3:=ext_trans hbw2 hb3
 have hr3:=(hbw3.block pb hpb).trans hr
 obtain⟨q0,q1,q2,qf⟩:=blk3 hr3
 have hz:=blk3_set hr3 (.slice A3 (foldL cat).length c3)
 have hg:=grownBelow36 (b:=pb) hbw3 (.slice A3 (foldL cat).length c3) 2
 have hs3:SlAt encWr (w3.setCell ⟨pb,2,none⟩ (.slice A3 (foldL cat).length c3)) (Nw w.heap.size (w3.setCell ⟨pb,2,none⟩ (.slice A3 (foldL cat).length c3)).heap.size) A3 (foldL cat):=by
  have e:(w3.setCell ⟨pb,2,none⟩ (.slice A3 (foldL cat).length c3)).heap.size=w3.heap.size:=by simp [World.setCell]
  rw [e]
  have hz2:=hbw2.size
  exact (t3.blk (w':=w3.setCell ⟨pb,2,none⟩ (.slice A3 (foldL cat).length c3)) (fun g hg=>heap_setCell_other w3 ⟨pb,2,none⟩ g _ (by have:=hg.1;show g≠pb;omega))).more (fun g hg=>hg.mono hz2 (Nat.le_refl _))
 clear r0 r1 r2 rf HFD t3 hr hr3
 go_wp2_with fail
 refine bodyPost_ret (results_none rfl _ _ _) rfl ?_
 exact⟨A3,c3,rfl,hz,⟨t1,t2,hs3⟩,hg⟩
end Go.Proofs.YtgndgkjefgjamaaGreat

namespace Go.Proofs.YtgndgkjefgjamaaGreat
open Go.RowKit Go.Shelf
attribute [local go_sem] Oper.semAt_some

theorem contW_len {im:Img} {x:Wr} (h:fitsN (lens im) x=0):(contW im x).2.2.length=x.2.2.length:=by
 obtain⟨k,s,e1,e2,h1,h2,h3⟩:=fits_img h
 have e3:x.1.toNat=k:=by omega
 have e4:x.2.1.toNat=s:=by omega
 unfold contW
 rw [e3,e4,List.length_take,List.length_drop];omega
set_option maxHeartbeats 4000000 in
set_option maxRecDepth 100000 in
theorem contents_any (A A2:Option Addr) (c c2 n m:Nat) (im:Img) (l:List Wr) (w:World) (hn:im.length=n) (hm:l.length=m) (h1:SlAt (encSl encSec) w (Bl w.heap.size) A im) (h2:SlAt encWr w (Bl w.heap.size) A2 l) (hl1:n≤100000) (hl2:m≤100000) (hf:∀ x∈l,fitsN (lens im) x=0) (hrl:∀ r∈im,r.length≤1000000) :
  Calls Tryz.prog 135 #[.slice A n c,.slice A2 m c2] w fun e w'=>∃ B vc,e = .returned (.slice B m vc)∧m≤vc∧vc≤maxLen∧SlAt encWr w' (Nw w.heap.size w'.heap.size) B (contL im l)∧Below w.heap.size w w':=by
 subst hn hm
 have H1:Hid (∀ w',Below w.heap.size w w'→SlAt (encSl encSec) w' (Bl w.heap.size) A im):=fun w' hb=>h1.below hb
 have H2:Hid (∀ w',Below w.heap.size w w'→SlAt encWr w' (Bl w.heap.size) A2 l):=fun w' hb=>h2.below hb
 have HF:=Lib.hid hf
 have HRL:=Lib.hid hrl
 clear h1 h2 hf hrl
 go_enter Tryz.func135,Tryz.ntmps135
 go_wp2
 go_loopw [5,10] (fun v i wr=>∃ (k:Nat) (B:Option Addr) (vc:Nat) (out:List Wr),k≤l.length∧i = .int .i64 k∧v = .slice B out.length vc∧Below w.heap.size w wr∧Hid (out=contL im (l.take k))∧Hid (OwnX (fun _=>False) encWr wr w.heap.size 45 (.slice B out.length vc) out)) (fun _ i _=>l.length - (intOf i).toNat)
 case atStart=>exact⟨0,none,0,[],by omega,rfl,rfl,Below.refl _ _,by simp [Hid,contL],OwnX.nil_⟩
 case round =>
  obtain⟨wo,rfl⟩:∃ wo:World,wo=wr:=⟨_,rfl⟩
  obtain⟨k,B,vc,out,hk,rfl,rfl,hB,hout,hown⟩:=hrel
  by_cases hlt:k<l.length
  ·obtain⟨b,off,D,dc,rfl,hb,g0,g1,g2,hD,hn1,hn2,hi1,hi2⟩:=(H2.out wo hB).wr hlt
   have hst:Hid (contL im (l.take (k+1))=contL im (l.take k)++[contW im l[k]]):=by rw [Hid,contL,List.take_succ_eq_append_getElem hlt,List.map_append];rfl
   have hfit:=HF.out l[k] (List.getElem_mem hlt)
   have hcl:=contW_len hfit
   obtain⟨kv,sn,ev,es,hkv,hdl0,hfl⟩:=fits_img hfit
   obtain⟨x,hx⟩:∃ x,l[k]=x:=⟨_,rfl⟩
   rw [hx] at g0 g1 g2 hD hn1 hi1 hi2 hst hcl ev es hdl0 hfl
   obtain⟨v,s,d⟩:=x
   simp only at g0 g1 g2 hD hn1 hi1 hi2 hcl ev es hdl0 hfl
   subst ev es
   obtain⟨b2,off2,D2,dc2,rfl,hb2,q0,hD2,hq1,hq2⟩:=(H1.out wo hB).sl hkv
   have hgd:im.getD kv []=im[kv]:=by rw [List.getD_eq_getElem?_getD,List.getElem?_eq_getElem hkv];rfl
   have hrl:=HRL.out im[kv] (List.getElem_mem hkv)
   have hcw:contW im ((kv:Int),(sn:Int),d)=((kv:Int),(sn:Int),(im[kv].drop sn).take d.length):=by
    unfold contW;simp only [Int.toNat_natCast];rw [hgd]
   rw [hgd] at hfl
   rw [hcw] at hst hcl
   obtain⟨row,hrow⟩:∃ r,im[kv]=r:=⟨_,rfl⟩
   rw [hrow] at q0 hD2 hq1 hfl hst hcl hrl
   obtain⟨b3,off3,rfl,hb3⟩:=hD2.some_ (fun e=>by rw [e] at hfl;have h0:sn+d.length≤0:=hfl;omega)
   have hSG:SlAt encSec wo (Bl w.heap.size) (some ⟨b3,off3+sn * 8,none⟩) ((row.drop sn).take d.length):=(hD2.drop (k:=sn)).take
   obtain⟨seg,hseg⟩:∃ seg,(row.drop sn).take d.length=seg:=⟨_,rfl⟩
   rw [hseg] at hSG hst
   simp only [hseg] at hcl
   have hki:(k:Int)<l.length:=by omega
   have hnn:(0:Int)≤k:=by omega
   have hkvi:(kv:Int)<im.length:=by omega
   have hkv0:(0:Int)≤kv:=by omega
   have hsn0:(0:Int)≤sn:=by omega
   have hdc2:(dc2:Int)≤9223372036854775807:=by unfold maxLen at hq2;omega
   obtain⟨en,hen0⟩:∃ en,sn+d.length=en:=⟨_,rfl⟩
   have hen:(sn:Int)+(d.length:Int)=en:=by omega
   have hsd:(en:Int)≤dc2:=by omega
   have hse:(sn:Int)≤en:=by omega
   have hendl:en - sn=d.length:=by omega
   have hsne:¬ dc2=sn:=by omega
   have hrl2:(en:Int)≤1000000:=by omega
   have hwr:IntKind.i64.wrap (en:Int)=(en:Int):=IntWalk.i64_in _ (by omega)
   have hol:out.length≤k:=by rw [hout.out];simp [contL];omega
   have hszo:=hB.size
   clear hen0
   clear hx hrow hseg hgd hcw hfit hD hn1 hD2 hq1 hfl
   go_upto_region 5 with (fail)
   obtain⟨W1,hW1⟩:∃ W1,wo.alloc (.cells #[.int .i64 kv,.int .i64 sn,.slice D d.length dc] 45)=W1:=⟨_,rfl⟩
   try rw [hW1]
   have hb1:Below wo.heap.size wo W1:=by rw [← hW1];exact ext_alloc (Below.refl _ _)
   have hr1:W1.heap[wo.heap.size]? = some (.cells #[.int .i64 kv,.int .i64 sn,.slice D d.length dc] 45 (0,0)):=by rw [← hW1];exact heap_alloc_new _ _
   have hs1:wo.heap.size<W1.heap.size:=by rw [← hW1];simp
   have HSX:Hid (∀ W:World,(∀ g,g=wo.heap.size∨g<w.heap.size→W.heap[g]? = W1.heap[g]?)→W.cell? ⟨wo.heap.size,0,none⟩=some (.int .i64 kv)∧W.cell? ⟨wo.heap.size,1,none⟩=some (.int .i64 sn)∧W.cell? ⟨wo.heap.size,2,none⟩=some (.slice D d.length dc)∧W.cell? ⟨b2,off2+kv,none⟩=some (.slice (some ⟨b3,off3,none⟩) row.length dc2)):=fun W hk'=>by
    obtain⟨a0,a1,a2,_⟩:=blk3 ((hk' _ (Or.inl rfl)).trans hr1)
    exact⟨a0,a1,a2,(World.cell?_of_block (a:=⟨b2,off2+kv,none⟩) (hk' b2 (Or.inr hb2))).trans ((hb1.cell (p:=⟨b2,off2+kv,none⟩) (by have:b2<w.heap.size:=hb2;show b2<wo.heap.size;omega)).trans q0)⟩
   have hgl:∀ g,g=wo.heap.size∨g<w.heap.size→g<W1.heap.size:=fun g hg=>by omega
   have HGL:=Lib.hid hgl
   clear hgl
   have HCL:Hid (∀ n5 c5,n5=d.length→Calls Tryz.prog 105 #[.slice (some ⟨b3,off3+sn * 8,none⟩) n5 c5] W1.drew fun e w'=>∃ A' c',e = .returned (.slice A' d.length c')∧d.length≤c'∧c'≤maxLen∧SlAt encSec w' (Nw W1.drew.heap.size w'.heap.size) A' seg∧Below W1.drew.heap.size W1.drew w'):=fun n5 c5 h5=>by
    subst h5
    exact cloneSecs_any (some ⟨b3,off3+sn * 8,none⟩) c5 d.length seg W1.drew hcl (((hSG.blk (w':=W1) (fun g hg=>hb1.block g (by have:g<w.heap.size:=hg;omega))).drew (w':=W1.drew) ⟨1,rfl⟩).more (fun g hg=>by have:g<w.heap.size:=hg;show g<W1.heap.size;omega)) (by omega)
   have hlo:=Lib.hid hown.out.lt
   have hc0:=HSX.out W1.drew (fun _ _=>rfl)
   clear hW1 g0 g1 g2 q0 hSG
   go_region_held3 (fun W=>W.cell? ⟨wo.heap.size,0,none⟩=some (.int .i64 kv)∧W.cell? ⟨wo.heap.size,1,none⟩=some (.int .i64 sn)∧W.cell? ⟨wo.heap.size,2,none⟩=some (.slice D d.length dc)∧W.cell? ⟨b2,off2+kv,none⟩=some (.slice (some ⟨b3,off3,none⟩) row.length dc2)) (first | exact hc0 | exact HSX.out _ hx7 | exact HSX.out _ hx6a | exact HSX.out _ hx6k) (first | (go_at_call 105;refine (HCL.out _ _ (by omega)).mono ?_;rintro e w6 ⟨A4,c4,rfl,k1,k2,k3,h6⟩;have hx6:Below W1.heap.size W1 w6:=bUn h6;have hz6:=hx6.size;have hx6k:∀ g,g=wo.heap.size∨g<w.heap.size→w6.heap[g]? = W1.heap[g]? := fun g hg=>hx6.block g (HGL.out g hg);have hx6a:∀ g,g=wo.heap.size∨g<w.heap.size→(w6.alloc (.cells #[.int .i64 kv,.int .i64 sn,.slice A4 d.length c4] 45)).heap[g]? = W1.heap[g]? := fun g hg=>(Below.heap_alloc _ _ _ (Nat.lt_of_lt_of_le (HGL.out g hg) hz6)).trans (hx6k g hg);have hO4:=Lib.hid ((hown.out.below (hb1.trans (hx6.mono (by omega)))).alloc (.cells #[.int .i64 kv,.int .i64 sn,.slice A4 d.length c4] 45));have hO4o:=Lib.hid hO4.out.1;have HRD:Hid (encWr.rd (w6.alloc (.cells #[.int .i64 kv,.int .i64 sn,.slice A4 d.length c4] 45)) (fun g=>Nw w.heap.size (w6.alloc (.cells #[.int .i64 kv,.int .i64 sn,.slice A4 d.length c4] 45)).heap.size g∧¬ (fun _=>False) g∧(Value.slice B out.length vc).ownBlock≠some g) [.int .i64 kv,.int .i64 sn,.slice A4 d.length c4] ((kv:Int),(sn:Int),seg)):=by { have h:=wr_mk (w:=w6.alloc (.cells #[.int .i64 kv,.int .i64 sn,.slice A4 d.length c4] 45)) (x:=((kv:Int),(sn:Int),seg)) (D:=A4) (c:=c4) hi1 hi2 (by rw [hcl];exact k1) k2 (OwnX.since (X:=fun _=>False) (v:=Value.slice B out.length vc) (lo:=w.heap.size) (B:=W1.heap.size) ((k3.blk (fun g hg=>Below.heap_alloc _ _ _ hg.2)).more (fun g hg=>hg.mono (Nat.le_refl _) (by simp))) (by omega) (fun _ h=>h.elim) (fun g hg=>by have:=(hlo.out g hg).2;omega));rw [hcl] at h;exact h }) | (refine step_app1 (E:=encWr) tyWrs rfl _ _ rfl rfl hO4o.out ((kv:Int),(sn:Int),seg) [.int .i64 kv,.int .i64 sn,.slice A4 d.length c4] rfl HRD.out (heap_alloc_new _ _) (fun _ h=>h.1.2) (by simp;omega) (by unfold maxLen;omega) (by omega) ?_;intro A5 c5 w7 hown5 hg5 hat5;have hx7:∀ g,g=wo.heap.size∨g<w.heap.size→w7.heap[g]? = W1.heap[g]? := fun g hg=>(hg5.block g (by have:=HGL.out g hg;simp;omega) (fun e=>by have:=hlo.out g e.symm;omega)).trans (hx6a g hg)))
   have hO5:=Lib.hid (hO4.out.app hown5 hg5 hat5 (fun _ h=>h.elim))
   have hB5:=Lib.hid (((hB.trans (hb1.mono hszo)).trans (hx6.mono (by omega))).alloc (by omega) (.cells #[.int .i64 kv,.int .i64 sn,.slice A4 d.length c4] 45) |>.grown hg5 (by simp;omega) (fun g h=>(hlo.out g h).1))
   clear hown5 hg5 hat5 hx6a hx6k hx7 hx6 hc0 k3 HRD hwr hen
   go_wp2
   go_roundw
   case rel=>exact⟨k+1,A5,c5,out++[((kv:Int),(sn:Int),seg)],hlt,by go_num,by simp,hB5.out,by rw [Hid,hst.out,hout.out],by have:=hO5.out;simpa [Hid] using this⟩
   case measure=>simp [intOf];omega
  ·have hkk:k=l.length:=by omega
   subst hkk
   go_wp2
   go_ret
   have e:=hout.out
   rw [List.take_length] at e
   obtain⟨_,p1,p2,p3⟩:=hown.out.parts
   have el:out.length=l.length:=by rw [e];simp [contL]
   refine⟨B,vc,by rw [← el];rfl,by omega,p2, ?_,hB⟩
   rw [← e]
   exact p3.more (fun _ h=>h.1)
end Go.Proofs.YtgndgkjefgjamaaGreat

namespace Go.Proofs.YtgndgkjefgjamaaGreat
open Go.RowKit Go.Shelf
attribute [local go_sem] Oper.semAt_some

theorem setLast_set {l:List Snp} (h:0<l.length) (f:List Wr→List Wr):setLast l f=l.set (l.length - 1) ((l[l.length - 1]).1,(l[l.length - 1]).2.1,f (l[l.length - 1]).2.2):=by
 have e:l.getLast? = some (l[l.length - 1]):=by rw [List.getLast?_eq_getElem?,List.getElem?_eq_getElem (by omega)]
 unfold setLast
 rw [e]
 obtain⟨r,hr⟩:=List.getLast?_eq_some_iff.1 e
 obtain⟨x,hx⟩:∃ x,l[l.length - 1]=x:=⟨_,rfl⟩
 rw [hx] at hr ⊢
 show l.dropLast++[(x.1,x.2.1,f x.2.2)]=_
 have hd:l.dropLast=r:=by rw [hr];simp
 have hn:l.length - 1=r.length:=by rw [hr];simp
 rw [hd,hn]
 rw [hr];simp
theorem setLast_nil (f:List Wr→List Wr):setLast [] f=[]:=rfl
def st3 (w:World) (g i:Nat) (u v t:Value):World:=((w.setCell ⟨g,i * 3,none⟩ u).setCell ⟨g,i * 3+1,none⟩ v).setCell ⟨g,i * 3+2,none⟩ t
theorem st3_other {w:World} {g i b:Nat} {u v t:Value} (h:b≠g):(st3 w g i u v t).heap[b]? = w.heap[b]? :=
 (Below.heap_setCell _ ⟨g,i * 3+2,none⟩ _ _ h).trans ((Below.heap_setCell _ ⟨g,i * 3+1,none⟩ _ _ h).trans (Below.heap_setCell _ ⟨g,i * 3,none⟩ _ _ h))
theorem st3_size {w:World} {g i:Nat} {u v t:Value}:(st3 w g i u v t).heap.size=w.heap.size:=by simp [st3,World.setCell]
theorem Own.storeS {w:World} {base g n c:Nat} {T:TypeId} {S:Nat→Prop} {l:List Snp} (h:Own encSnp w base T S (.slice (some ⟨g,0,none⟩) n c) l) {i:Nat} (hi:i<l.length) {v s:Int} {d:List Wr} {D:Option Addr} {dc:Nat}
  (h1:I64 v) (h2:I64 s) (h3:d.length≤dc) (h4:dc≤maxLen) (h5:SlAt encWr w S D d) :
  Own encSnp (st3 w g i (.int .i64 v) (.int .i64 s) (.slice D d.length dc)) base T S (.slice (some ⟨g,0,none⟩) n c) (l.set i (v,s,d)):=by
 have hg:¬ S g:=by obtain⟨_,_,_,h3⟩:=h;exact h3 g rfl
 have a1:Own encSnp (w.setCell ⟨g,i * 3,none⟩ (.int .i64 v)) base T S (.slice (some ⟨g,0,none⟩) n c) (l.set i (v,l[i].2.1,l[i].2.2)):=by
  refine Own.stored (E:=encSnp) h (j:=0) hi (by decide) (.int .i64 v) (v,l[i].2.1,l[i].2.2) (fun cs hr => ?_)
  obtain⟨D',c',rfl,k1,k2,k3,k4,k5⟩:=snp_cs hr
  exact snp_mk (x:=(v,l[i].2.1,l[i].2.2)) h1 k2 k3 k4 k5
 have a2:Own encSnp ((w.setCell ⟨g,i * 3,none⟩ (.int .i64 v)).setCell ⟨g,i * 3+1,none⟩ (.int .i64 s)) base T S (.slice (some ⟨g,0,none⟩) n c) (l.set i (v,s,l[i].2.2)):=by
  have:=Own.stored (E:=encSnp) a1 (j:=1) (i:=i) (by simpa using hi) (by decide) (.int .i64 s) (v,s,l[i].2.2) (fun cs hr=>by
   obtain⟨D',c',rfl,k1,k2,k3,k4,k5⟩:=snp_cs hr
   simp only [List.getElem_set_self] at k1 k2 k3 k4 k5 ⊢
   exact snp_mk (x:=(v,s,l[i].2.2)) h1 h2 k3 k4 k5)
  rw [List.set_set] at this
  exact this
 have a3:=Own.stored (E:=encSnp) a2 (j:=2) (i:=i) (by simpa using hi) (by decide) (.slice D d.length dc) (v,s,d) (fun cs hr=>by
  obtain⟨D',c',rfl,k1,k2,k3,k4,k5⟩:=snp_cs hr
  simp only [List.getElem_set_self] at k1 k2 k3 k4 k5 ⊢
  exact snp_mk (x:=(v,s,d)) h1 h2 h3 h4 (h5.blk (fun b hb=>(Below.heap_setCell _ _ _ _ (fun e=>hg (by rw [show g=b from e.symm];exact hb))).trans (Below.heap_setCell _ _ _ _ (fun e=>hg (by rw [show g=b from e.symm];exact hb))))))
 rw [List.set_set] at a3
 exact a3
theorem OwnX.storeS {X:Nat→Prop} {w:World} {lo g n c:Nat} {T:TypeId} {l:List Snp} (h:OwnX X encSnp w lo T (.slice (some ⟨g,0,none⟩) n c) l) {i:Nat} (hi:i<l.length) {v s:Int} {d:List Wr} {D:Option Addr} {dc:Nat}
  (h1:I64 v) (h2:I64 s) (h3:d.length≤dc) (h4:dc≤maxLen) (h5:SlAt encWr w (fun b=>Nw lo w.heap.size b∧¬ X b∧b≠g) D d) :
  OwnX X encSnp (st3 w g i (.int .i64 v) (.int .i64 s) (.slice D d.length dc)) lo T (.slice (some ⟨g,0,none⟩) n c) (l.set i (v,s,d)):=by
 have hg:(Value.slice (some ⟨g,0,none⟩) n c).ownBlock=some g:=rfl
 refine⟨?_,h.2⟩
 have:=Own.storeS h.1 hi h1 h2 h3 h4 (h5.more (fun b hb=>⟨hb.1,hb.2.1,by rw [hg];intro e;injection e with e;exact hb.2.2 e.symm⟩))
 rw [st3_size]
 exact this
end Go.Proofs.YtgndgkjefgjamaaGreat

namespace Go.Proofs.YtgndgkjefgjamaaGreat
open Go.RowKit Go.Shelf
attribute [local go_sem] Oper.semAt_some

theorem errOf_conv36 {α:Type} {f:α→Int} {l:List α} (h:errOf f l=0):∀ x∈l,f x=0:=by
 intro x hx
 unfold errOf at h
 cases hq:l.find? (fun x=>f x != 0) with
 | none =>
   have:=List.find?_eq_none.1 hq x hx
   simpa using this
 | some y =>
   rw [hq] at h
   have:=List.find?_some hq
   simp at this h
   exact absurd h this
theorem applyErr_ok {im:Img} {l:List Wr} (h:applyErr im l=0):sizesN (lens im)=0∧∀ x∈l,fitsN (lens im) x=0:=by
 unfold applyErr at h
 by_cases h1:sizesN (lens im)=0
 ·rw [if_neg (by simp [h1])] at h
  exact⟨h1,errOf_conv36 h⟩
 ·rw [if_pos h1] at h;exact absurd h h1
set_option maxHeartbeats 4000000 in
set_option maxRecDepth 100000 in
theorem snApply_any (A A2 A3:Option Addr) (c c2 c3 n m p:Nat) (im:Img) (l:List Snp) (ws:List Wr) (w:World) (hn:im.length=n) (hm:l.length=m) (hp:ws.length=p) (h1:SlAt (encSl encSec) w (Bl w.heap.size) A im) (h2:SlAt encSnp w (Bl w.heap.size) A2 l) (h3:SlAt encWr w (Bl w.heap.size) A3 ws) (hL:SnLim im l) (hwl:p≤1000) (hsv:∀ x∈l,x.2.2.length≤99000) :
  Calls Tryz.prog 83 #[.agg #[.slice A n c,.slice A2 m c2],.slice A3 p c3] w (SnRetE (sApply (im,l) ws) (sApplyE (im,l) ws) w):=by
 subst hn hm hp
 have H1:Hid (∀ w',Below w.heap.size w w'→SlAt (encSl encSec) w' (Bl w.heap.size) A im):=fun w' hb=>h1.below hb
 have H2:Hid (∀ w',Below w.heap.size w w'→SlAt encSnp w' (Bl w.heap.size) A2 l):=fun w' hb=>h2.below hb
 have H3:Hid (∀ w',Below w.heap.size w w'→SlAt encWr w' (Bl w.heap.size) A3 ws):=fun w' hb=>h3.below hb
 have HLM:=Lib.hid hL
 have HSV:=Lib.hid hsv
 have hl1:=hL.ims
 have hl2:=hL.its
 clear h1 h2 h3 hL hsv
 obtain⟨n0,hn0⟩:∃ n0,w.heap.size=n0:=⟨_,rfl⟩
 obtain⟨W0,hW0⟩:∃ W0,(w.alloc (.cells #[.slice A im.length c,.slice A2 l.length c2] 26)).alloc (.cells #[.slice none 0 0,.slice none 0 0] 26)=W0:=⟨_,rfl⟩
 have hB0:Below n0 w W0:=by rw [← hW0, ← hn0];exact ext_alloc (ext_alloc (Below.refl _ _))
 have hs0:n0+1<W0.heap.size:=by rw [← hW0, ← hn0];simp
 have hr0:W0.heap[n0]? = some (.cells #[.slice A im.length c,.slice A2 l.length c2] 26 (0,0)):=by rw [← hW0, ← hn0];exact (Below.heap_alloc _ _ _ (by simp)).trans (heap_alloc_new _ _)
 have hrz0:W0.heap[n0+1]? = some (.cells #[.slice none 0 0,.slice none 0 0] 26 (0,0)):=by rw [← hW0, ← hn0];exact heap_new2 _ _ _
 have hBL:Hid (∀ (W:World) g,Below n0 w W→Bl w.heap.size g→Bl W.heap.size g):=fun W g hb hg=>by have:=hb.size;have h5:g<w.heap.size:=hg;show g<W.heap.size;omega
 have HCC:Hid (∀ W,Below W0.heap.size W0 W→W.cell? ⟨n0,0,none⟩=some (.slice A im.length c)∧W.cell? ⟨n0,1,none⟩=some (.slice A2 l.length c2)):=fun W hb=>by
  obtain⟨a,b,_⟩:=blk2 ((hb.block n0 (by omega)).trans hr0)
  exact⟨a,b⟩
 have HRZ:Hid (∀ W,Below W0.heap.size W0 W→W.heap[n0+1]? = some (.cells #[.slice none 0 0,.slice none 0 0] 26 (0,0))):=fun W hb=>(hb.block (n0+1) hs0).trans hrz0
 obtain⟨r,hr⟩:∃ r,Hid (snE (im,l)=r):=⟨_,rfl⟩
 have HCK:=Lib.hid (snCheck_any A A2 c c2 im.length l.length im l r W0 rfl rfl hr.out ((H1.out W0 (by rw [hn0];exact hB0)).more (fun g hg=>hBL.out W0 g hB0 hg)) ((H2.out W0 (by rw [hn0];exact hB0)).more (fun g hg=>hBL.out W0 g hB0 hg)) hl1 (by omega))
 obtain⟨c0,c1⟩:=HCC.out W0 (Below.refl _ _)
 clear hr0 hrz0
 go_enter Tryz.func83,Tryz.ntmps83
 go_wp2_with fail
 refine HCK.out.mono ?_
 rintro e w1 ⟨rfl,hb1⟩
 have hbw1:Below n0 w w1:=hB0.trans (hb1.mono (by omega))
 have hz1:=hb1.size
 have hrz1:=HRZ.out w1 hb1
 clear HCK hW0 c0 c1
 by_cases hx0:r=0
 case neg =>
  have hx0':(r != 0)=true:=by simp [hx0]
  have hne:r≠0:=hx0
  have hre:Hid (sApplyE (im,l) ws=r):=by rw [Hid,sApplyE,hr.out,if_pos hx0]
  clear hx0
  have hE:Hid (sApplyE (im,l) ws=r):=hre.out
  have hS:Hid (sApply (im,l) ws=zSns):=by rw [Hid,sApply,if_neg (by rw [hE.out];exact hne)]
  obtain⟨q0,q1,qf⟩:=blk2 hrz1
  clear hne
  go_wp2_with fail
  have hz:=blk2_set hrz1 (.slice none 0 0) (.slice none 0 0)
  have hbe:=((hbw1.setCell (p:=⟨n0+1,0,none⟩) (by show n0≤n0+1;omega) (.slice none 0 0)).setCell (p:=⟨n0+1,1,none⟩) (by show n0≤n0+1;omega) (.slice none 0 0))
  have hse:=(SnRet.zero (w:=(w1.setCell ⟨n0+1,0,none⟩ (.slice none 0 0)).setCell ⟨n0+1,1,none⟩ (.slice none 0 0)) (lo:=n0) (by simp [World.setCell];omega))
  change bodyPost _ _ _ _ _ ((w1.setCell ⟨(n0+1),0,none⟩ (.slice none 0 0)).setCell ⟨(n0+1),1,none⟩ (.slice none 0 0))
  generalize (w1.setCell ⟨(n0+1),0,none⟩ (.slice none 0 0)).setCell ⟨(n0+1),1,none⟩ (.slice none 0 0)=W3 at hz hbe hse ⊢
  obtain⟨z0,z1,_⟩:=blk2 hz
  refine bodyPost_ret (v := .tuple #[.agg #[(.slice none 0 0),(.slice none 0 0)],.int .i64 r]) ?_ rfl ?_
  ·simp [results,Tryz.results83,Tryz.f83,go_sem,z0,z1]
  rw [hE.out,hS.out]
  exact⟨none,0,none,0,n0,rfl,by rw [hn0];exact hse,by rw [hn0];exact hbe⟩
 have hx0':(r != 0)=false:=by simp [hx0]
 have HOK:Hid (snE (im,l)=0):=by rw [Hid,hr.out,hx0]
 clear hx0 hr
 obtain⟨en,hen⟩:∃ en,Hid (applyErr im ws=en):=⟨_,rfl⟩
 have hsE:Hid (sApplyE (im,l) ws=en):=by rw [Hid,sApplyE,HOK.out,if_neg (by decide)];exact hen.out
 have HAP:=Lib.hid (apply_any A A3 c c3 im ws w1 ((H1.out w1 (by rw [hn0];exact hbw1)).more (fun g hg=>hBL.out w1 g hbw1 hg)) (by omega) ((H3.out w1 (by rw [hn0];exact hbw1)).more (fun g hg=>hBL.out w1 g hbw1 hg)) (by omega))
 rw [hen.out] at HAP
 obtain⟨c0,c1⟩:=HCC.out w1 hb1
 go_wp2_with fail
 refine HAP.out.mono ?_
 rintro e w2 ⟨A4,c4,ix,rfl,a1,a2,a3,hb2⟩
 have hb02:Below W0.heap.size W0 w2:=ext_trans hb1 hb2
 have hbw2:Below n0 w w2:=hB0.trans (hb02.mono (by omega))
 have hrz2:=HRZ.out w2 hb02
 have hz2:=hb2.size
 have HA3:=Lib.hid a3
 clear HAP c0 c1 hrz1 a3
 by_cases hx0:en=0
 case neg =>
  have hx0':(en != 0)=true:=by simp [hx0]
  have hne:en≠0:=hx0
  clear hx0
  have hE:Hid (sApplyE (im,l) ws=en):=hsE.out
  have hS:Hid (sApply (im,l) ws=zSns):=by rw [Hid,sApply,if_neg (by rw [hE.out];exact hne)]
  obtain⟨q0,q1,qf⟩:=blk2 hrz2
  clear hne
  go_wp2_with fail
  have hz:=blk2_set hrz2 (.slice none 0 0) (.slice none 0 0)
  have hbe:=((hbw2.setCell (p:=⟨n0+1,0,none⟩) (by show n0≤n0+1;omega) (.slice none 0 0)).setCell (p:=⟨n0+1,1,none⟩) (by show n0≤n0+1;omega) (.slice none 0 0))
  have hse:=(SnRet.zero (w:=(w2.setCell ⟨n0+1,0,none⟩ (.slice none 0 0)).setCell ⟨n0+1,1,none⟩ (.slice none 0 0)) (lo:=n0) (by simp [World.setCell];omega))
  change bodyPost _ _ _ _ _ ((w2.setCell ⟨(n0+1),0,none⟩ (.slice none 0 0)).setCell ⟨(n0+1),1,none⟩ (.slice none 0 0))
  generalize (w2.setCell ⟨(n0+1),0,none⟩ (.slice none 0 0)).setCell ⟨(n0+1),1,none⟩ (.slice none 0 0)=W3 at hz hbe hse ⊢
  obtain⟨z0,z1,_⟩:=blk2 hz
  refine bodyPost_ret (v := .tuple #[.agg #[(.slice none 0 0),(.slice none 0 0)],.int .i64 en]) ?_ rfl ?_
  ·simp [results,Tryz.results83,Tryz.f83,go_sem,z0,z1]
  rw [hE.out,hS.out]
  exact⟨none,0,none,0,n0,rfl,by rw [hn0];exact hse,by rw [hn0];exact hbe⟩
 have hx0':(en != 0)=false:=by simp [hx0]
 have hE:Hid (sApplyE (im,l) ws=0):=by rw [Hid,hsE.out,hx0]
 have hfit:Hid (∀ x∈ws,fitsN (lens im) x=0):=(applyErr_ok (by rw [hen.out,hx0])).2
 have hapl:Hid (applyL im ws=putAll im ws):=by rw [Hid,applyL,if_pos (by rw [hen.out,hx0])]
 have hS:Hid (sApply (im,l) ws=(putAll im ws,setLast l fun d=>foldL (contL im ws++d))):=by rw [Hid,sApply,if_pos hE.out]
 rw [hapl.out] at HA3 a1 ⊢
 clear hx0 hsE hapl
 have hpl:(putAll im ws).length=im.length:=putAll_length im ws
 obtain⟨im2,him2⟩:∃ im2,putAll im ws=im2:=⟨_,rfl⟩
 rw [him2] at HA3 a1 hS hpl ⊢
 clear him2
 have HCP:=Lib.hid (copied36_any A A2 c c2 im.length l.length im l w2 rfl rfl ((H1.out w2 (by rw [hn0];exact hbw2)).more (fun g hg=>hBL.out w2 g hbw2 hg)) ((H2.out w2 (by rw [hn0];exact hbw2)).more (fun g hg=>hBL.out w2 g hbw2 hg)) HLM.out)
 obtain⟨c0,c1⟩:=HCC.out w2 hb02
 go_wp2_with fail
 refine HCP.out.mono ?_
 rintro e w3 ⟨B,vc,D,dc,mid,rfl,hsn,hb3⟩
 clear HCP c0 c1 hrz2
 go_upto_region 8 with (fail)
 obtain⟨ob,hob⟩:∃ ob,w3.heap.size=ob:=⟨_,rfl⟩
 obtain⟨w4,hw4⟩:∃ w4,w3.alloc (.cells #[.slice B im.length vc,.slice D l.length dc] 26)=w4:=⟨_,rfl⟩
 rw [hw4,hob]
 have hb4:Below w3.heap.size w3 w4:=by rw [← hw4];exact ext_alloc (Below.refl _ _)
 have hr4:w4.heap[ob]? = some (.cells #[.slice B im.length vc,.slice D l.length dc] 26 (0,0)):=by rw [← hw4, ← hob];exact heap_alloc_new _ _
 have hs4:ob<w4.heap.size:=(Array.getElem?_eq_some_iff.1 hr4).1
 have hz3:=hb3.size
 obtain⟨k1,k2,k3,k4,k5,k6⟩:=hsn
 have hO4:Hid (OwnX (fun g=>g=ob) encSnp w4 mid 158 (.slice D l.length dc) l):=(k6.var (X':=fun g=>g=ob) (fun g hg=>Or.inr (by omega))).below hb4
 have hb04:Below W0.heap.size W0 w4:=ext_trans (ext_trans hb02 hb3) hb4
 have hbw4:Below n0 w w4:=hB0.trans (hb04.mono (by omega))
 have HA4:Hid (SlAt (encSl encSec) w4 (Nw w1.heap.size mid) A4 im2):=(HA3.out.blk (w':=w4) (fun g hg=>(hb4.block g (by have:=hg.2;omega)).trans (hb3.block g hg.2))).more (fun g hg=>hg.mono (Nat.le_refl _) (by omega))
 obtain⟨o0,o1,_⟩:=blk2 hr4
 have hmz:mid≤ob:=by omega
 clear k1 k2 k5 k6 hw4 HA3 hb3 hb4 hen
 by_cases h0:l.length=0
 ·have HL0:Hid (l=[]):=List.eq_nil_of_length_eq_zero h0
  have hg0:decide (0<l.length)=false:=decide_eq_false (by omega)
  clear h0
  go_upto_region 13 with (fail)
  obtain⟨o0,o1,of⟩:=blk2 hr4
  have hro6:=blk2_0 hr4 (.slice A4 im.length c4)
  have hrz6:(w4.setCell ⟨ob,0,none⟩ (.slice A4 im.length c4)).heap[n0+1]? = some (.cells #[.slice none 0 0,.slice none 0 0] 26 (0,0)):=(heap_setCell_other w4 ⟨ob,0,none⟩ (n0+1) (.slice A4 im.length c4) (by show n0+1≠ob;omega)).trans (HRZ.out w4 hb04)
  have hO6:=Lib.hid ((hO4.out).set (p:=⟨ob,0,none⟩) rfl (.slice A4 im.length c4))
  have hA6:Hid (SlAt (encSl encSec) (w4.setCell ⟨ob,0,none⟩ (.slice A4 im.length c4)) (Nw w1.heap.size mid) A4 im2):=(HA4.out).blk (fun g hg=>heap_setCell_other _ _ _ _ (by have:=hg.2;show g≠ob;omega))
  have hB6:Below n0 w (w4.setCell ⟨ob,0,none⟩ (.slice A4 im.length c4)):=(hbw4).setCell (p:=⟨ob,0,none⟩) (by show n0≤ob;omega) _
  have hz6:mid≤(w4.setCell ⟨ob,0,none⟩ (.slice A4 im.length c4)).heap.size:=by have:=(hbw4).size;have:=(Array.getElem?_eq_some_iff.1 hr4).1;simp [World.setCell];omega
  go_upto_region 14 with (fail)
  generalize w4.setCell ⟨ob,0,none⟩ (.slice A4 im.length c4)=w6 at hro6 hrz6 hO6 hA6 hB6 hz6 ⊢
  clear o0 o1 of
  obtain⟨o0,o1,_⟩:=blk2 hro6
  obtain⟨q0,q1,qf⟩:=blk2 hrz6
  go_wp2_with fail
  have hz:=blk2_set hrz6 (.slice A4 im.length c4) (.slice D l.length dc)
  have hbe:=((hB6.setCell (p:=⟨n0+1,0,none⟩) (by show n0≤n0+1;omega) (.slice A4 im.length c4)).setCell (p:=⟨n0+1,1,none⟩) (by show n0≤n0+1;omega) (.slice D l.length dc))
  have hse:=(((show SnRet im2 l A4 c4 D dc mid w1.heap.size w6 from ⟨a1,a2,by omega,hz6,hA6.out,by have:=hO6.out.var (X':=fun _=>False) (fun g hg=>hg.elim);simpa using this⟩).set (p:=⟨n0+1,0,none⟩) (by show n0+1<w1.heap.size;omega) (.slice A4 im.length c4)).set (p:=⟨n0+1,1,none⟩) (by show n0+1<w1.heap.size;omega) (.slice D l.length dc))
  change bodyPost _ _ _ _ _ ((w6.setCell ⟨(n0+1),0,none⟩ (.slice A4 im.length c4)).setCell ⟨(n0+1),1,none⟩ (.slice D l.length dc))
  generalize (w6.setCell ⟨(n0+1),0,none⟩ (.slice A4 im.length c4)).setCell ⟨(n0+1),1,none⟩ (.slice D l.length dc)=W3 at hz hbe hse ⊢
  obtain⟨z0,z1,_⟩:=blk2 hz
  refine bodyPost_ret (v := .tuple #[.agg #[(.slice A4 im.length c4),(.slice D l.length dc)],.int .i64 0]) ?_ rfl ?_
  ·simp [results,Tryz.results83,Tryz.f83,go_sem,z0,z1]
  rw [hE.out,hS.out]
  have e:setLast l (fun d=>foldL (contL im ws++d))=l:=by rw [HL0.out];rfl
  rw [e]
  exact⟨A4,c4,D,dc,mid,by rw [hpl],hse.low (by omega),by rw [hn0];exact hbe⟩
 ·have hg0:decide (0<l.length)=true:=decide_eq_true (by omega)
  have hlt:l.length - 1<l.length:=by omega
  obtain⟨g,cs,rfl,hg1,hg2,hg3,hcell,hfz,hrd⟩:=hO4.out.1.elem (i:=l.length - 1) hlt
  have hgob:Hid (g≠ob):=fun e=>hO4.out.2 g rfl e
  have hset:=setLast_set (l:=l) (by omega) (fun d=>foldL (contL im ws++d))
  have hsvl:=HSV.out l[l.length - 1] (List.getElem_mem hlt)
  obtain⟨x,hx⟩:∃ x,l[l.length - 1]=x:=⟨_,rfl⟩
  rw [hx] at hrd hset hsvl
  obtain⟨num,tm,sv⟩:=x
  obtain⟨Dx,dx,rfl,i1,i2,j1,j2,j3⟩:=snp_cs hrd
  simp only at i1 i2 j1 j2 j3 hset hsvl
  have d0:=hcell 0 _ rfl
  have d1:=hcell 1 _ rfl
  have d2:=hcell 2 _ rfl
  simp only [show encSnp.size=3 from rfl,Nat.add_zero] at d0 d1 d2
  have HSET:=Lib.hid hset
  have HI:=Lib.hid (And.intro i1 i2)
  have e4:((l.length:Int) - 1).toNat=l.length - 1:=by omega
  have e5:(1:Int)≤l.length:=by omega
  clear hcell hrd hset hx i1 i2
  go_upto_region 11 with (fail)
  obtain⟨ib,hib⟩:∃ ib,w4.heap.size=ib:=⟨_,rfl⟩
  obtain⟨w5,hw5⟩:∃ w5,w4.alloc (.cells #[.int .i64 num,.int .i64 tm,.slice Dx sv.length dx] 190)=w5:=⟨_,rfl⟩
  rw [hw5,hib]
  have hb5:Below w4.heap.size w4 w5:=by rw [← hw5];exact ext_alloc (Below.refl _ _)
  have hr5:w5.heap[ib]? = some (.cells #[.int .i64 num,.int .i64 tm,.slice Dx sv.length dx] 190 (0,0)):=by rw [← hw5, ← hib];exact heap_alloc_new _ _
  have hs5:ib<w5.heap.size:=(Array.getElem?_eq_some_iff.1 hr5).1
  have hb05:Below W0.heap.size W0 w5:=ext_trans hb04 hb5
  have hbw5:Below n0 w w5:=hB0.trans (hb05.mono (by omega))
  have HCT:=Lib.hid (contents_any A A3 c c3 im.length ws.length im ws w5 rfl rfl ((H1.out w5 (by rw [hn0];exact hbw5)).more (fun g hg=>hBL.out w5 g hbw5 hg)) ((H3.out w5 (by rw [hn0];exact hbw5)).more (fun g hg=>hBL.out w5 g hbw5 hg)) hl1 (by omega) hfit.out HLM.out.row)
  have hj3:Hid (SlAt encWr w5 (Bl w5.heap.size) Dx sv):=(j3.blk (w':=w5) (fun g hg=>hb5.block g hg.1.2)).more (fun g hg=>by have:=hg.1.2;show g<w5.heap.size;omega)
  obtain⟨c0,c1⟩:=HCC.out w5 hb05
  have HDD:=Lib.hid (And.intro d0 (And.intro d1 d2))
  clear hw5 o0 o1 d0 d1 d2 j3
  go_wp2_with fail
  refine HCT.out.mono ?_
  rintro e w6 ⟨A7,c7,rfl,t1,t2,t3,hb6⟩
  have hr6:=(hb6.block ib hs5).trans hr5
  have hz6:=hb6.size
  have hsv7:=save_any ib num tm A7 Dx c7 dx ws.length (contL im ws) sv w6 (by simp [contL]) hr6 (t3.more (fun g hg=>hg.2)) (hj3.out.fwd hb6) ⟨t1,t2⟩ ⟨j1,j2⟩ (by omega)
  obtain⟨rr,hrr⟩:∃ rr,foldL (contL im ws++sv)=rr:=⟨_,rfl⟩
  rw [hrr] at hsv7 HSET
  have HSV7:=Lib.hid hsv7
  clear HCT t3 hsv7 c0 c1 hr5 hrr
  go_wp2_with fail
  refine HSV7.out.mono ?_
  rintro e w7 ⟨A8,c8,rfl,hr7,⟨u1,u2,u3⟩,hg7⟩
  have hz7:=hg7.size
  have hk7:∀ b,b<ib→w7.heap[b]? = w4.heap[b]? := fun b hb=>(hg7.block b (by omega) (fun e=>by injection e with e;omega)).trans ((hb6.block b (by omega)).trans (hb5.block b (by omega)))
  have hro7:=(hk7 ob (by omega)).trans hr4
  have hO7:Hid (OwnX (fun g=>g=ob) encSnp w7 mid 158 (.slice (some ⟨g,0,none⟩) l.length dc) l):=hO4.out.keep (by omega) (fun b _ hb _=>hk7 b (by omega))
  have hO8:Hid (OwnX (fun g=>g=ob) encSnp (st3 w7 g (l.length - 1) (.int .i64 num) (.int .i64 tm) (.slice A8 rr.length c8)) mid 158 (.slice (some ⟨g,0,none⟩) l.length dc) (l.set (l.length - 1) (num,tm,rr))) :=
   hO7.out.storeS hlt HI.out.1 HI.out.2 u1 u2 (u3.more (fun b hb=>⟨⟨by have:=hb.1;omega,hb.2⟩,by have:=hb.1;omega,by have:=hb.1;omega⟩))
  have hB7:Below n0 w w7:=hbw5.trans ⟨hg7.os.trans hb6.os,hg7.tape.trans hb6.tape,hg7.output.trans hb6.output,Nat.le_trans hz6 hz7,fun b hb=>(hg7.block b (by omega) (fun e=>by injection e with e;omega)).trans (hb6.block b (by omega))⟩
  have hB07:Below W0.heap.size W0 w7:=hb05.trans ⟨hg7.os.trans hb6.os,hg7.tape.trans hb6.tape,hg7.output.trans hb6.output,Nat.le_trans hz6 hz7,fun b hb=>(hg7.block b (by have:=hb04.size;omega) (fun e=>by have:=hb04.size;injection e with e;omega)).trans (hb6.block b (by have:=hb04.size;omega))⟩
  have hA7:Hid (SlAt (encSl encSec) (st3 w7 g (l.length - 1) (.int .i64 num) (.int .i64 tm) (.slice A8 rr.length c8)) (Nw w1.heap.size mid) A4 im2):=HA4.out.blk (fun b hb=>(st3_other (by have:=hb.2;omega)).trans (hk7 b (by have:=hb.2;omega)))
  have hgz:g<w4.heap.size:=hg2
  have hmg:Hid (mid≤g):=hg1
  have hfz7:∀ j,w7.frozen? ⟨g,j,none⟩=false:=fun j=>(World.frozen?_of_block (a:=⟨g,j,none⟩) (hk7 g (by omega))).trans (hfz j)
  have hB8:Below n0 w (st3 w7 g (l.length - 1) (.int .i64 num) (.int .i64 tm) (.slice A8 rr.length c8)):=((hB7.setCell (p:=⟨g,(l.length - 1) * 3,none⟩) (by show n0≤g;have:=hmg.out;omega) _).setCell (p:=⟨g,(l.length - 1) * 3+1,none⟩) (by show n0≤g;have:=hmg.out;omega) _).setCell (p:=⟨g,(l.length - 1) * 3+2,none⟩) (by show n0≤g;have:=hmg.out;omega) _
  have hB08:Below W0.heap.size W0 (st3 w7 g (l.length - 1) (.int .i64 num) (.int .i64 tm) (.slice A8 rr.length c8)):=((hB07.setCell (p:=⟨g,(l.length - 1) * 3,none⟩) (by show W0.heap.size≤g;have:=hmg.out;have:=hb02.size;omega) _).setCell (p:=⟨g,(l.length - 1) * 3+1,none⟩) (by show W0.heap.size≤g;have:=hmg.out;have:=hb02.size;omega) _).setCell (p:=⟨g,(l.length - 1) * 3+2,none⟩) (by show W0.heap.size≤g;have:=hmg.out;have:=hb02.size;omega) _
  have hro8:(st3 w7 g (l.length - 1) (.int .i64 num) (.int .i64 tm) (.slice A8 rr.length c8)).heap[ob]? = some (.cells #[.slice B im.length vc,.slice (some ⟨g,0,none⟩) l.length dc] 26 (0,0)):=(st3_other (fun e=>hgob.out e.symm)).trans hro7
  obtain⟨o0,o1,_⟩:=blk2 hro7
  obtain⟨x0,x1,x2,_⟩:=blk3 hr7
  have f0:=hfz7 ((l.length - 1) * 3)
  have f1:=hfz7 ((l.length - 1) * 3+1)
  have f2:=hfz7 ((l.length - 1) * 3+2)
  have hkg:=hk7 g (by omega)
  have d0:=(World.cell?_of_block (a:=⟨g,(l.length - 1) * 3,none⟩) hkg).trans HDD.out.1
  have d1:=(World.cell?_of_block (a:=⟨g,(l.length - 1) * 3+1,none⟩) hkg).trans HDD.out.2.1
  have d2:=(World.cell?_of_block (a:=⟨g,(l.length - 1) * 3+2,none⟩) hkg).trans HDD.out.2.2
  clear HSV7 u3 hg7 hfz hfz7 hro7 hkg
  go_upto_region 13 with (fail)
  change Code.wp _ _ _ _ (st3 w7 g (l.length - 1) (.int .i64 num) (.int .i64 tm) (.slice A8 rr.length c8))
  generalize st3 w7 g (l.length - 1) (.int .i64 num) (.int .i64 tm) (.slice A8 rr.length c8)=w8 at hO8 hA7 hB8 hB08 hro8 ⊢
  clear o0 o1 x0 x1 x2 f0 f1 f2 d0 d1 d2 e4 e5
  obtain⟨o0,o1,of⟩:=blk2 hro8
  have hro6:=blk2_0 hro8 (.slice A4 im.length c4)
  have hrz6:(w8.setCell ⟨ob,0,none⟩ (.slice A4 im.length c4)).heap[n0+1]? = some (.cells #[.slice none 0 0,.slice none 0 0] 26 (0,0)):=(heap_setCell_other w8 ⟨ob,0,none⟩ (n0+1) (.slice A4 im.length c4) (by show n0+1≠ob;omega)).trans (HRZ.out w8 hB08)
  have hO6:=Lib.hid ((hO8.out).set (p:=⟨ob,0,none⟩) rfl (.slice A4 im.length c4))
  have hA6:Hid (SlAt (encSl encSec) (w8.setCell ⟨ob,0,none⟩ (.slice A4 im.length c4)) (Nw w1.heap.size mid) A4 im2):=(hA7.out).blk (fun g hg=>heap_setCell_other _ _ _ _ (by have:=hg.2;show g≠ob;omega))
  have hB6:Below n0 w (w8.setCell ⟨ob,0,none⟩ (.slice A4 im.length c4)):=(hB8).setCell (p:=⟨ob,0,none⟩) (by show n0≤ob;omega) _
  have hz6:mid≤(w8.setCell ⟨ob,0,none⟩ (.slice A4 im.length c4)).heap.size:=by have:=(hB8).size;have:=(Array.getElem?_eq_some_iff.1 hro8).1;simp [World.setCell];omega
  go_upto_region 14 with (fail)
  generalize w8.setCell ⟨ob,0,none⟩ (.slice A4 im.length c4)=w6 at hro6 hrz6 hO6 hA6 hB6 hz6 ⊢
  clear o0 o1 of
  obtain⟨o0,o1,_⟩:=blk2 hro6
  obtain⟨q0,q1,qf⟩:=blk2 hrz6
  go_wp2_with fail
  have hz:=blk2_set hrz6 (.slice A4 im.length c4) (.slice (some ⟨g,0,none⟩) l.length dc)
  have hbe:=((hB6.setCell (p:=⟨n0+1,0,none⟩) (by show n0≤n0+1;omega) (.slice A4 im.length c4)).setCell (p:=⟨n0+1,1,none⟩) (by show n0≤n0+1;omega) (.slice (some ⟨g,0,none⟩) l.length dc))
  have hse:=(((show SnRet im2 (l.set (l.length - 1) (num,tm,rr)) A4 c4 (some ⟨g,0,none⟩) dc mid w1.heap.size w6 from ⟨a1,a2,by omega,hz6,hA6.out,by have:=hO6.out.var (X':=fun _=>False) (fun g hg=>hg.elim);simpa using this⟩).set (p:=⟨n0+1,0,none⟩) (by show n0+1<w1.heap.size;omega) (.slice A4 im.length c4)).set (p:=⟨n0+1,1,none⟩) (by show n0+1<w1.heap.size;omega) (.slice (some ⟨g,0,none⟩) l.length dc))
  change bodyPost _ _ _ _ _ ((w6.setCell ⟨(n0+1),0,none⟩ (.slice A4 im.length c4)).setCell ⟨(n0+1),1,none⟩ (.slice (some ⟨g,0,none⟩) l.length dc))
  generalize (w6.setCell ⟨(n0+1),0,none⟩ (.slice A4 im.length c4)).setCell ⟨(n0+1),1,none⟩ (.slice (some ⟨g,0,none⟩) l.length dc)=W3 at hz hbe hse ⊢
  obtain⟨z0,z1,_⟩:=blk2 hz
  refine bodyPost_ret (v := .tuple #[.agg #[(.slice A4 im.length c4),(.slice (some ⟨g,0,none⟩) l.length dc)],.int .i64 0]) ?_ rfl ?_
  ·simp [results,Tryz.results83,Tryz.f83,go_sem,z0,z1]
  rw [hE.out,hS.out]
  rw [HSET.out]
  exact⟨A4,c4,some ⟨g,0,none⟩,dc,mid,by rw [hpl,List.length_set],hse.low (by omega),by rw [hn0];exact hbe⟩
end Go.Proofs.YtgndgkjefgjamaaGreat
namespace Go.Proofs.YtgndgkjefgjamaaGreat
open Go.RowKit Go.Shelf
attribute [local go_sem] Oper.semAt_some

def bk (n k:Nat):List Nat:=(List.range' k (n - k)).reverse
theorem bk_top (n:Nat):bk n n=[]:=by simp [bk]
theorem bk_step {n k:Nat} (h:k<n):bk n k=bk n (k+1)++[k]:=by
 unfold bk
 rw [show n - k=(n - (k+1))+1 from by omega,List.range'_succ,List.reverse_cons]
theorem bk_len (n k:Nat):(bk n k).length=n - k:=by simp [bk]
abbrev IdxN (n:Nat):={ k:Nat // k<n }
def WrsAt (l:List Wr) (f:Nat→Option Addr × Nat) (A:Option Addr) (w:World) (B:Nat):Prop :=
 ∀ k (hk:k<l.length),∃ b off,A=some ⟨b,off,none⟩∧b<B∧w.cell? ⟨b,off+k * 3,none⟩=some (.int .i64 l[k].1)∧w.cell? ⟨b,off+k * 3+1,none⟩=some (.int .i64 l[k].2.1)∧w.cell? ⟨b,off+k * 3+2,none⟩=some (.slice (f k).1 l[k].2.2.length (f k).2)
theorem WrsAt.below {l:List Wr} {f:Nat→Option Addr × Nat} {A:Option Addr} {w w':World} {B:Nat} (h:WrsAt l f A w B) (hb:Below B w w'):WrsAt l f A w' B:=fun k hk=>by
 obtain⟨b,off,e,h0,h1,h2,h3⟩:=h k hk
 exact⟨b,off,e,h0,(hb.cell (p:=⟨b,_,none⟩) h0).trans h1,(hb.cell (p:=⟨b,_,none⟩) h0).trans h2,(hb.cell (p:=⟨b,_,none⟩) h0).trans h3⟩
def LkI (V S:Int) (w W:World):Prop :=
 W.heap[w.heap.size+1+1]? = some (.cells zrow 95 (0,0))∧W.heap[w.heap.size+1+1+1]? = some (.cells #[.bool false] 4 (0,0))∧W.heap[w.heap.size]? = some (.cells #[.int .i64 V] 3 (0,0))∧W.heap[w.heap.size+1]? = some (.cells #[.int .i64 S] 3 (0,0))
theorem LkI.below {V S:Int} {w W W':World} (h:LkI V S w W) (hb:Below W.heap.size W W'):LkI V S w W' :=
 ⟨(hb.block _ (Array.getElem?_eq_some_iff.1 h.1).1).trans h.1,(hb.block _ (Array.getElem?_eq_some_iff.1 h.2.1).1).trans h.2.1,(hb.block _ (Array.getElem?_eq_some_iff.1 h.2.2.1).1).trans h.2.2.1,(hb.block _ (Array.getElem?_eq_some_iff.1 h.2.2.2).1).trans h.2.2.2⟩
def NoHits (l:List Wr) (V S:Int) (pre:List (IdxN l.length)):Prop:=∀ k∈pre,¬ hits (l[k.1]'k.2) V S
theorem NoHits.snoc {l:List Wr} {V S:Int} {pre:List (IdxN l.length)} {x:IdxN l.length} (h:NoHits l V S pre) (hx:¬ hits (l[x.1]'x.2) V S):NoHits l V S (pre++[x]):=fun k hk=>by
 rcases List.mem_append.1 hk with hk | hk
 ·exact h k hk
 ·rw [List.mem_singleton.1 hk];exact hx
def LkX (ws:List Wr) (V S:Int) (w:World) (c:Code) (pre:List (IdxN ws.length)) (W:World):Prop :=
 c = .ret∧∃ ini last,pre=ini++[last]∧NoHits ws V S ini∧hits (ws[last.1]'last.2) V S∧∃ x0 x1 x2 x3 x4 x5 x6 x7,datum (ws[last.1]'last.2) S=[x0,x1,x2,x3,x4,x5,x6,x7]∧OkSec [x0,x1,x2,x3,x4,x5,x6,x7] ∧
   W.heap[w.heap.size+1+1]? = some (.cells #[.int .u8 x0,.int .u8 x1,.int .u8 x2,.int .u8 x3,.int .u8 x4,.int .u8 x5,.int .u8 x6,.int .u8 x7] 95 (0,0))∧W.heap[w.heap.size+1+1+1]? = some (.cells #[.bool true] 4 (0,0))
theorem heap_ownT {W W':World} {B:Nat} {row:Option Nat} (hg:W.grownBy W' row) (hr:∀ r,row=some r→B≤r∧∃ o:Obj,W.heap[r]? = some o∧(o.isCells=false∨ItObj (fun _=>False) o)) {k:Nat} {cs:Array Value} {T:TypeId} {fr:Nat × Nat} (h:W.heap[k]? = some (.cells cs T fr)):W'.heap[k]? = some (.cells cs T fr) :=
 (hg.block k (Array.getElem?_eq_some_iff.1 h).1 (fun e=>by
  obtain⟨_,o,h1,h2⟩:=hr k e.symm
  rw [h] at h1;cases h1
  rcases h2 with h2 | (h2 | ⟨_,_,_,_,h2⟩)
  ·cases h2
  ·cases h2
  ·exact h2)).trans h
theorem LkX.own {ws:List Wr} {V S:Int} {w:World} {B:Nat} (c:Code):OwnT (fun _=>False) B (LkX ws V S w c):=fun s W W' row h hg hr=>by
 obtain⟨h1,ini,last,h2,h3,h4,x0,x1,x2,x3,x4,x5,x6,x7,h5,h6,h7,h8⟩:=h
 exact⟨h1,ini,last,h2,h3,h4,x0,x1,x2,x3,x4,x5,x6,x7,h5,h6,heap_ownT hg hr h7,heap_ownT hg hr h8⟩
theorem lkRes {W:World} {D:Nat} {ob o':Obj} (hD:W.heap[D]? = some ob) (ho:ob.isCells=false) {k:Nat} {cs:Array Value} {T:TypeId} {fr:Nat × Nat} (h:W.heap[k]? = some (.cells cs T fr)):(W.putObj D o').heap[k]? = some (.cells cs T fr) :=
 (World.putObj_heap_other (fun e=>by subst e;rw [hD] at h;cases h;cases ho)).trans h
end Go.Proofs.YtgndgkjefgjamaaGreat

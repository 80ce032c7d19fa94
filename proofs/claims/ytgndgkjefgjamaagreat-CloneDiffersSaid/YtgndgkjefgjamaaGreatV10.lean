/-
  Deleting one element of an owned slice: the elements behind it moved down, the last one cleared. No program in sight.; The law's write: a list of one write.; Owned lists of sectors: stores; append of all elements at a step of a region that draws its order. No program in sight.; snapshot.Revert; results read as data.; A sector stored; the reference's Fits, its copy of an image that it owns, its Apply.
-/
import Derived.Laws.IdiomCopy
import Derived.Lib.SliceRun
import Derived.Deep.RegionLaw
import Derived.BigQuiet
import Derived.BigRegion
import Derived.Test.YtgndgkjefgjamaaGreatV01
import Derived.Test.YtgndgkjefgjamaaGreatV02
import Derived.Test.YtgndgkjefgjamaaGreatV03
import Derived.Test.YtgndgkjefgjamaaGreatV04
import Derived.Test.YtgndgkjefgjamaaGreatV05
import Derived.Test.YtgndgkjefgjamaaGreatV06
import Derived.Test.YtgndgkjefgjamaaGreatV08
import Derived.Test.YtgndgkjefgjamaaGreatV09
set_option linter.unusedVariables false
set_option linter.unusedSimpArgs false
set_option linter.unusedSectionVars false
set_option linter.unnecessarySimpa false
namespace Go.Proofs.YtgndgkjefgjamaaGreat
open Go.RowKit Go.Shelf

section
variable {P:Program}
theorem run_clear1 (w:World) (t e ty:TypeId) (z:Value) (cs:Array Value) (ht:P.underlying t=some (.slice e)) (hv:∀ w,(zeroValue e).run P w = .ok z w) (hz:z.cells=cs) (h1:∀ v∈cs.toList,v.oneCell'=true) (b o c:Nat)
  (hc:∀ j,j<cs.size→(w.cell? ⟨b,o+j,none⟩).isSome=true) (hf:∀ j,j<cs.size→w.frozen? ⟨b,o+j,none⟩=false) :
  (Builtin.clear_ #[t] ty #[.slice (some ⟨b,o,none⟩) 1 c]).run P w = .ok (.tuple #[]) (w.setCells b o cs.toList):=by
 have hzc:(Builtin.zeroCells z.cells 1).toList=cs.toList:=by
  rw [hz]
  apply List.ext_getElem
  ·simp [Builtin.zeroCells]
  ·intro i h1 h2
   have h3:i<cs.size:=by simpa using h2
   simp [Builtin.zeroCells,Nat.mod_eq_of_lt h3,h3]
 have hst:=run_storeCells_cells (P:=P) b o cs.toList 0 w (by simpa using hc) (by simpa using hf) h1
 simp only [Nat.add_zero] at hst
 simp [Builtin.clear_,run_underlying ht,hv,hzc,hst]
end
def putL (cur:List Value) (o:Nat) (vs:List Value):List Value:=cur.take o++vs++cur.drop (o+vs.length)
theorem putL_len {cur:List Value} {o:Nat} {vs:List Value} (h:o+vs.length≤cur.length):(putL cur o vs).length=cur.length:=by
 simp [putL];omega
theorem row_setCells {b:Nat} {T:TypeId} {fr:Nat × Nat}:∀ (vs:List Value) (o:Nat) (w:World) (cur:Array Value),w.heap[b]? = some (.cells cur T fr)→o+vs.length≤cur.size→(w.setCells b o vs).heap[b]? = some (.cells (putL cur.toList o vs).toArray T fr)
 | [],o,w,cur,h,hs=>by
   rw [World.setCells,h]
   simp [putL]
 | v :: vs,o,w,cur,h,hs=>by
   have hs':o+(vs.length+1)≤cur.size:=hs
   have h1:(w.setCell ⟨b,o,none⟩ v).heap[b]? = some (.cells (cur.setIfInBounds o v) T fr):=by
    simp [World.setCell,Array.getElem?_modify,h]
   have h2:=row_setCells vs (o+1) _ _ h1 (by simp;omega)
   rw [World.setCells,h2]
   congr 2
   simp only [putL,Array.toList_setIfInBounds]
   rw [List.take_set,List.drop_set]
   congr 1
   rw [if_pos (by omega),List.take_add_one,List.set_append]
   have:¬ o<(cur.toList.take o).length:=by simp;omega
   have hl:(cur.toList.take o).length=o:=by simp;omega
   rw [if_neg this,hl,List.getElem?_eq_getElem (by simp;omega)]
   simp [Nat.add_assoc,Nat.add_comm 1]
theorem flat_take {q:Nat}:∀ {css:List (List Value)} (k:Nat),(∀ cs∈css,cs.length=q)→(css.take k).flatten=css.flatten.take (k * q)
 | [],k,_=>by simp
 | cs :: css,0,_=>by simp
 | cs :: css,k+1,h=>by
   have h1:=h cs (by simp)
   rw [List.take_succ_cons,List.flatten_cons,List.flatten_cons,flat_take k (fun x hx=>h x (by simp [hx])),List.take_append,h1,Nat.add_mul,Nat.one_mul]
   rw [List.take_of_length_le (l:=cs) (by omega)]
   congr 2
   omega
theorem flat_drop {q:Nat}:∀ {css:List (List Value)} (k:Nat),(∀ cs∈css,cs.length=q)→(css.drop k).flatten=css.flatten.drop (k * q)
 | [],k,_=>by simp
 | cs :: css,0,_=>by simp
 | cs :: css,k+1,h=>by
   have h1:=h cs (by simp)
   rw [List.drop_succ_cons,List.flatten_cons,flat_drop k (fun x hx=>h x (by simp [hx])),List.drop_append,h1,Nat.add_mul,Nat.one_mul]
   rw [List.drop_of_length_le (l:=cs) (by omega)]
   simp only [List.nil_append]
   congr 1
   omega
theorem heap_setCells_ne {g b:Nat} (hb:b≠g):∀ (vs:List Value) (o:Nat) (w:World),(w.setCells g o vs).heap[b]? = w.heap[b]?
 | [],_,_=>rfl
 | v :: vs,o,w=>by rw [World.setCells,heap_setCells_ne hb vs (o+1)];exact Below.heap_setCell _ _ _ _ hb
theorem All2.erase {α β:Type} {R:α→β→Prop}:∀ {xs:List α} {ys:List β} (i:Nat),All2 R xs ys→All2 R (xs.eraseIdx i) (ys.eraseIdx i)
 | [],[],_,h=>h
 | a :: xs,b :: ys,0,h=>h.2
 | a :: xs,b :: ys,i+1,h=>⟨h.1,All2.erase i h.2⟩
theorem Own.delete {α:Type} {E:Enc α} {w:World} {base g c:Nat} {e:TypeId} {S:Nat→Prop} {l:List α} (h:Own E w base e S (.slice (some ⟨g,0,none⟩) l.length c) l) (i r:Nat) (hr:l.length=i+1+r) :
  g < w.heap.size∧base≤g∧∃ vs:List Value,vs.length=r * E.size∧(∀ j u,vs[j]? = some u→w.cell? ⟨g,(i+1) * E.size+j,none⟩=some u)∧(∀ u∈vs,u.oneCell'=true) ∧
    (∀ j,j<vs.length→(w.cell? ⟨g,i * E.size+j,none⟩).isSome=true∧w.frozen? ⟨g,i * E.size+j,none⟩=false) ∧
    ∀ zs:List Value,zs.length=E.size →
      (∀ j,j<zs.length→((w.setCells g (i * E.size) vs).cell? ⟨g,(i+r) * E.size+j,none⟩).isSome=true∧(w.setCells g (i * E.size) vs).frozen? ⟨g,(i+r) * E.size+j,none⟩=false) ∧
      Own E ((w.setCells g (i * E.size) vs).setCells g ((i+r) * E.size) zs) base e S (.slice (some ⟨g,0,none⟩) (i+r) c) (l.eraseIdx i):=by
 obtain⟨css,⟨hx,hrow⟩,h2,h3⟩:=h
 have hsz:=All2.sizes h2
 have hg3:¬ S g:=h3 g rfl
 rcases hrow with ⟨hv,_⟩ | ⟨g',cap,cur,hv,hb,hh,hcap,hmax,hcs,htk⟩
 ·cases hv
 ·simp only [Value.slice.injEq,Option.some.injEq,Addr.mk.injEq,and_true,true_and] at hv
  obtain⟨rfl,rfl⟩:=hv
  obtain⟨q,hq⟩:∃ q,E.size=q:=⟨_,rfl⟩
  rw [hq] at hx hcs htk hsz ⊢
  obtain⟨a,ha⟩:∃ a,i * q=a:=⟨_,rfl⟩
  obtain⟨b,hbq⟩:∃ b,r * q=b:=⟨_,rfl⟩
  have e1:(i+1) * q=a+q:=by rw [Nat.add_mul,ha,Nat.one_mul]
  have e2:(i+r) * q=a+b:=by rw [Nat.add_mul,ha,hbq]
  have e3:l.length * q=a+q+b:=by rw [hr,Nat.add_mul,e1,hbq]
  have e4:a+q+b≤c * q:=by rw [← e3];exact Nat.mul_le_mul_right q hcap
  rw [e3] at htk hx
  rw [e1,e2,ha]
  have hlt:=(Array.getElem?_eq_some_iff.1 hh).1
  have hcell:∀ j,w.cell? ⟨g,j,none⟩=cur[j]? := fun j=>cell_of_row _ _ j _ _ _ hh
  have hfz:∀ j,w.frozen? ⟨g,j,none⟩=false:=fun j=>by simp [World.frozen?,hh]
  have hF:css.flatten.length=a+q+b:=hx
  have hFc:∀ j,j<a+q+b→css.flatten[j]? = cur[j]? := fun j hj=>by
   rw [← htk,List.getElem?_take,if_pos hj,Array.getElem?_toList]
  obtain⟨VS,hVS⟩:∃ VS,(css.drop (i+1)).flatten=VS:=⟨_,rfl⟩
  have hVl:VS.length=b:=by rw [← hVS,flat_drop (q:=q) _ hsz,e1,List.length_drop,hF];omega
  refine⟨hlt,hb,VS, ?_, ?_, ?_, ?_, ?_⟩
  ·rw [hVl,hbq]
  ·intro j u hu
   rw [← hVS,flat_drop (q:=q) _ hsz,e1,List.getElem?_drop] at hu
   have:a+q+j<a+q+b:=by rw [← hF];exact (List.getElem?_eq_some_iff.1 hu).1
   rw [hFc _ this] at hu
   rw [hcell];exact hu
  ·intro u hu
   rw [← hVS] at hu
   obtain⟨cs,hc,hu⟩:=List.mem_flatten.1 hu
   obtain⟨k,hk,rfl⟩:=List.mem_iff_getElem.1 (List.mem_of_mem_drop hc)
   obtain⟨a',h4,h5⟩:=All2.get h2 (i:=k) (List.getElem?_eq_getElem (by rw [← h2.length];exact hk))
   rw [List.getElem?_eq_getElem hk] at h4
   cases h4
   exact E.one h5 u hu
  ·intro j hj
   rw [hVl] at hj
   exact⟨by rw [hcell,Array.getElem?_eq_getElem (by omega)];rfl,hfz _⟩
  ·intro zs hz
   have hvl:=hVl
   have r1:=row_setCells VS a w cur hh (by omega)
   have hpl:(putL cur.toList a VS).length=c * q:=by rw [putL_len (by simp;omega)];simp [hcs]
   have r2:=row_setCells zs (a+b) _ _ r1 (by simp [hpl];omega)
   have hel:(l.eraseIdx i).length=i+r:=by rw [List.length_eraseIdx,if_pos (by omega)];omega
   have hfl:(css.eraseIdx i).flatten=css.flatten.take a++VS:=by
    rw [List.eraseIdx_eq_take_drop_succ,List.flatten_append,flat_take (q:=q) _ hsz,ha,hVS]
   refine⟨fun j hj=>⟨?_, ?_⟩,css.eraseIdx i,⟨?_,Or.inr ⟨g,c,_,by rw [hel],hb,r2,by omega,hmax, ?_, ?_⟩⟩, ?_,h3⟩
   ·rw [cell_of_row _ _ _ _ _ _ r1]
    rw [Array.getElem?_eq_getElem (by simp [hpl];omega)];rfl
   ·simp [World.frozen?,r1]
   ·rw [hfl,hel,hq,e2,List.length_append,hvl,List.length_take,hF];omega
   ·rw [hq]
    simp only [List.size_toArray]
    rw [putL_len (by simp [hpl];omega)]
    simpa using hpl
   ·rw [hfl,hel,hq,e2]
    have h1:(putL cur.toList a VS).take (a+b)=css.flatten.take a++VS:=by
     have h0:css.flatten.take a=cur.toList.take a:=by rw [← htk,List.take_take,Nat.min_eq_left (by omega)]
     rw [h0]
     unfold putL
     rw [List.take_append_of_le_length (by simp [hvl];omega),List.take_of_length_le (by simp [hvl];omega)]
    rw [← h1]
    simp only [putL,List.toList_toArray]
    rw [List.append_assoc,List.take_append_of_le_length (by simp [hvl];omega),List.take_take,Nat.min_self]
   ·refine (All2.erase i h2).mono (fun cs x hr'=>Enc.blk hr' (fun b' hb' => ?_))
    have hne:b'≠g:=fun e=>hg3 (by rw [← e];exact hb')
    rw [heap_setCells_ne hne,heap_setCells_ne hne]
end Go.Proofs.YtgndgkjefgjamaaGreat

namespace Go.Proofs.YtgndgkjefgjamaaGreat
open Go.RowKit Go.Shelf
attribute [local go_sem] Oper.semAt_some

theorem grown_setCell36 (w:World) (b i:Nat) (v:Value):w.grownBy (w.setCell ⟨b,i,none⟩ v) (some b) :=
 ⟨rfl,rfl,rfl,by simp [World.setCell],fun k _ hne=>Below.heap_setCell _ _ _ _ (fun e=>hne (by rw [show k=b from e]))⟩
theorem grown_trans36 {a b c:World} {r:Option Nat} (h:a.grownBy b r) (k:b.grownBy c r):a.grownBy c r :=
 ⟨k.os.trans h.os,k.tape.trans h.tape,k.output.trans h.output,Nat.le_trans h.size k.size,fun i hi hn=>(k.block i (Nat.lt_of_lt_of_le hi h.size) hn).trans (h.block i hi hn)⟩
theorem grown_setCells (g:Nat):∀ (vs:List Value) (o:Nat) (w:World),w.grownBy (w.setCells g o vs) (some g)
 | [],_,_=>⟨rfl,rfl,rfl,Nat.le_refl _,fun _ _ _=>rfl⟩
 | v :: vs,o,w=>grown_trans36 (grown_setCell36 w g o v) (grown_setCells g vs (o+1) _)
theorem grown_drew36 (w:World) (r:Option Nat):w.grownBy w.drew r:=⟨rfl,rfl,rfl,Nat.le_refl _,fun _ _ _=>rfl⟩
set_option maxRecDepth 100000 in
set_option maxHeartbeats 4000000 in
theorem deleteS_any (g i r m c base:Nat) (S:Nat→Prop) (l:List Snp) (w:World) (hm:l.length=m) (hr:m=i+1+r) (h:Own encSnp w base 158 S (.slice (some ⟨g,0,none⟩) m c) l) (hmx:m≤9223372036854775806) :
  Calls Tryz.prog 129 #[.slice (some ⟨g,0,none⟩) m c,.int .i64 i,.int .i64 ((i:Int)+1)] w fun e w'=>e = .returned (.slice (some ⟨g,0,none⟩) (i+r) c)∧Own encSnp w' base 158 S (.slice (some ⟨g,0,none⟩) (i+r) c) (l.eraseIdx i)∧w.grownBy w' (some g):=by
 subst hm
 have hcap:l.length≤c:=by
  obtain⟨_,⟨_,hrow⟩,_⟩:=h
  rcases hrow with ⟨hv,_⟩ | ⟨_,_,_,hv,_,_,h1,_⟩
  ·cases hv
  ·simp only [Value.slice.injEq] at hv
   omega
 obtain⟨hg,hbase,vs,v1,v2,v3,v4,v5⟩:=Own.delete (w:=w.drew) (h.blk (fun _ _=>rfl)) i r hr
 simp only [show encSnp.size=3 from rfl] at v1 v2 v4 v5
 have V5:=Lib.hid v5
 clear v5 h
 obtain⟨m,hm⟩:∃ m,l.length=m:=⟨_,rfl⟩
 rw [hm] at hr hmx hcap ⊢
 have HM:=Lib.hid hm
 clear hm
 have hi0:(0:Int)≤i:=by omega
 have hne:((i:Int)==(i:Int)+1)=false:=by simp;omega
 have him:(i:Int)+1≤m:=by omega
 obtain⟨zs,hz⟩:∃ zs:List Value,Hid (zs=[.int .i64 0,.int .i64 0,.slice none 0 0]):=⟨_,rfl⟩
 obtain⟨k5,k6⟩:=V5.out zs (by rw [hz.out];rfl)
 have K6:=Lib.hid k6
 clear k6 V5
 obtain⟨Ad,hA,hsrc⟩:∃ A:Addr,(if c=i+1 then some (⟨g,0,none⟩:Addr) else some ⟨g,(i+1) * 3,none⟩)=some A∧Hid (∀ j u,vs[j]? = some u→w.drew.cell? (A.add j)=some u):=by
  by_cases h:c=i+1
  ·refine⟨⟨g,0,none⟩,by simp [h],fun t u hu => ?_⟩
   have h0:vs.length=0:=by rw [v1];omega
   rw [List.length_eq_zero_iff.1 h0] at hu
   simp at hu
  ·exact⟨⟨g,(i+1) * 3,none⟩,by simp [h],fun t u hu=>by rw [Addr.add_lit];exact v2 t u hu⟩
 have s1:=Lib.hid v1;have s2:=Lib.hid v3
 have s3:Hid (∀ t,t<vs.length→(w.drew.cell? ⟨g,0+i * 3+t,none⟩).isSome=true∧w.drew.frozen? ⟨g,0+i * 3+t,none⟩=false):=by rw [Nat.zero_add];exact v4
 obtain⟨W1,hW1⟩:∃ W1,W1=w.drew.setCells g (0+i * 3) vs:=⟨_,rfl⟩
 have hW:Hid (W1=w.drew.setCells g (0+i * 3) vs):=hW1
 rw [Nat.zero_add] at hW1
 rw [← hW1] at k5 K6
 have hcl:∀ ty,(Builtin.clear_ #[24] ty #[.slice (some ⟨g,(i+r) * 3,none⟩) 1 (c - (i+r))]).run Tryz.prog W1 = .ok (.tuple #[]) (W1.setCells g ((i+r) * 3) zs):=fun ty=>by
  rw [hz.out]
  exact run_clear1 W1 24 158 ty (.agg #[.int .i64 0,.int .i64 0,.slice none 0 0]) #[.int .i64 0,.int .i64 0,.slice none 0 0] Tryz.underlying24 (fun w=>by kernel_rfl) (by kernel_rfl) (by intro v hv;simp at hv;rcases hv with rfl | rfl | rfl <;> rfl) g ((i+r) * 3) _ (fun j hj=>(k5 j (by rw [hz.out];simpa using hj)).1) (fun j hj=>(k5 j (by rw [hz.out];simpa using hj)).2)
 clear k5 v1 v2 v3 v4 hW1
 obtain⟨i0,hi0',hz1⟩:∃ i0,Tryz.prog.info? 158=some i0∧i0.size=3:=⟨_,rfl,rfl⟩
 have hck:c≠i+r:=by omega
 have hb3:(0:Int)≤(i:Int)+(r:Int):=by omega
 have hb4:(i:Int)+(r:Int)≤(i:Int)+1+(r:Int):=by omega
 have hb5:(i:Int)+1+(r:Int)≤(c:Int):=by omega
 have hn1:i+1+r - (i+r)=1:=by omega
 have hmo:Tryz.prog.follows .mixedOrders=true:=by kernel_rfl
 have hb1:(0:Int)≤(i:Int)+1:=by omega
 have hb2:(i:Int)+1≤(i:Int)+1+(r:Int):=by omega
 have hic:i≤c:=by omega
 have hjc:i+1≤c:=by omega
 go_enter Tryz.func129,Tryz.ntmps129
 go_upto_region 5 with (fail)
 go_region_law_o (refine step_append_room rfl (.tmp 22) (.tmp 25) 24 rfl 158 i0 3 Tryz.underlying24 hi0' hz1 g 0 i c (by simp [Act.eval,Act.put]) Ad r (c - (i+1)) vs (by simp [Act.eval,Act.put];done) s1.out hsrc.out s2.out (by omega) s3.out ?_;rw [← hW.out])
 go_wp2
 go_ret
 rw [hW.out] at K6 ⊢
 exact⟨rfl,K6.out,grown_trans36 (grown_trans36 (grown_drew36 w _) (grown_setCells g vs (0+i * 3) w.drew)) (grown_setCells g zs _ _)⟩
end Go.Proofs.YtgndgkjefgjamaaGreat

namespace Go.Proofs.YtgndgkjefgjamaaGreat
open Go.RowKit Go.Shelf
attribute [local go_sem] Oper.semAt_some

theorem delL_zero (l:List Snp):delL l 0=l.eraseIdx 0:=by cases l <;> rfl
theorem delL_succ {l:List Snp} {j:Nat} (h:j+1<l.length):delL l (j+1)=(l.set j ((l[j]).1,(l[j]).2.1,foldL ((l[j+1]).2.2++(l[j]).2.2))).eraseIdx (j+1):=by
 have hl:(l.take (j+1)).length=j+1:=by simp;omega
 have e:=setLast_set (l:=l.take (j+1)) (by omega) (fun d=>foldL ((l[j+1]).2.2++d))
 have e0:(l.take (j+1))[(l.take (j+1)).length - 1]'(by omega)=l[j]:=by simp [hl]
 rw [e0,hl,Nat.add_sub_cancel] at e
 have e1:l.getD (j+1) (0,0,[])=l[j+1]:=by rw [List.getD_eq_getElem?_getD,List.getElem?_eq_getElem h];rfl
 unfold delL
 simp only
 rw [e1,e,List.eraseIdx_eq_take_drop_succ,List.take_set,List.drop_set_of_lt (by omega)]
def DelRet (g k c lo:Nat) (X:Nat→Prop) (l:List Snp) (w:World) (e:Ending) (w':World):Prop :=
 e = .returned (.slice (some ⟨g,0,none⟩) (l.length - 1) c)∧OwnX X encSnp w' lo 158 (.slice (some ⟨g,0,none⟩) (l.length - 1) c) (l.eraseIdx k)∧w.grownBy w' (some g)
theorem deleteX (g k m c lo:Nat) (X:Nat→Prop) (l:List Snp) (w:World) (ii jj:Int) (hii:ii=k) (hjj:jj=(k:Int)+1) (hm:l.length=m) (hk:k<m) (h:OwnX X encSnp w lo 158 (.slice (some ⟨g,0,none⟩) m c) l) (hmx:m≤9223372036854775806) :
  Calls Tryz.prog 129 #[.slice (some ⟨g,0,none⟩) m c,.int .i64 ii,.int .i64 jj] w (DelRet g k c lo X l w):=by
 subst hii hjj
 refine (deleteS_any g k (m - (k+1)) m c lo _ l w hm (by omega) h.1 hmx).mono ?_
 rintro e w' ⟨rfl,h1,h2⟩
 have e1:k+(m - (k+1))=l.length - 1:=by omega
 rw [e1] at h1 ⊢
 exact⟨rfl,⟨h1.more (fun b hb=>⟨hb.1.mono (Nat.le_refl _) h2.size,hb.2.1,hb.2.2⟩) (fun b hb hS=>hS.2.2 hb),fun b hb=>h.2 b hb⟩,h2⟩
set_option maxHeartbeats 4000000 in
set_option maxRecDepth 100000 in
theorem snDelete_any (A A2:Option Addr) (c c2 n m:Nat) (im:Img) (l:List Snp) (num:Int) (w:World) (hn:im.length=n) (hm:l.length=m) (h1:SlAt (encSl encSec) w (Bl w.heap.size) A im) (h2:SlAt encSnp w (Bl w.heap.size) A2 l) (hL:SnLim im l) (hsv:∀ x∈l,x.2.2.length≤50000) :
  Calls Tryz.prog 77 #[.agg #[.slice A n c,.slice A2 m c2],.int .i64 num] w (SnRetE (sDelete (im,l) num) (findE (im,l) num) w):=by
 subst hn hm
 have H1:Hid (∀ w',Below w.heap.size w w'→SlAt (encSl encSec) w' (Bl w.heap.size) A im):=fun w' hb=>h1.below hb
 have H2:Hid (∀ w',Below w.heap.size w w'→SlAt encSnp w' (Bl w.heap.size) A2 l):=fun w' hb=>h2.below hb
 have HLM:=Lib.hid hL
 have HSV:=Lib.hid hsv
 have hl1:=hL.ims
 have hl2:=hL.its
 clear h1 h2 hL hsv
 obtain⟨n0,hn0⟩:∃ n0,w.heap.size=n0:=⟨_,rfl⟩
 obtain⟨W0,hW0⟩:∃ W0,(w.alloc (.cells #[.slice A im.length c,.slice A2 l.length c2] 26)).alloc (.cells #[.slice none 0 0,.slice none 0 0] 26)=W0:=⟨_,rfl⟩
 have hB0:Below n0 w W0:=by rw [← hW0, ← hn0];exact ext_alloc (ext_alloc (Below.refl _ _))
 have hs0:n0+1<W0.heap.size:=by rw [← hW0, ← hn0];simp
 have hr0:W0.heap[n0]? = some (.cells #[.slice A im.length c,.slice A2 l.length c2] 26 (0,0)):=by rw [← hW0, ← hn0];exact (Below.heap_alloc _ _ _ (by simp)).trans (heap_alloc_new _ _)
 have hrz0:W0.heap[n0+1]? = some (.cells #[.slice none 0 0,.slice none 0 0] 26 (0,0)):=by rw [← hW0, ← hn0];exact heap_new2 _ _ _
 have hBL:Hid (∀ (W:World) g,Below n0 w W→Bl w.heap.size g→Bl W.heap.size g):=fun W g hb hg=>by have:=hb.size;have h5:g<w.heap.size:=hg;show g<W.heap.size;omega
 have HCC:Hid (∀ W,Below W0.heap.size W0 W→W.cell? ⟨n0,0,none⟩=some (.slice A im.length c)∧W.cell? ⟨n0,1,none⟩=some (.slice A2 l.length c2)):=fun W hb=>by
  obtain⟨a,b,_⟩:=blk2 ((hb.block n0 (by omega)).trans hr0)
  exact⟨a,b⟩
 have HRZ:Hid (∀ W,Below W0.heap.size W0 W→W.heap[n0+1]? = some (.cells #[.slice none 0 0,.slice none 0 0] 26 (0,0))):=fun W hb=>(hb.block (n0+1) hs0).trans hrz0
 obtain⟨r,hr⟩:∃ r,Hid (findE (im,l) num=r):=⟨_,rfl⟩
 obtain⟨k,hk⟩:∃ k,Hid (findN (im,l) num=k):=⟨_,rfl⟩
 have HCK:=Lib.hid (snFind_any A A2 c c2 im.length l.length im l num W0 rfl rfl ((H1.out W0 (by rw [hn0];exact hB0)).more (fun g hg=>hBL.out W0 g hB0 hg)) ((H2.out W0 (by rw [hn0];exact hB0)).more (fun g hg=>hBL.out W0 g hB0 hg)) hl1 (by omega))
 rw [hr.out,hk.out] at HCK
 obtain⟨c0,c1⟩:=HCC.out W0 (Below.refl _ _)
 clear hr0 hrz0
 go_enter Tryz.func77,Tryz.ntmps77
 go_wp2_with fail
 refine HCK.out.mono ?_
 rintro e w1 ⟨rfl,hb1⟩
 have hbw1:Below n0 w w1:=hB0.trans (hb1.mono (by omega))
 have hz1:=hb1.size
 have hrz1:=HRZ.out w1 hb1
 clear HCK hW0 c0 c1
 by_cases hx0:r=0
 case neg =>
  have hx0':(r != 0)=true:=by simp [hx0]
  have hne:r≠0:=hx0
  clear hx0
  have hE:Hid (findE (im,l) num=r):=hr.out
  have hS:Hid (sDelete (im,l) num=zSns):=by rw [Hid,sDelete,if_neg (by rw [hE.out];exact hne)]
  obtain⟨q0,q1,qf⟩:=blk2 hrz1
  clear hne
  go_wp2_with fail
  have hz:=blk2_set hrz1 (.slice none 0 0) (.slice none 0 0)
  have hbe:=((hbw1.setCell (p:=⟨n0+1,0,none⟩) (by show n0≤n0+1;omega) (.slice none 0 0)).setCell (p:=⟨n0+1,1,none⟩) (by show n0≤n0+1;omega) (.slice none 0 0))
  have hse:=(SnRet.zero (w:=(w1.setCell ⟨n0+1,0,none⟩ (.slice none 0 0)).setCell ⟨n0+1,1,none⟩ (.slice none 0 0)) (lo:=n0) (by simp [World.setCell];omega))
  change bodyPost _ _ _ _ _ ((w1.setCell ⟨(n0+1),0,none⟩ (.slice none 0 0)).setCell ⟨(n0+1),1,none⟩ (.slice none 0 0))
  generalize (w1.setCell ⟨(n0+1),0,none⟩ (.slice none 0 0)).setCell ⟨(n0+1),1,none⟩ (.slice none 0 0)=W3 at hz hbe hse ⊢
  obtain⟨z0,z1,_⟩:=blk2 hz
  refine bodyPost_ret (v := .tuple #[.agg #[(.slice none 0 0),(.slice none 0 0)],.int .i64 r]) ?_ rfl ?_
  ·simp [results,Tryz.results77,Tryz.f77,go_sem,z0,z1]
  rw [hE.out,hS.out]
  exact⟨none,0,none,0,n0,rfl,by rw [hn0];exact hse,by rw [hn0];exact hbe⟩
 have hx0':(r != 0)=false:=by simp [hx0]
 have hE:Hid (findE (im,l) num=0):=by rw [Hid,hr.out,hx0]
 obtain⟨_,hkl⟩:=findE_ok hE.out
 rw [hk.out] at hkl
 have hS:Hid (sDelete (im,l) num=(im,delL l k)):=by rw [Hid,sDelete,if_pos hE.out,hk.out]
 clear hx0 hr
 have HCP:=Lib.hid (copied36_any A A2 c c2 im.length l.length im l w1 rfl rfl ((H1.out w1 (by rw [hn0];exact hbw1)).more (fun g hg=>hBL.out w1 g hbw1 hg)) ((H2.out w1 (by rw [hn0];exact hbw1)).more (fun g hg=>hBL.out w1 g hbw1 hg)) HLM.out)
 obtain⟨c0,c1⟩:=HCC.out w1 hb1
 go_wp2_with fail
 refine HCP.out.mono ?_
 rintro e w3 ⟨B,vc,D,dc,mid,rfl,hsn,hb3⟩
 clear HCP c0 c1 hrz1
 go_upto_region 5 with (fail)
 obtain⟨ob,hob⟩:∃ ob,w3.heap.size=ob:=⟨_,rfl⟩
 obtain⟨w4,hw4⟩:∃ w4,w3.alloc (.cells #[.slice B im.length vc,.slice D l.length dc] 26)=w4:=⟨_,rfl⟩
 rw [hw4,hob]
 have hb4:Below w3.heap.size w3 w4:=by rw [← hw4];exact ext_alloc (Below.refl _ _)
 have hr4:w4.heap[ob]? = some (.cells #[.slice B im.length vc,.slice D l.length dc] 26 (0,0)):=by rw [← hw4, ← hob];exact heap_alloc_new _ _
 have hs4:ob<w4.heap.size:=(Array.getElem?_eq_some_iff.1 hr4).1
 have hz3:=hb3.size
 obtain⟨k1,k2,k3,k4,k5,k6⟩:=hsn
 have hO4:Hid (OwnX (fun g=>g=ob) encSnp w4 mid 158 (.slice D l.length dc) l):=(k6.var (X':=fun g=>g=ob) (fun g hg=>Or.inr (by omega))).below hb4
 have hb04:Below W0.heap.size W0 w4:=ext_trans (ext_trans hb1 hb3) hb4
 have hbw4:Below n0 w w4:=hB0.trans (hb04.mono (by omega))
 have HA4:Hid (SlAt (encSl encSec) w4 (Nw w1.heap.size mid) B im):=k5.blk (w':=w4) (fun g hg=>hb4.block g (by have:=hg.2;omega))
 have hvc:Hid (im.length≤vc∧vc≤maxLen):=⟨k1,k2⟩
 have hmz:mid≤ob:=by omega
 have hmid:w1.heap.size≤mid:=k3
 clear k1 k2 k3 k5 k6 hw4 hb3 hb4
 obtain⟨g,_,rfl,hg1,hg2,_⟩:=hO4.out.1.elem (i:=k) hkl
 have hgob:Hid (g≠ob):=fun e=>hO4.out.2 g rfl e
 obtain⟨o0,o1,_⟩:=blk2 hr4
 cases k with
 | zero =>
   have hLS:Hid (delL l 0=l.eraseIdx 0):=delL_zero l
   clear o0 o1
   have HDL:=Lib.hid (deleteX g 0 l.length dc mid (fun g=>g=ob) l w4 0 1 rfl rfl rfl hkl hO4.out (by omega))
   obtain⟨o0,o1,of⟩:=blk2 hr4
   go_wp2_with fail
   refine HDL.out.mono ?_
   rintro e w7 ⟨rfl,hox,hg7⟩
   rw [show l.length=l.length from rfl] at hox ⊢
   have hz7:=hg7.size
   have hW:=(hbw4).size
   have hro7:w7.heap[ob]? = some (.cells #[.slice B im.length vc,.slice (some ⟨g,0,none⟩) l.length dc] 26 (0,0)):=(hg7.block ob (Array.getElem?_eq_some_iff.1 hr4).1 (fun e=>by injection e with e;exact hgob.out e.symm)).trans hr4
   have hobz:=(Array.getElem?_eq_some_iff.1 hr4).1
   have hrz7:w7.heap[n0+1]? = some (.cells #[.slice none 0 0,.slice none 0 0] 26 (0,0)):=(hg7.block (n0+1) (by omega) (fun e=>by injection e with e;omega)).trans (HRZ.out w4 hb04)
   have hA7:Hid (SlAt (encSl encSec) w7 (Nw w1.heap.size mid) B im):=(HA4.out).blk (fun b hb=>hg7.block b (by have:=hb.2;omega) (fun e=>by injection e with e;have:=hb.2;omega))
   have hB7:Below n0 w w7:=(hbw4).grown hg7 (by omega) (fun b e=>by injection e with e;omega)
   have hro8:=blk2_1 hro7 (.slice (some ⟨g,0,none⟩) (l.length - 1) dc)
   have hrz8:=(heap_setCell_other w7 ⟨ob,1,none⟩ (n0+1) (.slice (some ⟨g,0,none⟩) (l.length - 1) dc) (by show n0+1≠ob;omega)).trans hrz7
   have hO8:=Lib.hid (hox.set (p:=⟨ob,1,none⟩) rfl (.slice (some ⟨g,0,none⟩) (l.length - 1) dc))
   have hA8:Hid (SlAt (encSl encSec) (w7.setCell ⟨ob,1,none⟩ (.slice (some ⟨g,0,none⟩) (l.length - 1) dc)) (Nw w1.heap.size mid) B im):=hA7.out.blk (fun g hg=>heap_setCell_other _ _ _ _ (by have:=hg.2;show g≠ob;omega))
   have hB8:Below n0 w (w7.setCell ⟨ob,1,none⟩ (.slice (some ⟨g,0,none⟩) (l.length - 1) dc)):=hB7.setCell (p:=⟨ob,1,none⟩) (by show n0≤ob;omega) _
   have hz8:mid≤(w7.setCell ⟨ob,1,none⟩ (.slice (some ⟨g,0,none⟩) (l.length - 1) dc)).heap.size:=by simp [World.setCell];omega
   clear o0 o1 of HDL hox hg7 hA7
   obtain⟨o0,o1,of⟩:=blk2 hro7
   go_upto_region 10 with (fail)
   generalize w7.setCell ⟨ob,1,none⟩ (.slice (some ⟨g,0,none⟩) (l.length - 1) dc)=w8 at hro8 hrz8 hO8 hA8 hB8 hz8 ⊢
   clear o0 o1 of hro7 hrz7 hB7
   obtain⟨o0,o1,_⟩:=blk2 hro8
   obtain⟨q0,q1,qf⟩:=blk2 hrz8
   go_wp2_with fail
   have hz:=blk2_set hrz8 (.slice B im.length vc) (.slice (some ⟨g,0,none⟩) (l.length - 1) dc)
   have hbe:=((hB8.setCell (p:=⟨n0+1,0,none⟩) (by show n0≤n0+1;omega) (.slice B im.length vc)).setCell (p:=⟨n0+1,1,none⟩) (by show n0≤n0+1;omega) (.slice (some ⟨g,0,none⟩) (l.length - 1) dc))
   have hse:=(((show SnRet im (l.eraseIdx 0) B vc (some ⟨g,0,none⟩) dc mid w1.heap.size w8 from ⟨hvc.out.1,hvc.out.2,by omega,hz8,hA8.out,by have:=hO8.out.var (X':=fun _=>False) (fun g hg=>hg.elim);rw [List.length_eraseIdx,if_pos (by rw [show l.length=l.length from rfl];exact hkl),show l.length=l.length from rfl];exact this⟩).set (p:=⟨n0+1,0,none⟩) (by show n0+1<w1.heap.size;omega) (.slice B im.length vc)).set (p:=⟨n0+1,1,none⟩) (by show n0+1<w1.heap.size;omega) (.slice (some ⟨g,0,none⟩) (l.length - 1) dc))
   change bodyPost _ _ _ _ _ ((w8.setCell ⟨(n0+1),0,none⟩ (.slice B im.length vc)).setCell ⟨(n0+1),1,none⟩ (.slice (some ⟨g,0,none⟩) (l.length - 1) dc))
   generalize (w8.setCell ⟨(n0+1),0,none⟩ (.slice B im.length vc)).setCell ⟨(n0+1),1,none⟩ (.slice (some ⟨g,0,none⟩) (l.length - 1) dc)=W3 at hz hbe hse ⊢
   obtain⟨z0,z1,_⟩:=blk2 hz
   refine bodyPost_ret (v := .tuple #[.agg #[(.slice B im.length vc),(.slice (some ⟨g,0,none⟩) (l.length - 1) dc)],.int .i64 0]) ?_ rfl ?_
   ·simp [results,Tryz.results77,Tryz.f77,go_sem,z0,z1]
   rw [hE.out,hS.out,hLS.out]
   exact⟨B,vc,some ⟨g,0,none⟩,dc,mid,by rw [List.length_eraseIdx,if_pos (by rw [show l.length=l.length from rfl];exact hkl),show l.length=l.length from rfl],hse.low (by omega),by rw [hn0];exact hbe⟩
 | succ j =>
   have hjl:j<l.length:=by omega
   obtain⟨ga,cs,ea,_,_,_,hcell,hfz,hrd⟩:=hO4.out.1.elem (i:=j) hjl
   simp only [Option.some.injEq,Addr.mk.injEq,and_true] at ea
   subst ea
   obtain⟨gb,cs2,eb,_,_,_,hcell2,_,hrd2⟩:=hO4.out.1.elem (i:=j+1) hkl
   simp only [Option.some.injEq,Addr.mk.injEq,and_true] at eb
   subst eb
   have hdel:=delL_succ hkl
   have hv1:=HSV.out l[j] (List.getElem_mem hjl)
   have hv2:=HSV.out l[j+1] (List.getElem_mem hkl)
   obtain⟨x,hx⟩:∃ x,l[j]=x:=⟨_,rfl⟩
   obtain⟨y,hy⟩:∃ y,l[j+1]=y:=⟨_,rfl⟩
   rw [hx] at hrd hdel hv1
   rw [hy] at hrd2 hdel hv2
   obtain⟨num1,tm1,sv1⟩:=x
   obtain⟨num2,tm2,sv2⟩:=y
   obtain⟨Dx,dx,rfl,i1,i2,j1,j2,j3⟩:=snp_cs hrd
   obtain⟨Dy,dy,rfl,_,_,l1,l2,l3⟩:=snp_cs hrd2
   simp only at i1 i2 j1 j2 j3 l1 l2 l3 hdel hv1 hv2
   have d0:=hcell 0 _ rfl
   have d1:=hcell 1 _ rfl
   have d2:=hcell 2 _ rfl
   have t2:=hcell2 2 _ rfl
   simp only [show encSnp.size=3 from rfl,Nat.add_zero] at d0 d1 d2 t2
   have HDEL:=Lib.hid hdel
   have HI:=Lib.hid (And.intro i1 i2)
   clear hcell hcell2 hrd hrd2 hdel hx hy i1 i2
   go_upto_region 7 with (fail)
   obtain⟨ib,hib⟩:∃ ib,w4.heap.size=ib:=⟨_,rfl⟩
   obtain⟨w5,hw5⟩:∃ w5,w4.alloc (.cells #[.int .i64 num1,.int .i64 tm1,.slice Dx sv1.length dx] 190)=w5:=⟨_,rfl⟩
   rw [hw5,hib]
   have hb5:Below w4.heap.size w4 w5:=by rw [← hw5];exact ext_alloc (Below.refl _ _)
   have hr5:w5.heap[ib]? = some (.cells #[.int .i64 num1,.int .i64 tm1,.slice Dx sv1.length dx] 190 (0,0)):=by rw [← hw5, ← hib];exact heap_alloc_new _ _
   have hs5:ib<w5.heap.size:=(Array.getElem?_eq_some_iff.1 hr5).1
   have hb05:Below W0.heap.size W0 w5:=ext_trans hb04 hb5
   have hbw5:Below n0 w w5:=hB0.trans (hb05.mono (by omega))
   have hj3:Hid (SlAt encWr w5 (Bl w5.heap.size) Dx sv1):=(j3.blk (w':=w5) (fun g hg=>hb5.block g hg.1.2)).more (fun g hg=>by have:=hg.1.2;show g<w5.heap.size;omega)
   have hl3:Hid (SlAt encWr w5 (Bl w5.heap.size) Dy sv2):=(l3.blk (w':=w5) (fun g hg=>hb5.block g hg.1.2)).more (fun g hg=>by have:=hg.1.2;show g<w5.heap.size;omega)
   have hsv7:=save_any ib num1 tm1 Dy Dx dy dx sv2.length sv2 sv1 w5 rfl hr5 hl3.out hj3.out ⟨l1,l2⟩ ⟨j1,j2⟩ (by omega)
   obtain⟨rr,hrr⟩:∃ rr,foldL (sv2++sv1)=rr:=⟨_,rfl⟩
   rw [hrr] at hsv7 HDEL
   have HSV7:=Lib.hid hsv7
   have HDD:=Lib.hid (And.intro d0 (And.intro d1 d2))
   have hro5:=(hb5.block ob (by omega)).trans hr4
   have u2:w5.cell? ⟨g,(j+1) * 3+2,none⟩=some (.slice Dy sv2.length dy):=(World.cell?_of_block (a:=⟨g,(j+1) * 3+2,none⟩) (hb5.block g hg2)).trans (by simpa using t2)
   clear hsv7 o0 o1 d0 d1 d2 t2 j3 l3 hw5 hrr
   obtain⟨o0,o1,_⟩:=blk2 hro5
   go_wp2_with fail
   refine HSV7.out.mono ?_
   rintro e w7 ⟨A8,c8,rfl,hr7,⟨u1,u2',u3⟩,hg7⟩
   have hz7:=hg7.size
   have hz5:=hb5.size
   have hk7:∀ b,b<ib→w7.heap[b]? = w4.heap[b]? := fun b hb=>(hg7.block b (by omega) (fun e=>by injection e with e;omega)).trans (hb5.block b (by omega))
   have hro7:=(hk7 ob (by omega)).trans hr4
   have hO7:Hid (OwnX (fun g=>g=ob) encSnp w7 mid 158 (.slice (some ⟨g,0,none⟩) l.length dc) l):=hO4.out.keep (by omega) (fun b _ hb _=>hk7 b (by omega))
   have hO8:Hid (OwnX (fun g=>g=ob) encSnp (st3 w7 g j (.int .i64 num1) (.int .i64 tm1) (.slice A8 rr.length c8)) mid 158 (.slice (some ⟨g,0,none⟩) l.length dc) (l.set j (num1,tm1,rr))) :=
    hO7.out.storeS hjl HI.out.1 HI.out.2 u1 u2' (u3.more (fun b hb=>⟨⟨by have:=hb.1;omega,hb.2⟩,by have:=hb.1;omega,by have:=hb.1;omega⟩))
   have hB7:Below n0 w w7:=hbw5.trans ⟨hg7.os,hg7.tape,hg7.output,hz7,fun b hb=>hg7.block b (by omega) (fun e=>by injection e with e;omega)⟩
   have hB07:Below W0.heap.size W0 w7:=hb05.trans ⟨hg7.os,hg7.tape,hg7.output,hz7,fun b hb=>hg7.block b (by have:=hb04.size;omega) (fun e=>by have:=hb04.size;injection e with e;omega)⟩
   have hA7:Hid (SlAt (encSl encSec) (st3 w7 g j (.int .i64 num1) (.int .i64 tm1) (.slice A8 rr.length c8)) (Nw w1.heap.size mid) B im):=HA4.out.blk (fun b hb=>(st3_other (by have:=hb.2;omega)).trans (hk7 b (by have:=hb.2;omega)))
   have hfz7:∀ j,w7.frozen? ⟨g,j,none⟩=false:=fun j=>(World.frozen?_of_block (a:=⟨g,j,none⟩) (hk7 g (by omega))).trans (hfz j)
   have hB8:Below n0 w (st3 w7 g j (.int .i64 num1) (.int .i64 tm1) (.slice A8 rr.length c8)):=((hB7.setCell (p:=⟨g,j * 3,none⟩) (by show n0≤g;omega) _).setCell (p:=⟨g,j * 3+1,none⟩) (by show n0≤g;omega) _).setCell (p:=⟨g,j * 3+2,none⟩) (by show n0≤g;omega) _
   have hB08:Below W0.heap.size W0 (st3 w7 g j (.int .i64 num1) (.int .i64 tm1) (.slice A8 rr.length c8)):=((hB07.setCell (p:=⟨g,j * 3,none⟩) (by show W0.heap.size≤g;omega) _).setCell (p:=⟨g,j * 3+1,none⟩) (by show W0.heap.size≤g;omega) _).setCell (p:=⟨g,j * 3+2,none⟩) (by show W0.heap.size≤g;omega) _
   have hro8:(st3 w7 g j (.int .i64 num1) (.int .i64 tm1) (.slice A8 rr.length c8)).heap[ob]? = some (.cells #[.slice B im.length vc,.slice (some ⟨g,0,none⟩) l.length dc] 26 (0,0)):=(st3_other (fun e=>hgob.out e.symm)).trans hro7
   clear o0 o1
   obtain⟨o0,o1,_⟩:=blk2 hro7
   obtain⟨x0,x1,x2,_⟩:=blk3 hr7
   have f0:=hfz7 (j * 3)
   have f1:=hfz7 (j * 3+1)
   have f2:=hfz7 (j * 3+2)
   have hkg:=hk7 g (by omega)
   have d0:=(World.cell?_of_block (a:=⟨g,j * 3,none⟩) hkg).trans HDD.out.1
   have d1:=(World.cell?_of_block (a:=⟨g,j * 3+1,none⟩) hkg).trans HDD.out.2.1
   have d2:=(World.cell?_of_block (a:=⟨g,j * 3+2,none⟩) hkg).trans HDD.out.2.2
   clear HSV7 u3 hg7 hfz hfz7 hro7 hkg u2
   go_upto_region 9 with (fail)
   change Code.wp _ _ _ _ (st3 w7 g j (.int .i64 num1) (.int .i64 tm1) (.slice A8 rr.length c8))
   generalize st3 w7 g j (.int .i64 num1) (.int .i64 tm1) (.slice A8 rr.length c8)=w8 at hO8 hA7 hB8 hB08 hro8 ⊢
   clear o0 o1 x0 x1 x2 f0 f1 f2 d0 d1 d2
   obtain⟨LS,hLSd⟩:∃ LS,Hid (l.set j (num1,tm1,rr)=LS):=⟨_,rfl⟩
   have hLSl:Hid (LS.length=l.length):=by rw [← hLSd.out,Hid,List.length_set]
   rw [hLSd.out] at hO8 HDEL
   have hLS:Hid (delL l (j+1)=LS.eraseIdx (j+1)):=HDEL
   clear HDEL hLSd
   have hjj:((j+1:Nat):Int)=(j:Int)+1:=by omega
   have HDL:=Lib.hid (deleteX g (j+1) l.length dc mid (fun g=>g=ob) LS w8 ((j:Int)+1) ((j:Int)+1+1) (by omega) (by omega) hLSl.out hkl hO8.out (by omega))
   obtain⟨o0,o1,of⟩:=blk2 hro8
   go_wp2_with fail
   refine HDL.out.mono ?_
   rintro e w7 ⟨rfl,hox,hg7⟩
   rw [show LS.length=l.length from hLSl.out] at hox ⊢
   have hz7:=hg7.size
   have hW:=(hB8).size
   have hro7:w7.heap[ob]? = some (.cells #[.slice B im.length vc,.slice (some ⟨g,0,none⟩) l.length dc] 26 (0,0)):=(hg7.block ob (Array.getElem?_eq_some_iff.1 hro8).1 (fun e=>by injection e with e;exact hgob.out e.symm)).trans hro8
   have hobz:=(Array.getElem?_eq_some_iff.1 hro8).1
   have hrz7:w7.heap[n0+1]? = some (.cells #[.slice none 0 0,.slice none 0 0] 26 (0,0)):=(hg7.block (n0+1) (by omega) (fun e=>by injection e with e;omega)).trans (HRZ.out w8 hB08)
   have hA7:Hid (SlAt (encSl encSec) w7 (Nw w1.heap.size mid) B im):=(hA7.out).blk (fun b hb=>hg7.block b (by have:=hb.2;omega) (fun e=>by injection e with e;have:=hb.2;omega))
   have hB7:Below n0 w w7:=(hB8).grown hg7 (by omega) (fun b e=>by injection e with e;omega)
   have hro8:=blk2_1 hro7 (.slice (some ⟨g,0,none⟩) (l.length - 1) dc)
   have hrz8:=(heap_setCell_other w7 ⟨ob,1,none⟩ (n0+1) (.slice (some ⟨g,0,none⟩) (l.length - 1) dc) (by show n0+1≠ob;omega)).trans hrz7
   have hO8:=Lib.hid (hox.set (p:=⟨ob,1,none⟩) rfl (.slice (some ⟨g,0,none⟩) (l.length - 1) dc))
   have hA8:Hid (SlAt (encSl encSec) (w7.setCell ⟨ob,1,none⟩ (.slice (some ⟨g,0,none⟩) (l.length - 1) dc)) (Nw w1.heap.size mid) B im):=hA7.out.blk (fun g hg=>heap_setCell_other _ _ _ _ (by have:=hg.2;show g≠ob;omega))
   have hB8:Below n0 w (w7.setCell ⟨ob,1,none⟩ (.slice (some ⟨g,0,none⟩) (l.length - 1) dc)):=hB7.setCell (p:=⟨ob,1,none⟩) (by show n0≤ob;omega) _
   have hz8:mid≤(w7.setCell ⟨ob,1,none⟩ (.slice (some ⟨g,0,none⟩) (l.length - 1) dc)).heap.size:=by simp [World.setCell];omega
   clear o0 o1 of HDL hox hg7 hA7
   obtain⟨o0,o1,of⟩:=blk2 hro7
   go_upto_region 10 with (fail)
   generalize w7.setCell ⟨ob,1,none⟩ (.slice (some ⟨g,0,none⟩) (l.length - 1) dc)=w8 at hro8 hrz8 hO8 hA8 hB8 hz8 ⊢
   clear o0 o1 of hro7 hrz7 hB7
   obtain⟨o0,o1,_⟩:=blk2 hro8
   obtain⟨q0,q1,qf⟩:=blk2 hrz8
   go_wp2_with fail
   have hz:=blk2_set hrz8 (.slice B im.length vc) (.slice (some ⟨g,0,none⟩) (l.length - 1) dc)
   have hbe:=((hB8.setCell (p:=⟨n0+1,0,none⟩) (by show n0≤n0+1;omega) (.slice B im.length vc)).setCell (p:=⟨n0+1,1,none⟩) (by show n0≤n0+1;omega) (.slice (some ⟨g,0,none⟩) (l.length - 1) dc))
   have hse:=(((show SnRet im (LS.eraseIdx (j+1)) B vc (some ⟨g,0,none⟩) dc mid w1.heap.size w8 from ⟨hvc.out.1,hvc.out.2,by omega,hz8,hA8.out,by have:=hO8.out.var (X':=fun _=>False) (fun g hg=>hg.elim);rw [List.length_eraseIdx,if_pos (by rw [show LS.length=l.length from hLSl.out];exact hkl),show LS.length=l.length from hLSl.out];exact this⟩).set (p:=⟨n0+1,0,none⟩) (by show n0+1<w1.heap.size;omega) (.slice B im.length vc)).set (p:=⟨n0+1,1,none⟩) (by show n0+1<w1.heap.size;omega) (.slice (some ⟨g,0,none⟩) (l.length - 1) dc))
   change bodyPost _ _ _ _ _ ((w8.setCell ⟨(n0+1),0,none⟩ (.slice B im.length vc)).setCell ⟨(n0+1),1,none⟩ (.slice (some ⟨g,0,none⟩) (l.length - 1) dc))
   generalize (w8.setCell ⟨(n0+1),0,none⟩ (.slice B im.length vc)).setCell ⟨(n0+1),1,none⟩ (.slice (some ⟨g,0,none⟩) (l.length - 1) dc)=W3 at hz hbe hse ⊢
   obtain⟨z0,z1,_⟩:=blk2 hz
   refine bodyPost_ret (v := .tuple #[.agg #[(.slice B im.length vc),(.slice (some ⟨g,0,none⟩) (l.length - 1) dc)],.int .i64 0]) ?_ rfl ?_
   ·simp [results,Tryz.results77,Tryz.f77,go_sem,z0,z1]
   rw [hE.out,hS.out,hLS.out]
   exact⟨B,vc,some ⟨g,0,none⟩,dc,mid,by rw [List.length_eraseIdx,if_pos (by rw [show LS.length=l.length from hLSl.out];exact hkl),show LS.length=l.length from hLSl.out],hse.low (by omega),by rw [hn0];exact hbe⟩
end Go.Proofs.YtgndgkjefgjamaaGreat
namespace Go.Proofs.YtgndgkjefgjamaaGreat
open Go.RowKit Go.Shelf
attribute [local go_sem] Oper.semAt_some

def sB (k:Int):Sec:=[k,0,0,0,0,0,0,0]
theorem sB_ok {k:Int} (h:0≤k∧k<256):OkSec (sB k):=by
 refine⟨rfl,fun x hx => ?_⟩
 simp [sB] at hx
 omega
theorem tySecs36:SliceTy Tryz.prog 43 95 8 8:=sliceTy_mk (z := .agg #[.int .u8 0,.int .u8 0,.int .u8 0,.int .u8 0,.int .u8 0,.int .u8 0,.int .u8 0,.int .u8 0]) Tryz.underlying43 (by kernel_rfl) rfl (by decide)
end Go.Proofs.YtgndgkjefgjamaaGreat

namespace Go.Proofs.YtgndgkjefgjamaaGreat
open Go.RowKit Go.Shelf
attribute [local go_sem] Oper.semAt_some

set_option maxHeartbeats 2000000 in
theorem refSizesOf_any (A:Option Addr) (c n:Nat) (l:Img) (w:World) (hn:l.length=n) (h1:SlAt (encSl encSec) w (Bl w.heap.size) A l) (hl:n≤1000000) :
  Calls Tryz.prog 60 #[.slice A n c] w (RetSl encInt (lens l) w):=by
 subst hn
 have H1:Hid (∀ w',Below w.heap.size w w'→SlAt (encSl encSec) w' (Bl w.heap.size) A l):=fun w' hb=>h1.below hb
 clear h1
 go_enter Tryz.func60,Tryz.ntmps60
 go_wp2
 go_loopw [3,4] (fun v i wr=>∃ (k:Nat) (B:Option Addr) (vc:Nat) (out:List Int),k≤l.length∧i = .int .i64 k∧v = .slice B out.length vc∧Below w.heap.size w wr∧Hid (out=lens (l.take k))∧Hid (OwnW encInt wr w.heap.size w.heap.size 3 (.slice B out.length vc) out)) (fun _ i _=>l.length - (intOf i).toNat)
 case atStart=>exact⟨0,none,0,[],by omega,rfl,rfl,Below.refl _ _,by simp [Hid,lens],Own.nil_⟩
 case round =>
  obtain⟨k,B,vc,out,hk,rfl,rfl,hB,hout,hown⟩:=hrel
  by_cases hlt:k<l.length
  ·have hnn:(0:Int)≤k:=by omega
   have hki:(k:Int)<l.length:=by omega
   have hol:out.length≤k:=by rw [hout.out];simp [lens];omega
   have hszr:=hB.size
   obtain⟨b,off,D,dc,rfl,hb,g0,hD,hn1,hn2⟩:=(H1.out wr hB).sl hlt
   have hn3:=hn2
   unfold maxLen at hn3
   have hst:Hid (lens (l.take (k+1))=lens (l.take k)++[(l[k].length:Int)]):=by rw [Hid,List.take_succ_eq_append_getElem hlt,lens,List.map_append];rfl
   obtain⟨q,hq⟩:∃ q,l[k].length=q:=⟨_,rfl⟩
   rw [hq] at g0 hn1 hst
   have hlt1:∀ g,(Value.slice B out.length vc).ownBlock=some g→g<wr.heap.size:=fun g hg=>(hown.out.lt g hg).2
   have HLT1:=Lib.hid hlt1;clear hlt1 hq
   have HO2:=Lib.hid (Own.alloc hown.out (fun _ h=>h.1.2) (.cells #[.int .i64 (q:Int)] 3))
   have HRD:Hid (encInt.rd (wr.alloc (.cells #[.int .i64 (q:Int)] 3)) (fun b=>Nw w.heap.size wr.heap.size b∧(Value.slice B out.length vc).ownBlock≠some b) [.int .i64 (q:Int)] (q:Int)):=⟨rfl,by unfold I64;omega⟩
   go_wp2_with (at_builtin;refine Hid.out ?_)
   change wpList _ _ _ _ _ _
   refine wpList_app1 (E:=encInt) tyInts rfl _ _ rfl rfl HO2.out (q:Int) [.int .i64 (q:Int)] rfl HRD.out (heap_alloc_new _ _) (fun _ h=>by simp;have:=h.1.2;omega) (by simp;omega) (by unfold maxLen;omega) (by omega) ?_
   intro A' c' w5 hown5 hg5 hat5
   have hok5:=Lib.hid (OwnW.app (hown5.more (S':=fun b=>Nw w.heap.size (wr.alloc (.cells #[.int .i64 (q:Int)] 3)).heap.size b∧(Value.slice B out.length vc).ownBlock≠some b) (fun b hb=>⟨hb.1.mono (Nat.le_refl _) (by simp),hb.2⟩) (OwnW_new hown5 hat5 HLT1.out (by simp))) hg5 hat5)
   have hB5:=Lib.hid ((ext_alloc (o := .cells #[.int .i64 (q:Int)] 3) hB).grown hg5 (by simp;omega) (fun g h=>(hown.out.lt g h).1))
   clear hown5 hg5 hat5 HO2 HRD
   go_wp2
   go_roundw
   case rel =>
    refine⟨k+1,A',c',out++[(q:Int)],hlt,by go_num,by simp,hB5.out, ?_, ?_⟩
    ·rw [Hid,hst.out,hout.out]
    ·have:=hok5.out;simpa [Hid] using this
   case measure=>simp [intOf];omega
  ·have hkk:k=l.length:=by omega
   subst hkk
   go_wp2
   go_ret
   have e:=hout.out
   rw [List.take_length] at e
   rw [← e]
   obtain⟨_,p1,p2,p3⟩:=hown.out.parts
   exact⟨B,vc,rfl,p1,p2,p3,hB⟩
theorem refCheck07_any (A:Option Addr) (c n:Nat) (l:Img) (w:World) (hn:l.length=n) (h1:SlAt (encSl encSec) w (Bl w.heap.size) A l) (hl:n≤1000000) (r:Int) (hr:sizesN (lens l)=r) :
  Calls Tryz.prog 110 #[.slice A n c] w fun e w'=>e = .returned (.int .i64 r)∧Below w.heap.size w w':=by
 have HS:=Lib.hid (refSizesOf_any A c n l w hn h1 hl)
 have hl2:(lens l).length=n:=by rw [lens_len,hn]
 have HR:=Lib.hid hr
 clear h1 hr
 go_enter Tryz.func110,Tryz.ntmps110
 go_wp2_with fail
 refine HS.out.mono ?_
 rintro e w1 ⟨B,vc,rfl,p1,p2,p3,hb⟩
 have HZ:=sizes_any B vc _ (lens l) w1 p3 (by rw [hl2];omega)
 rw [hl2,HR.out] at HZ
 clear p3
 go_wp2_with fail
 refine HZ.mono ?_
 rintro e w2 ⟨rfl,rfl⟩
 go_wp2
 go_ret
 exact⟨rfl,hb⟩
end Go.Proofs.YtgndgkjefgjamaaGreat

namespace Go.Proofs.YtgndgkjefgjamaaGreat
open Go.RowKit Go.Shelf
attribute [local go_sem] Oper.semAt_some

end Go.Proofs.YtgndgkjefgjamaaGreat

namespace Go.Proofs.YtgndgkjefgjamaaGreat
open Go.RowKit Go.Shelf
attribute [local go_sem] Oper.semAt_some

set_option maxHeartbeats 400000 in
theorem sameVol_any (A A':Option Addr) (c c':Nat) (S S':Nat→Prop) (ss ts:List Sec) (w:World) (h1:SlAt encSec w S A ss) (h2:SlAt encSec w S' A' ts) (hs:ss.length≤9223372036854775807) (ht:ts.length≤9223372036854775807) :
  Calls Tryz.prog 71 #[.slice A ss.length c,.slice A' ts.length c'] w fun e w'=>e = .returned (.bool (ss==ts))∧Drew w w':=by
 by_cases hl:ss.length=ts.length
 ·have hl':(((ss.length:Nat):Int) != (ts.length:Int))=false:=by simp [hl]
  have HL:=Lib.hid hl;clear hl
  go_enter Tryz.func71,Tryz.ntmps71
  go_wp2
  go_loopw [5] (fun i wr=>∃ k:Nat,k≤ss.length∧i = .int .i64 k∧Drew w wr∧Hid (ss.take k=ts.take k)) (fun i _=>ss.length - (intOf i).toNat)
  case atStart=>exact⟨0,by omega,rfl,Drew.refl _,by simp [Hid]⟩
  case round =>
   obtain⟨k,hk,rfl,hd,hp⟩:=hrel
   replace h1:=h1.drew hd
   replace h2:=h2.drew hd
   by_cases hlt:k<ss.length
   ·have hlt2:k<ts.length:=by have:=HL.out;omega
    obtain⟨b,off,x0,x1,x2,x3,x4,x5,x6,x7,rfl,hb,hx,_,g0,g1,g2,g3,g4,g5,g6,g7⟩:=h1.sec hlt
    obtain⟨b',off',y0,y1,y2,y3,y4,y5,y6,y7,rfl,hb',hy,_,k0,k1,k2,k3,k4,k5,k6,k7⟩:=h2.sec hlt2
    have HX:=Lib.hid hx;clear hx
    have HY:=Lib.hid hy;clear hy
    have hnn:(0:Int)≤k:=by omega
    have hki:(k:Int)<ss.length:=by omega
    have hki2:(k:Int)<ts.length:=by omega
    have hq:=fun W=>run_eq_sec W x0 x1 x2 x3 x4 x5 x6 x7 y0 y1 y2 y3 y4 y5 y6 y7
    generalize hqq:([x0,x1,x2,x3,x4,x5,x6,x7]==[y0,y1,y2,y3,y4,y5,y6,y7])=q at hq
    have HQ:=Lib.hid hqq;clear hqq
    go_wp2
    go_quiet (fail)
    cases q with
    | true =>
      go_wp2
      go_roundw
      case rel=>exact⟨k+1,hlt,by go_num,hd.step _,take_succ_eq _ _ _ hlt hlt2 hp (by rw [HX.out,HY.out];exact eq_of_beq HQ.out)⟩
      case measure=>simp [intOf];omega
    | false =>
      go_wp2
      go_ret
      refine⟨ret_bool ?_,hd.step _⟩
      rw [eq_comm,beq_eq_false_iff_ne]
      intro e
      subst e
      rw [HX.out] at HY
      have:=HY.out
      rw [this] at HQ
      simp [Hid] at HQ
   ·have:k=ss.length:=by omega
    subst this
    go_wp2
    go_ret
    refine⟨ret_bool ?_,hd⟩
    have:=hp.out
    rw [List.take_length,List.take_of_length_le (by rw [HL.out];omega)] at this
    simp [this]
 ·have hl':(((ss.length:Nat):Int) != (ts.length:Int))=true:=by simp;omega
  have HL:=Lib.hid hl;clear hl
  go_enter Tryz.func71,Tryz.ntmps71
  go_wp2
  go_ret
  refine⟨ret_bool ?_,Drew.refl _⟩
  rw [eq_comm,beq_eq_false_iff_ne]
  intro e
  exact HL.out (by rw [e])

theorem ne_at07 {l m:Img} {k:Nat} (h1:k<l.length) (h2:k<m.length) (h:l[k]≠m[k]):(l==m)=false:=by
 rw [beq_eq_false_iff_ne];intro e;subst e;exact h rfl
set_option maxHeartbeats 1000000 in
theorem sameImg07_any (A A':Option Addr) (c c':Nat) (S S':Nat→Prop) (l m:Img) (w:World) (h1:SlAt (encSl encSec) w S A l) (h2:SlAt (encSl encSec) w S' A' m) (hs:l.length≤9223372036854775807) (_ht:m.length≤9223372036854775807) :
  Calls Tryz.prog 23 #[.slice A l.length c,.slice A' m.length c'] w fun e w'=>e = .returned (.bool (l==m))∧Drew w w':=by
 by_cases hl:l.length=m.length
 ·have hl':(((l.length:Nat):Int) != (m.length:Int))=false:=by simp [hl]
  have HL:=Lib.hid hl;clear hl
  go_enter Tryz.func23,Tryz.ntmps23
  go_wp2
  go_loopw [5] (fun i wr=>∃ k:Nat,k≤l.length∧i = .int .i64 k∧Drew w wr∧Hid (l.take k=m.take k)) (fun i _=>l.length - (intOf i).toNat)
  case atStart=>exact⟨0,by omega,rfl,Drew.refl _,by simp [Hid]⟩
  case round =>
   obtain⟨k,hk,rfl,hd,hp⟩:=hrel
   replace h1:=h1.drew hd
   replace h2:=h2.drew hd
   by_cases hlt:k<l.length
   ·have hlt2:k<m.length:=by have:=HL.out;omega
    obtain⟨b,off,D,dc,rfl,hb,g0,hD,hn1,hn2⟩:=h1.sl hlt
    obtain⟨b',off',D',dc',rfl,hb',k0,hD',hn3,hn4⟩:=h2.sl hlt2
    have hnn:(0:Int)≤k:=by omega
    have hki:(k:Int)<l.length:=by omega
    have hki2:(k:Int)<m.length:=by omega
    have hc:=fun n=>sameVol_any D D' dc dc' S S' l[k] m[k] (wr.drewN n) hD hD' (by unfold maxLen at hn2;omega) (by unfold maxLen at hn4;omega)
    have HC:=Lib.hid hc;clear hc hn1 hn2 hn3 hn4
    have HP:=Lib.hid hp;clear hp
    generalize hq:(l[k]==m[k])=q at HC
    have HQ:=Lib.hid hq;clear hq
    go_wp2
    go_quiet ((go_at_call 71;exact Calls.quiet_of (HC.out _)))
    cases q with
    | true =>
      go_wp2
      go_roundw
      case rel=>exact⟨k+1,hlt,by go_num,hd.step _,take_succ_eq _ _ _ hlt hlt2 HP.out (eq_of_beq HQ.out)⟩
      case measure=>simp [intOf];omega
    | false =>
      go_wp2
      go_ret
      refine⟨ret_bool (ne_at07 hlt hlt2 ?_).symm,hd.step _⟩
      intro e
      have:=HQ.out
      rw [e] at this
      simp at this
   ·have:k=l.length:=by omega
    subst this
    go_wp2
    go_ret
    refine⟨ret_bool ?_,hd⟩
    have:=hp.out
    rw [HL.out] at this
    rw [List.take_length, ← HL.out,List.take_length] at this
    simp [this]
 ·have hl':(((l.length:Nat):Int) != (m.length:Int))=true:=by simp;omega
  have HL:=Lib.hid hl;clear hl
  go_enter Tryz.func23,Tryz.ntmps23
  go_wp2
  go_ret
  refine⟨ret_bool ?_,Drew.refl _⟩
  rw [eq_comm,beq_eq_false_iff_ne]
  intro e
  exact HL.out (by rw [e])
end Go.Proofs.YtgndgkjefgjamaaGreat
namespace Go.Proofs.YtgndgkjefgjamaaGreat
open Go.RowKit Go.Shelf
attribute [local go_sem] Oper.semAt_some

theorem flatten_set8:∀ (css:List (List Value)) (k:Nat) (v0 v1 v2 v3 v4 v5 v6 v7:Value),(∀ cs∈css,cs.length=8)→k<css.length →
  (css.set k [v0,v1,v2,v3,v4,v5,v6,v7]).flatten=(((((((css.flatten.set (k * 8) v0).set (k * 8+1) v1).set (k * 8+2) v2).set (k * 8+3) v3).set (k * 8+4) v4).set (k * 8+5) v5).set (k * 8+6) v6).set (k * 8+7) v7
 | [],k,_,_,_,_,_,_,_,_,_,hk=>by simp at hk
 | cs :: css,0,v0,v1,v2,v3,v4,v5,v6,v7,h,_=>by
   have h8:=h cs (by simp)
   match cs,h8 with
   | [a,b,c,d,e,f,g,i],_=>simp
 | cs :: css,k+1,v0,v1,v2,v3,v4,v5,v6,v7,h,hk=>by
   have h8:=h cs (by simp)
   have ih:=flatten_set8 css k v0 v1 v2 v3 v4 v5 v6 v7 (fun x hx=>h x (by simp [hx])) (by simpa using hk)
   have e:∀ j (l:List Value) v,(cs++l).set ((k+1) * 8+j) v=cs++l.set (k * 8+j) v:=fun j l v=>by
    rw [List.set_append_right _ _ (by omega)]
    congr 2;omega
   have e0:∀ (l:List Value) v,(cs++l).set ((k+1) * 8) v=cs++l.set (k * 8) v:=fun l v=>by simpa using e 0 l v
   rw [List.set_cons_succ,List.flatten_cons,List.flatten_cons,ih,e0,e,e,e,e,e,e,e]
theorem All2_secs {w:World} {S:Nat→Prop}:∀ {css:List (List Value)} {l:List Sec},All2 (encSec.rd w S) css l→∀ w' S',All2 (encSec.rd w' S') css l
 | [],[],_,_,_=>trivial
 | [],_ :: _,h,_,_=>h.elim
 | _ :: _,[],h,_,_=>h.elim
 | cs :: css,x :: l,h,w',S'=>⟨h.1,All2_secs h.2 w' S'⟩
theorem Own.setSec {w:World} {base g n c:Nat} {e:TypeId} {l:List Sec} (h:Own encSec w base e (fun _=>False) (.slice (some ⟨g,0,none⟩) n c) l) (hn:l.length=n) {k:Nat} (hk:k<l.length) {x0 x1 x2 x3 x4 x5 x6 x7:Int} (hs:OkSec [x0,x1,x2,x3,x4,x5,x6,x7]) :
  Own encSec ((((((((w.setCell ⟨g,k * 8,none⟩ (.int .u8 x0)).setCell ⟨g,k * 8+1,none⟩ (.int .u8 x1)).setCell ⟨g,k * 8+2,none⟩ (.int .u8 x2)).setCell ⟨g,k * 8+3,none⟩ (.int .u8 x3)).setCell ⟨g,k * 8+4,none⟩ (.int .u8 x4)).setCell ⟨g,k * 8+5,none⟩ (.int .u8 x5)).setCell ⟨g,k * 8+6,none⟩ (.int .u8 x6)).setCell ⟨g,k * 8+7,none⟩ (.int .u8 x7)) base e (fun _=>False) (.slice (some ⟨g,0,none⟩) n c) (l.set k [x0,x1,x2,x3,x4,x5,x6,x7]):=by
 obtain⟨css,h1,h2,h3⟩:=h
 subst hn
 have hsz:=All2.sizes h2
 have hkc:k<css.length:=by rw [h2.length];exact hk
 have r1:=(h1.stored (k * 8) (.int .u8 x0)).1
 have r2:=(r1.stored (k * 8+1) (.int .u8 x1)).1
 have r3:=(r2.stored (k * 8+2) (.int .u8 x2)).1
 have r4:=(r3.stored (k * 8+3) (.int .u8 x3)).1
 have r5:=(r4.stored (k * 8+4) (.int .u8 x4)).1
 have r6:=(r5.stored (k * 8+5) (.int .u8 x5)).1
 have r7:=(r6.stored (k * 8+6) (.int .u8 x6)).1
 have r8:=(r7.stored (k * 8+7) (.int .u8 x7)).1
 rw [← flatten_set8 css k _ _ _ _ _ _ _ _ hsz hkc] at r8
 refine⟨css.set k [.int .u8 x0,.int .u8 x1,.int .u8 x2,.int .u8 x3,.int .u8 x4,.int .u8 x5,.int .u8 x6,.int .u8 x7], ?_,All2.set (All2_secs h2 _ _) ⟨rfl,hs⟩,h3⟩
 rw [List.length_set];exact r8
theorem Own.cellSec {w:World} {base g n c:Nat} {e:TypeId} {l:List Sec} (h:Own encSec w base e (fun _=>False) (.slice (some ⟨g,0,none⟩) n c) l) (hn:l.length=n) {k:Nat} (hk:k<l.length) :
  (∀ r,r<8→∃ u,w.cell? ⟨g,k * 8+r,none⟩=some u)∧∀ j,w.frozen? ⟨g,j,none⟩=false:=by
 obtain⟨css,h1,h2,h3⟩:=h
 subst hn
 have hsz:=All2.sizes h2
 have hlen:css.flatten.length=l.length * 8:=by rw [flatten_len 8 css hsz,h2.length]
 refine⟨fun r hr => ?_,fun j=>h1.frozenAt j⟩
 have hlt:k * 8+r<l.length * 8:=by omega
 refine⟨css.flatten[k * 8+r]'(by omega), ?_⟩
 rw [h1.cellAt (k * 8+r) hlt,List.getElem?_eq_getElem]
theorem step_appAll {P:Program} {w:World} {α:Type} {E:Enc α} {t e:TypeId} {bytes:Nat} {ops:Array Oper} {o:Oper} {a:Act} {Q:Exit→Act→World→Prop} {K:Act→World→Prop} {X:Prop} (hT:SliceTy P t e E.size bytes) (hgd:o.guard=none) (s x:Operand) (ho:o.op = .call { callee := .builtin .append,args := #[s,x],argTypes := #[t,t] })
  {base:Nat} {S:Nat→Prop} {v:Value} {l:List α} (hs:a.eval s=v) (hown:Own E w base e S v l) {ad:Option Addr} {c m:Nat} {news:List α} (hx:a.eval x = .slice ad m c)
  (hm:m=news.length) (hr:SlAt E w S ad news) (hS:∀ b,S b→b<w.heap.size) (hbase:base≤w.heap.size)
  (h63:l.length+m≤maxLen) (hbytes:(l.length+m) * bytes≤140737488355328)
  (h:∀ A c' w',Own E w' base e S (.slice A (l.length+m) c') (l++news)→w.grownBy w' v.ownBlock→((Value.slice A (l.length+m) c').ownBlock=v.ownBlock∨(Value.slice A (l.length+m) c').ownBlock=some w.heap.size)→K (a.put o.dst (.slice A (l.length+m) c')) w') :
  if Region.wanted o (yielded ops a.tmps)=true then Oper.wp P o a w K Q else X:=by
 have hw:Region.wanted o (yielded ops a.tmps)=true:=by simp [Region.wanted,hgd]
 rw [if_pos hw]
 have hrun:∃ A c' w',(Builtin.append_ #[t,t] o.type #[v,.slice ad m c]).run P w = .ok (.slice A (l.length+m) c') w'∧Own E w' base e S (.slice A (l.length+m) c') (l++news)∧w.grownBy w' v.ownBlock ∧
   ((Value.slice A (l.length+m) c').ownBlock=v.ownBlock∨(Value.slice A (l.length+m) c').ownBlock=some w.heap.size):=by
  by_cases hn:news=[]
  ·subst hn
   exact run_app (P:=P) (c:=c) hT o.type hown (news:=[]) (css:=[]) hm trivial (fun h=>absurd rfl h) hS hbase h63 hbytes
  ·obtain⟨b,off,rfl,_⟩:=hr.some_ hn
   obtain⟨css,h1,h2,h3,h4⟩:=hr.row
   exact run_app (P:=P) (c:=c) hT o.type hown (news:=news) (css:=css) hm h3 (fun _=>⟨_,rfl,h4⟩) hS hbase h63 hbytes
 obtain⟨A,c',w',hr,h2,h3,h4⟩:=hrun
 unfold Oper.wp execOp
 simp only [ho,resolve,invoke,builtin,Sem.run_bind,Sem.run_pure,Result.andThen_ok,List.map_toArray,List.map_cons,List.map_nil,hs,hx,hr]
 exact h A c' w' h2 h3 h4
end Go.Proofs.YtgndgkjefgjamaaGreat

namespace Go.Proofs.YtgndgkjefgjamaaGreat
open Go.RowKit Go.Shelf
attribute [local go_sem] Oper.semAt_some

abbrev WB:=Int × Int × Nat × Nat × Nat
def encWB:Enc WB where
 size:=3
 rd _ _ cs x:=cs=[.int .i64 x.1,.int .i64 x.2.1,.slice (some ⟨x.2.2.1,0,none⟩) x.2.2.2.1 x.2.2.2.2]∧(I64 x.1∧I64 x.2.1)∧x.2.2.2.1≤x.2.2.2.2∧x.2.2.2.2≤maxLen
 len h:=by rw [h.1];rfl
 one h:=by rw [h.1];simp [Value.oneCell']
 keep h _ _:=h
structure WrsOwn (w:World) (lo:Nat) (A:Option Addr) (c:Nat) (xs:List WB) (l:List Wr):Prop where
 outer:Own encWB w lo 45 (fun _=>False) (.slice A xs.length c) xs
 len:xs.length=l.length
 rows:∀ (k:Nat) (h1:k<xs.length) (h2:k<l.length),RowOf w lo xs[k].2.2 l[k].2.2
 heads:∀ (k:Nat) (h1:k<xs.length) (h2:k<l.length),xs[k].1=l[k].1∧xs[k].2.1=l[k].2.1
 apart:(xs.map (·.2.2.1)).Nodup
section
variable {w w':World} {lo:Nat} {A:Option Addr} {c:Nat} {xs:List WB} {l:List Wr}
theorem WrsOwn.nil_:WrsOwn w lo none 0 [] []:=⟨Own.nil_,rfl,fun _ h=>by simp at h,fun _ h=>by simp at h,List.nodup_nil⟩
theorem WrsOwn.below (h:WrsOwn w lo A c xs l) (hb:Below w.heap.size w w'):WrsOwn w' lo A c xs l :=
 ⟨Own.below h.outer hb (fun _ h=>h.elim),h.len,fun k h1 h2=>(h.rows k h1 h2).blk (hb.block _ (h.rows k h1 h2).ty.2.1),h.heads,h.apart⟩
theorem WrsOwn.outNe (h:WrsOwn w lo A c xs l) {k:Nat} (h1:k<xs.length) {g:Nat} (hg:(Value.slice A xs.length c).ownBlock=some g):xs[k].2.2.1≠g:=fun e=>by
 obtain⟨_,cs,fr,k1⟩:=h.outer.cellsOf g hg
 obtain⟨cs',k2⟩:=(h.rows k h1 (by rw [← h.len];exact h1)).ty.2.2.2.2.2
 rw [e,k1] at k2
 injection k2 with k2
 injection k2 with _ k2 _
 exact absurd k2 (by decide)
theorem RowOf.rdS {S:Nat→Prop} {x:Nat × Nat × Nat} {row:List Sec} (h:RowOf w lo x row) (hS:S x.1):SlAt encSec w S (some ⟨x.1,0,none⟩) row:=by
 obtain⟨A',c',he,_,_,h3⟩:=Own.reads h (S':=S) (fun _ h=>h.elim) (fun g hg=>by
  have:x.1=g:=by simpa [Value.ownBlock] using hg
  rw [← this];exact hS)
 simp only [List.cons.injEq,Value.slice.injEq,and_true] at he
 obtain⟨rfl,_,_⟩:=he
 exact h3
theorem wb_all2 {S:Nat→Prop}:∀ {css:List (List Value)} {xs:List WB} {l:List Wr},All2 (encWB.rd w (fun _=>False)) css xs→(∀ (k:Nat) (h1:k<xs.length) (h2:k<l.length),RowOf w lo xs[k].2.2 l[k].2.2∧(xs[k].1=l[k].1∧xs[k].2.1=l[k].2.1)∧S xs[k].2.2.1)→xs.length=l.length→All2 (encWr.rd w S) css l
 | [],[],[],_,_,_=>trivial
 | [],_ :: _,_,h,_,_=>h.elim
 | _ :: _,[],_,h,_,_=>h.elim
 | [],[],_ :: _,_,_,h=>by cases h
 | _ :: _,_ :: _,[],_,_,h=>by cases h
 | cs :: css,x :: xs,y :: l,h,hk,hl=>by
   refine⟨?_,wb_all2 h.2 (fun k h1 h2=>hk (k+1) (by simpa using h1) (by simpa using h2)) (by simpa using hl)⟩
   obtain⟨k1,⟨k2,k3⟩,k4⟩:=hk 0 (by simp) (by simp)
   simp only [List.getElem_cons_zero] at k1 k2 k3 k4
   obtain⟨e1,⟨e2,e3⟩,e4,e5⟩:=h.1
   obtain⟨v,s,d⟩:=y
   obtain⟨v',s',g,n,c'⟩:=x
   simp only at k1 k2 k3 k4 e1 e2 e3 e4 e5
   subst k2 k3 e1
   have ht:=k1.ty
   simp only at ht
   obtain⟨_,_,t3,t4,t5,_⟩:=ht
   subst t3
   exact wr_mk (x:=(v',s',d)) e2 e3 t4 t5 (k1.rdS k4)
theorem WrsOwn.own (h:WrsOwn w lo A c xs l):Own encWr w lo 45 (fun g=>Nw lo w.heap.size g∧(Value.slice A l.length c).ownBlock≠some g) (.slice A l.length c) l:=by
 have hne:∀ (k:Nat) (h1:k<xs.length) (g:Nat),(Value.slice A l.length c).ownBlock=some g→xs[k].2.2.1≠g:=fun k h1 g hg=>h.outNe h1 (by rw [h.len];exact hg)
 obtain⟨⟨css,k1,k2,k3⟩,hl,hr,hh,ha⟩:=h
 rw [hl] at k1
 exact⟨css,k1,wb_all2 k2 (fun k h1 h2=>⟨hr k h1 h2,hh k h1 h2,⟨(hr k h1 h2).ty.1,(hr k h1 h2).ty.2.1⟩,fun e=>hne k h1 _ e rfl⟩) hl,fun g hg hS=>hS.2 hg⟩
theorem WrsOwn.parts (h:WrsOwn w lo A c xs l):l.length≤c∧c≤maxLen∧SlAt encWr w (Nw lo w.heap.size) A l:=by
 obtain⟨A',c',he,h1,h2,h3⟩:=h.own.reads (S':=Nw lo w.heap.size) (fun _ h=>h.1) (fun g hg=>h.own.lt g hg)
 simp only [List.cons.injEq,Value.slice.injEq,and_true] at he
 obtain⟨rfl,_,rfl⟩:=he
 exact⟨h1,h2,h3⟩
theorem WrsOwn.snoc {A':Option Addr} {c':Nat} {x:WB} {y:Wr} {w1:World} (h:WrsOwn w lo A c xs l) (hr:RowOf w lo x.2.2 y.2.2) (hh:x.1=y.1∧x.2.1=y.2.1) (hnew:∀ z∈xs,z.2.2.1<x.2.2.1)
  (hn:Own encWB w1 lo 45 (fun _=>False) (.slice A' (xs.length+1) c') (xs++[x])) (hg:w.grownBy w1 (Value.slice A xs.length c).ownBlock):WrsOwn w1 lo A' c' (xs++[x]) (l++[y]):=by
 have key:∀ y row,RowOf w lo y row→RowOf w1 lo y row:=fun y row hy=>hy.blk (hg.block _ hy.ty.2.1 (fun e=>by
  obtain⟨_,cs,fr,h1⟩:=h.outer.cellsOf y.1 e.symm
  obtain⟨cs',h2⟩:=hy.ty.2.2.2.2.2
  rw [h1] at h2
  injection h2 with h2
  injection h2 with _ h2 _
  exact absurd h2 (by decide)))
 refine⟨by simpa using hn,by simp [h.len],fun k h1 h2 => ?_,fun k h1 h2 => ?_, ?_⟩
 ·by_cases hk:k<xs.length
  ·rw [List.getElem_append_left hk,List.getElem_append_left (by rw [← h.len];exact hk)]
   exact key _ _ (h.rows k hk (by rw [← h.len];exact hk))
  ·have hke:k=xs.length:=by simp at h1;omega
   subst hke
   rw [List.getElem_append_right (Nat.le_refl _),List.getElem_append_right (by rw [h.len];exact Nat.le_refl _)]
   simp only [Nat.sub_self,List.getElem_cons_zero,h.len]
   exact key _ _ hr
 ·by_cases hk:k<xs.length
  ·rw [List.getElem_append_left hk,List.getElem_append_left (by rw [← h.len];exact hk)]
   exact h.heads k hk (by rw [← h.len];exact hk)
  ·have hke:k=xs.length:=by simp at h1;omega
   subst hke
   rw [List.getElem_append_right (Nat.le_refl _),List.getElem_append_right (by rw [h.len];exact Nat.le_refl _)]
   simp only [Nat.sub_self,List.getElem_cons_zero,h.len]
   exact hh
 ·rw [List.map_append,List.nodup_append]
  refine⟨h.apart,by simp,fun a ha b hb e => ?_⟩
  obtain⟨y,hy,rfl⟩:=List.mem_map.1 ha
  simp only [List.map_cons,List.map_nil,List.mem_singleton] at hb
  subst hb
  have:=hnew y hy
  omega
theorem WrsOwn.put {w1:World} {k:Nat} {row:List Sec} (h:WrsOwn w lo A c xs l) (hk:k<xs.length) (hk2:k<l.length) (hr:RowOf w1 lo xs[k].2.2 row) (hg:w.grownBy w1 (some xs[k].2.2.1)):WrsOwn w1 lo A c xs (l.set k (l[k].1,l[k].2.1,row)):=by
 refine⟨Own.blk h.outer (fun b hb => ?_),by simp [h.len],fun j h1 h2 => ?_,fun j h1 h2 => ?_,h.apart⟩
 ·rcases hb with hb | hb
  ·exact hb.elim
  ·refine hg.block b (h.outer.lt b hb).2 (fun e => ?_)
   injection e with e
   exact h.outNe hk hb e.symm
 ·rw [List.getElem_set]
  split
  ·rename_i e
   subst e
   exact hr
  ·rename_i e
   have h2':j<l.length:=by simpa using h2
   refine (h.rows j h1 h2').blk (hg.block _ (h.rows j h1 h2').ty.2.1 (fun e'=>e ?_))
   injection e' with e'
   exact (List.getElem_inj (i:=k) (j:=j) (h₀:=by simpa using hk) (h₁:=by simpa using h1) h.apart).1 (by simpa using e'.symm)
 ·rw [List.getElem_set]
  split
  ·rename_i e
   subst e
   exact h.heads k h1 hk2
  ·exact h.heads j h1 (by simpa using h2)
end
end Go.Proofs.YtgndgkjefgjamaaGreat
namespace Go.Proofs.YtgndgkjefgjamaaGreat
open Go.RowKit Go.Shelf
attribute [local go_sem] Oper.semAt_some

def SnRdE (s:Sns) (n:Int) (w:World) (e:Ending) (w':World):Prop :=
 ∃ B vc D dc,e = .returned (.tuple #[.agg #[.slice B s.1.length vc,.slice D s.2.length dc],.int .i64 n])∧(s.1.length≤vc∧vc≤maxLen∧SlAt (encSl encSec) w' (Nw w.heap.size w'.heap.size) B s.1)∧(s.2.length≤dc∧dc≤maxLen∧SlAt encSnp w' (Nw w.heap.size w'.heap.size) D s.2)∧Below w.heap.size w w'
theorem SnRetE.rd {s:Sns} {n:Int} {w:World} {e:Ending} {w':World} (h:SnRetE s n w e w'):SnRdE s n w e w':=by
 obtain⟨B,vc,D,dc,mid,he,hs,hb⟩:=h
 obtain⟨h1,h2⟩:=hs.read
 exact⟨B,vc,D,dc,he,h1,h2,hb⟩
theorem SlAt.set2 {α:Type} {E:Enc α} {w:World} {S:Nat→Prop} {A:Option Addr} {l:List α} (h:SlAt E w S A l) {b:Nat} (hne:∀ g,S g→g≠b) (u v:Value):SlAt E ((w.setCell ⟨b,0,none⟩ u).setCell ⟨b,1,none⟩ v) S A l :=
 h.blk (fun g hg=>(heap_setCell_other _ _ _ _ (hne g hg)).trans (heap_setCell_other _ _ _ _ (hne g hg)))
end Go.Proofs.YtgndgkjefgjamaaGreat
namespace Go.Proofs.YtgndgkjefgjamaaGreat
open Go.RowKit Go.Shelf
attribute [local go_sem] Oper.semAt_some

def st8 (w:World) (g k:Nat) (x0 x1 x2 x3 x4 x5 x6 x7:Int):World :=
 (((((((w.setCell ⟨g,k * 8,none⟩ (.int .u8 x0)).setCell ⟨g,k * 8+1,none⟩ (.int .u8 x1)).setCell ⟨g,k * 8+2,none⟩ (.int .u8 x2)).setCell ⟨g,k * 8+3,none⟩ (.int .u8 x3)).setCell ⟨g,k * 8+4,none⟩ (.int .u8 x4)).setCell ⟨g,k * 8+5,none⟩ (.int .u8 x5)).setCell ⟨g,k * 8+6,none⟩ (.int .u8 x6)).setCell ⟨g,k * 8+7,none⟩ (.int .u8 x7)
section
variable {w:World} {g k b:Nat} {x0 x1 x2 x3 x4 x5 x6 x7:Int}
theorem st8_other (h:b≠g):(st8 w g k x0 x1 x2 x3 x4 x5 x6 x7).heap[b]? = w.heap[b]? := by
 unfold st8
 exact (heap_setCell_other _ _ _ _ h).trans ((heap_setCell_other _ _ _ _ h).trans ((heap_setCell_other _ _ _ _ h).trans ((heap_setCell_other _ _ _ _ h).trans ((heap_setCell_other _ _ _ _ h).trans ((heap_setCell_other _ _ _ _ h).trans ((heap_setCell_other _ _ _ _ h).trans (heap_setCell_other _ _ _ _ h)))))))
theorem st8_size:(st8 w g k x0 x1 x2 x3 x4 x5 x6 x7).heap.size=w.heap.size:=by simp [st8,World.setCell]
theorem st8_same:(st8 w g k x0 x1 x2 x3 x4 x5 x6 x7).os=w.os∧(st8 w g k x0 x1 x2 x3 x4 x5 x6 x7).tape=w.tape∧(st8 w g k x0 x1 x2 x3 x4 x5 x6 x7).output=w.output:=by
 have h:Below 0 w (st8 w g k x0 x1 x2 x3 x4 x5 x6 x7):=by
  unfold st8
  exact ((((((((Below.refl 0 w).setCell (p:=⟨g,k * 8,none⟩) (Nat.zero_le _) _).setCell (p:=⟨g,k * 8+1,none⟩) (Nat.zero_le _) _).setCell (p:=⟨g,k * 8+2,none⟩) (Nat.zero_le _) _).setCell (p:=⟨g,k * 8+3,none⟩) (Nat.zero_le _) _).setCell (p:=⟨g,k * 8+4,none⟩) (Nat.zero_le _) _).setCell (p:=⟨g,k * 8+5,none⟩) (Nat.zero_le _) _).setCell (p:=⟨g,k * 8+6,none⟩) (Nat.zero_le _) _).setCell (p:=⟨g,k * 8+7,none⟩) (Nat.zero_le _) _
 exact⟨h.os,h.tape,h.output⟩
theorem st8_grown:w.grownBy (st8 w g k x0 x1 x2 x3 x4 x5 x6 x7) (some g) :=
 ⟨st8_same.1,st8_same.2.1,st8_same.2.2,by rw [st8_size];exact Nat.le_refl _,fun b _ hb=>st8_other (fun e=>hb (by rw [e]))⟩
theorem st8_below {lo:Nat} {w0:World} (h:Below lo w0 w) (hg:lo≤g):Below lo w0 (st8 w g k x0 x1 x2 x3 x4 x5 x6 x7) :=
 ⟨st8_same.1.trans h.os,st8_same.2.1.trans h.tape,st8_same.2.2.trans h.output,by rw [st8_size];exact h.size,fun b hb=>(st8_other (by omega)).trans (h.block b hb)⟩
end
theorem over_step {row news:List Sec} {s j:Nat} (h:s+news.length≤row.length) (hj:j<news.length):(over row s (news.take j)).set (s+j) news[j]=over row s (news.take (j+1)):=by
 unfold over
 rw [List.take_succ_eq_append_getElem hj]
 have h1:(row.take s++news.take j).length=s+j:=by simp;omega
 have h2:(news.take j).length=j:=by simp;omega
 have h3:(news.take j++[news[j]]).length=j+1:=by simp;omega
 rw [h2,h3]
 rw [List.set_append_right _ _ (by omega)]
 rw [h1,Nat.sub_self]
 rw [List.drop_eq_getElem_cons (by omega:s+j<row.length)]
 rw [List.set_cons_zero]
 have e:s+(j+1)=s+j+1:=by omega
 rw [e,List.append_assoc,List.append_assoc,List.append_assoc]
 rfl
set_option maxHeartbeats 1000000 in
theorem refFits07_any (A:Option Addr) (c n m:Nat) (im:Img) (v s:Int) (D:Option Addr) (dc:Nat) (data:List Sec) (r:Int) (w:World) (hn:im.length=n) (hm:data.length=m) (h1:SlAt (encSl encSec) w (Bl w.heap.size) A im) (hl:n≤1000000) (hd:m≤9223372036854775807) (hv:I64 v) (hs2:I64 s) (hz:sizesN (lens im)=0) (hr:fitsN (lens im) (v,s,data)=r) :
  Calls Tryz.prog 65 #[.slice A n c,.agg #[.int .i64 v,.int .i64 s,.slice D m dc]] w fun e w'=>e = .returned (.int .i64 r)∧Below w.heap.size w w':=by
 subst hn hm
 have H1:Hid (∀ w',Below w.heap.size w w'→SlAt (encSl encSec) w' (Bl w'.heap.size) A im):=fun w' hb=>h1.fwd hb
 obtain⟨W0,hW0⟩:∃ W0,w.alloc (.cells #[.int .i64 v,.int .i64 s,.slice D data.length dc] 45)=W0:=⟨_,rfl⟩
 have hB0:Below w.heap.size w W0:=by rw [← hW0];exact ext_alloc (Below.refl _ _)
 have hr0:W0.heap[w.heap.size]? = some (.cells #[.int .i64 v,.int .i64 s,.slice D data.length dc] 45 (0,0)):=by rw [← hW0];exact heap_alloc_new _ _
 have hs0:w.heap.size<W0.heap.size:=(Array.getElem?_eq_some_iff.1 hr0).1
 have HCK:=Lib.hid (refCheck07_any A c im.length im W0 rfl (H1.out W0 hB0) hl 0 hz)
 have HI:=Lib.hid (And.intro hv hs2)
 have HR:=Lib.hid hr
 clear h1 hv hs2 hr
 obtain⟨r0,r1,r2,_⟩:=blk3 hr0
 go_enter Tryz.func65,Tryz.ntmps65
 go_wp2_with fail
 refine HCK.out.mono ?_
 rintro e w1 ⟨rfl,hb1⟩
 have hbw1:Below w.heap.size w w1:=ext_trans hB0 hb1
 have hr1:=(hb1.block w.heap.size hs0).trans hr0
 clear HCK hW0 hr0 r0 r1 r2
 have hwl:w.heap.size<w1.heap.size:=(Array.getElem?_eq_some_iff.1 hr1).1
 have HCC:Hid (∀ W,Below w1.heap.size w1 W→W.cell? ⟨w.heap.size,0,none⟩=some (.int .i64 v)∧W.cell? ⟨w.heap.size,1,none⟩=some (.int .i64 s)∧W.cell? ⟨w.heap.size,2,none⟩=some (.slice D data.length dc)):=fun W hb=>by
  obtain⟨a,b,c,_⟩:=blk3 ((hb.block _ hwl).trans hr1)
  exact⟨a,b,c⟩
 have HSZ:=Lib.hid (refSizesOf_any A c im.length im w1.drew rfl (H1.out w1.drew hbw1.drew) hl)
 have hll:(lens im).length=im.length:=lens_len im
 have HFS:Hid (∀ W Z zc,SlAt encInt W (Nw w1.heap.size W.heap.size) Z (lens im)→Calls Tryz.prog 116 #[.slice Z im.length zc,.agg #[.int .i64 v,.int .i64 s,.slice D data.length dc]] W fun e w'=>e = .returned (.int .i64 r)∧Below W.heap.size W w'):=fun W Z zc hz=>by
  have h:=fits_any Z zc _ (lens im) v s D dc data W hz (by rw [hll];omega) (fun b hb=>hb.2) hd HI.out.1 HI.out.2
  rw [hll,HR.out] at h
  exact h
 have hc0:=HCC.out w1.drew (Below.refl _ _).drew
 go_upto_region 4 with (fail)
 go_region_held3 (fun W=>W.cell? ⟨w.heap.size,0,none⟩=some (.int .i64 v)∧W.cell? ⟨w.heap.size,1,none⟩=some (.int .i64 s)∧W.cell? ⟨w.heap.size,2,none⟩=some (.slice D data.length dc)) (first | exact hc0 | exact HCC.out _ hx3 | exact HCC.out _ hx2 | go_keep) (first | (go_at_call 116;refine (HFS.out w2 Z zc s3).mono ?_;rintro e w3 ⟨rfl,hb3⟩;have hx3:Below w1.heap.size w1 w3:=ext_trans hx2 hb3) | (go_at_call 60;refine HSZ.out.mono ?_;rintro e w2 ⟨Z,zc,rfl,s1,s2,s3,hb2⟩;have hx2:Below w1.heap.size w1 w2:=bUn hb2;rw [hll]))
 go_wp2_with fail
 go_ret
 exact⟨rfl,ext_trans hbw1 hx3⟩
theorem tyImageB:SliceTy Tryz.prog 23 43 encBlk.size 24:=sliceTy_mk (z := .slice none 0 0) Tryz.underlying23 (by kernel_rfl) rfl (by decide)
set_option maxHeartbeats 4000000 in
theorem refCopyOwn_any (A:Option Addr) (c n:Nat) (l:Img) (w:World) (hn:l.length=n) (h1:SlAt (encSl encSec) w (Bl w.heap.size) A l) (hl:n≤100000) (hne:∀ r∈l,0<r.length∧r.length≤1000000) :
  Calls Tryz.prog 126 #[.slice A n c] w fun e w'=>∃ B vc xs,e = .returned (.slice B n vc)∧ImgOwn w' w.heap.size B vc xs l∧Below w.heap.size w w':=by
 subst hn
 have H1:Hid (∀ w',Below w.heap.size w w'→SlAt (encSl encSec) w' (Bl w.heap.size) A l):=fun w' hb=>h1.below hb
 have HNE:=Lib.hid hne
 clear h1 hne
 obtain⟨n0,hn0⟩:∃ n0,w.heap.size=n0:=⟨_,rfl⟩
 go_enter Tryz.func126,Tryz.ntmps126
 go_wp2
 go_loopw [3,4] (fun v i wr=>∃ (k:Nat) (B:Option Addr) (vc:Nat) (xs:List (Nat × Nat × Nat)),k≤l.length∧i = .int .i64 k∧v = .slice B xs.length vc∧Below n0 w wr∧n0≤wr.heap.size∧Hid (xs.length=k)∧Hid (ImgOwn wr n0 B vc xs (l.take k))) (fun _ i _=>l.length - (intOf i).toNat)
 case atStart=>exact⟨0,none,0,[],by omega,rfl,rfl,Below.refl _ _,by omega,rfl,⟨Own.nil_,rfl,fun _ h=>by simp at h,List.nodup_nil⟩⟩
 case round =>
  obtain⟨wo,rfl⟩:∃ wo:World,wo=wr:=⟨_,rfl⟩
  obtain⟨k,B,vc,xs,hk,rfl,rfl,hB,hsz,hlen,hown⟩:=hrel
  by_cases hlt:k<l.length
  ·have hnn:(0:Int)≤k:=by omega
   have hki:(k:Int)<l.length:=by omega
   obtain⟨b,off,D,dc,rfl,hb,g0,hD,hd1,hd2⟩:=(H1.out wo (by rw [hn0];exact hB)).sl hlt
   obtain⟨hp1,hp2⟩:=HNE.out l[k] (List.getElem_mem hlt)
   have hst:Hid (l.take (k+1)=l.take k++[l[k]]):=List.take_succ_eq_append_getElem hlt
   obtain⟨row,hrw⟩:∃ x,l[k]=x:=⟨_,rfl⟩
   rw [hrw] at g0 hD hd1 hp1 hp2 hst
   have HD:=Lib.hid (hD.more (S':=fun g=>g<wo.heap.size) (fun g hg=>by have:g<w.heap.size:=hg;omega))
   have hol:xs.length≤100000:=by rw [hlen.out];omega
   clear hrw hD
   go_wp2_with (at_builtin;refine Hid.out ?_)
   change wpList _ _ _ _ _ _
   refine wpList_appAll (E:=encSec) tySecs36 rfl _ _ rfl rfl (Own.nil_ (w:=wo) (base:=wo.heap.size) (e:=95) (S:=fun g=>g<wo.heap.size)) (news:=row) rfl rfl HD.out (fun _ h=>h) (Nat.le_refl _) (by unfold maxLen;simp;omega) (by simp;omega) ?_
   intro A4 c4 w4 hown4 hg4 hat4
   have hown4':Own encSec w4 wo.heap.size 95 (fun g=>g<wo.heap.size) (.slice A4 row.length c4) row:=by simpa using hown4
   have hg4':wo.grownBy w4 none:=hg4
   have hx4:Below wo.heap.size wo w4:=(Below.refl _ _).grown hg4' (Nat.le_refl _) (fun k e=>by cases e)
   have hfl:=Own.flat hown4' (fun h=>h)
   obtain⟨g,_,rfl,_⟩:=hfl.elem (i:=0) (by omega)
   have hr4:Hid (RowOf w4 wo.heap.size (g,row.length,c4) row):=hfl
   have hgn:wo.heap.size≤g:=hr4.out.ty.1
   have hz4:=hx4.size
   have HO2:=Lib.hid (hown.out.below (hx4.trans (ext_alloc (o := .cells #[.slice (some ⟨g,0,none⟩) row.length c4] 43) (Below.refl w4.heap.size w4) |>.mono hz4)))
   have HRD:Hid (encBlk.rd (w4.alloc (.cells #[.slice (some ⟨g,0,none⟩) row.length c4] 43)) (fun _=>False) [.slice (some ⟨g,0,none⟩) row.length c4] (g,row.length,c4)):=⟨rfl,hr4.out.ty.2.2.2.1,hr4.out.ty.2.2.2.2.1⟩
   clear hown4 hg4 hat4 hown4' hg4' hfl
   simp only [List.length_nil,Nat.zero_add]
   go_wp2_with (at_builtin;refine Hid.out ?_)
   change wpList _ _ _ _ _ _
   refine wpList_app1 (E:=encBlk) tyImageB rfl _ _ rfl rfl HO2.out.outer (g,row.length,c4) _ rfl HRD.out (heap_alloc_new _ _) (fun _ h=>h.elim) (by simp;omega) (by unfold maxLen;omega) (by omega) ?_
   intro A5 c5 w5 hown5 hg5 hat5
   have hfin:Hid (ImgOwn w5 n0 A5 c5 (xs++[(g,row.length,c4)]) (l.take (k+1))):=by
    rw [Hid,hst.out]
    refine HO2.out.snoc (x:=(g,row.length,c4)) ((hr4.out.base hsz).blk ((Below.heap_alloc _ _ _ hr4.out.ty.2.1))) (fun y hy => ?_) hown5 hg5
    obtain⟨j,hj,rfl⟩:=List.mem_iff_getElem.1 hy
    have:=(hown.out.rows j hj (by rw [← hown.out.len];exact hj)).ty.2.1
    simp only
    omega
   have hz5:=hg5.size
   have hB5:Below n0 w w5:=(((hB.trans (hx4.mono hsz))).alloc (by omega) (.cells #[.slice (some ⟨g,0,none⟩) row.length c4] 43)).grown hg5 (by simp;omega) (fun b h=>(hown.out.outer.lt b h).1)
   have hz6:n0≤w5.heap.size:=by simp at hz5;omega
   clear hown5 hg5 hat5 HO2 HRD hz5
   go_wp2
   go_roundw
   case rel=>exact⟨k+1,A5,c5,xs++[(g,row.length,c4)],hlt,by go_num,by simp,hB5,hz6,by rw [Hid,List.length_append,hlen.out];rfl,hfin.out⟩
   case measure=>simp [intOf];omega
  ·have hkk:k=l.length:=by omega
   subst hkk
   have ho:=hown.out
   rw [List.take_length] at ho
   have HO:=Lib.hid ho
   clear ho
   go_wp2
   go_ret
   exact⟨B,vc,xs,by show Ending.returned (.slice B xs.length vc)=Ending.returned (.slice B l.length vc);rw [HO.out.len],by rw [hn0];exact HO.out,by rw [hn0];exact hB⟩
end Go.Proofs.YtgndgkjefgjamaaGreat

namespace Go.Proofs.YtgndgkjefgjamaaGreat
open Go.RowKit Go.Shelf
attribute [local go_sem] Oper.semAt_some

set_option maxHeartbeats 8000000 in
set_option maxRecDepth 100000 in
theorem refApply07_any (A A2:Option Addr) (c c2 n m:Nat) (im:Img) (l:List Wr) (w:World) (hn:im.length=n) (hm:l.length=m) (h1:SlAt (encSl encSec) w (Bl w.heap.size) A im) (hl:n≤100000) (h2:SlAt encWr w (Bl w.heap.size) A2 l) (hl2:m≤9223372036854775807) :
  Calls Tryz.prog 70 #[.slice A n c,.slice A2 m c2] w (ApplyRet (applyL im l) (applyErr im l) w):=by
 subst hn hm
 have H1:=Lib.hid h1
 have H2:Hid (∀ w',Below w.heap.size w w'→SlAt encWr w' (Bl w.heap.size) A2 l):=fun w' hb=>h2.below hb
 clear h1 h2
 obtain⟨es,hes⟩:∃ es,Hid (sizesN (lens im)=es):=⟨_,Lib.hid rfl⟩
 have HC:=Lib.hid (refCheck07_any A c im.length im w rfl H1.out (by omega) es hes.out)
 go_enter Tryz.func70,Tryz.ntmps70
 go_wp2_with fail
 refine HC.out.mono ?_
 rintro e w1 ⟨rfl,hb1⟩
 clear HC
 by_cases he:es=0
 case neg =>
  have he1:(es != 0)=true:=by simp [he]
  have hap:Hid (applyErr im l=es∧applyL im l=[]):=by
   have e1:applyErr im l=es:=by unfold applyErr;rw [if_pos (by rw [hes.out];exact he),hes.out]
   exact⟨e1,by unfold applyL;rw [e1,if_neg he]⟩
  clear he
  go_wp2
  go_ret3
  rw [hap.out.1,hap.out.2]
  exact ApplyRet.no hb1
 have he1:(es != 0)=false:=by simp [he]
 have HE:Hid (sizesN (lens im)=0):=by rw [Hid,hes.out,he]
 clear he hes
 have hrg:=Lib.hid (sizes_range HE.out)
 have hne:Hid (∀ r∈im,0<r.length∧r.length≤1000000):=fun r hr=>by
  have:=hrg.out.2 (lenI r) (List.mem_map.2 ⟨r,hr,rfl⟩)
  unfold lenI at this
  omega
 have hcp:=Lib.hid (refCopyOwn_any A c im.length im w1 rfl (H1.out.fwd hb1) (by omega) hne.out)
 go_wp2_with fail
 refine hcp.out.mono ?_
 rintro e w2 ⟨B,vc,xs,rfl,ho2,hb2⟩
 have HO2:=Lib.hid ho2;clear ho2 hcp
 have hB2:Below w.heap.size w w2:=ext_trans hb1 hb2
 have hsz1:=hb1.size
 have hxl:Hid (xs.length=im.length):=HO2.out.len
 go_wp2_with fail
 go_loopw [9] (fun i wr=>∃ k:Nat,k≤l.length∧i = .int .i64 k∧Below w1.heap.size w1 wr∧Hid (∀ x∈l.take k,fitsN (lens im) x=0)∧Hid (ImgOwn wr w1.heap.size B vc xs (putAll im (l.take k)))) (fun i _=>l.length - (intOf i).toNat)
 case atStart=>exact⟨0,by omega,rfl,hb2,by simp [Hid],HO2.out⟩
 case round =>
  obtain⟨wo,rfl⟩:∃ wo:World,wo=wr:=⟨_,rfl⟩
  obtain⟨k,hk,rfl,hBo,hz,hown⟩:=hrel
  have hB:Below w.heap.size w wo:=ext_trans hb1 hBo
  obtain⟨jm,hjm⟩:∃ jm,Hid (jm=putAll im (l.take k)):=⟨_,Lib.hid rfl⟩
  rw [← hjm.out] at hown
  have hjl:Hid (jm.length=im.length):=by rw [Hid,hjm.out];exact putAll_length _ _
  have hjn:Hid (lens jm=lens im):=by rw [Hid,hjm.out];exact putAll_lens hz.out
  by_cases hlt:k<l.length
  ·obtain⟨b,off,D,dc,rfl,hb,e0,e1,e2,hD,hn1,hn2,hi1,hi2⟩:=(H2.out wo hB).wr hlt
   have hbl:b<w.heap.size:=hb
   have hnn:(0:Int)≤k:=by omega
   have hki:(k:Int)<l.length:=by omega
   have hsz:=hB.size
   unfold maxLen at hn2
   obtain⟨y,hy⟩:∃ y,Hid (y=l[k]'hlt):=⟨_,Lib.hid rfl⟩
   rw [← hy.out] at e0 e1 e2 hn1 hi1 hi2 hD
   obtain⟨v,s,data⟩:=y
   simp only at e0 e1 e2 hn1 hi1 hi2 hD
   have HD:=Lib.hid hD;clear hD
   obtain⟨pn,hpn⟩:∃ pn,Hid (fitsN (lens im) (v,s,data)=pn):=⟨_,Lib.hid rfl⟩
   have hfx:=Lib.hid (refFits07_any A c im.length data.length im v s D dc data pn wo rfl rfl (H1.out.fwd hB) (by omega) (by omega) hi1 hi2 HE.out hpn.out)
   go_wp2_with fail
   refine hfx.out.mono ?_
   rintro e w3 ⟨rfl,hb3⟩
   have hw3:Below w.heap.size w w3:=ext_trans hB hb3
   have E0:=(hb3.cell (p:=⟨b,off+k * 3,none⟩) (by show b<wo.heap.size;omega)).trans e0
   have E1:=(hb3.cell (p:=⟨b,off+k * 3+1,none⟩) (by show b<wo.heap.size;omega)).trans e1
   have E2:=(hb3.cell (p:=⟨b,off+k * 3+2,none⟩) (by show b<wo.heap.size;omega)).trans e2
   clear e0 e1 e2 hfx
   by_cases hp0:pn=0
   ·have hp1:(pn != 0)=false:=by simp [hp0]
    have HP:=Lib.hid hp0;clear hp0
    have hfit:=hpn.out.trans HP.out
    have hzs:Hid (∀ x∈l.take (k+1),fitsN (lens im) x=0):=by
     intro x hx
     rw [List.take_succ_eq_append_getElem hlt] at hx
     rcases List.mem_append.1 hx with hx | hx
     ·exact hz.out x hx
     ·rw [List.mem_singleton.1 hx, ← hy.out];exact hfit
    rw [← hjn.out] at hfit
    obtain⟨kv,sv,ev,es2,hkv,hdp,hsv⟩:=fits_img hfit
    simp only at ev es2 hdp hsv
    subst ev es2
    have HO3:=Lib.hid (hown.out.below hb3)
    have hxk:kv<xs.length:=by rw [HO3.out.len];exact hkv
    obtain⟨x,hx⟩:∃ x,Hid (x=xs[kv]'hxk):=⟨_,Lib.hid rfl⟩
    obtain⟨row,hrow⟩:∃ r,Hid (r=jm[kv]'hkv):=⟨_,Lib.hid rfl⟩
    have hgd:jm.getD kv []=row:=by rw [hrow.out,List.getD_eq_getElem?_getD,List.getElem?_eq_getElem hkv];rfl
    rw [hgd] at hsv
    have HGD:=Lib.hid hgd;clear hgd
    have hrow0:=HO3.out.rows kv hxk hkv
    rw [← hx.out, ← hrow.out] at hrow0
    obtain⟨rb,rn,rc⟩:=x
    have hty:=hrow0.ty
    simp only at hty
    obtain⟨y1,y2,y3,y4,y5,_⟩:=hty
    subst y3
    have HROW:=Lib.hid hrow0;clear hrow0
    have hOut:Hid (∀ W,ImgOwn W w1.heap.size B vc xs (jm.set kv (over row sv (data.take 0)))→True):=fun _ _=>trivial
    clear hOut
    have hov0:Hid (jm.set kv (over row sv (data.take 0))=jm):=by
     have e1:over row sv (data.take 0)=row:=by simp [over]
     rw [Hid,e1,hrow.out,List.set_getElem_self]
    have hkvi:(kv:Int)<im.length:=by have:=hjl.out;omega
    have hkv0:(0:Int)≤kv:=by omega
    have hdn:data.length≤row.length:=by omega
    have hB13:Below w1.heap.size w1 w3:=ext_trans hBo hb3
    have HEE:Hid (∀ W,Below w1.heap.size w1 W→W.cell? ⟨b,off+k * 3,none⟩=some (.int .i64 kv)∧W.cell? ⟨b,off+k * 3+1,none⟩=some (.int .i64 sv)∧W.cell? ⟨b,off+k * 3+2,none⟩=some (.slice D data.length dc)):=fun W hb=>by
     have hk:W.heap[b]? = w3.heap[b]? := (hb.block b (by omega)).trans (hB13.block b (by omega)).symm
     exact⟨(World.cell?_of_block (a:=⟨b,off+k * 3,none⟩) hk).trans E0,(World.cell?_of_block (a:=⟨b,off+k * 3+1,none⟩) hk).trans E1,(World.cell?_of_block (a:=⟨b,off+k * 3+2,none⟩) hk).trans E2⟩
    have HDW:Hid (∀ W,Below w1.heap.size w1 W→SlAt encSec W (Bl w.heap.size) D data):=fun W hb=>HD.out.blk (fun g hg=>(hb.block g (by have:g<w.heap.size:=hg;omega)).trans (hBo.block g (by have:g<w.heap.size:=hg;omega)).symm)
    have hrl:(row.length:Int)≤4096:=by
     have:=(hrg.out.2 (lenI row) (by rw [← hjn.out];exact List.mem_map.2 ⟨row,by rw [hrow.out];exact List.getElem_mem hkv,rfl⟩)).2
     exact this
    go_wp2_with fail
    clear E0 E1 E2
    go_loopw [11] (fun jj W=>∃ j:Nat,j≤data.length∧jj = .int .i64 j∧Below w1.heap.size w1 W∧Hid (ImgOwn W w1.heap.size B vc xs (jm.set kv (over row sv (data.take j))))) (fun jj _=>data.length - (intOf jj).toNat)
    case atStart=>exact⟨0,by omega,rfl,hB13,by rw [Hid,hov0.out];exact HO3.out⟩
    case round =>
     obtain⟨W,rfl⟩:∃ W:World,W=wr:=⟨_,rfl⟩
     obtain⟨j,hj,rfl,hBW,hownW⟩:=hrel
     obtain⟨e0,e1,e2⟩:=HEE.out W hBW
     have hbW:Below w.heap.size w W:=ext_trans hb1 hBW
     by_cases hjlt:j<data.length
     ·obtain⟨b2,off2,x0,x1,x2,x3,x4,x5,x6,x7,rfl,hb2',hxe,hok,z0,z1,z2,z3,z4,z5,z6,z7⟩:=(HDW.out W hBW).sec hjlt
      rw [hxe] at hok
      have hHo:=hownW.out
      obtain⟨g,cs,hBg,hgl1,hgl,_,hcell,_,hrd⟩:=hHo.outer.elem hxk
      subst hBg
      rw [← hx.out] at hrd
      obtain⟨rfl,_,_⟩:=hrd
      have hc0:=hcell 0 _ rfl
      simp only [encBlk,Nat.mul_one,Nat.add_zero] at hc0
      have hlen:(over row sv (data.take j)).length=row.length:=over_len (by simp;omega)
      have hrow1:=hHo.rows kv hxk (by rw [List.length_set];exact hkv)
      rw [← hx.out,List.getElem_set_self] at hrow1
      have hsj:sv+j<row.length:=by omega
      have hsji:(sv:Int)+j<row.length:=by omega
      have hsj0:(0:Int)≤(sv:Int)+j:=by omega
      have hj0:(0:Int)≤j:=by omega
      have hjd:(j:Int)<data.length:=by omega
      obtain⟨hc8,hfz⟩:=Own.cellSec hrow1 hlen (k:=sv+j) (by rw [hlen];exact hsj)
      obtain⟨u0,d0⟩:=hc8 0 (by omega)
      obtain⟨u1,d1⟩:=hc8 1 (by omega)
      obtain⟨u2,d2⟩:=hc8 2 (by omega)
      obtain⟨u3,d3⟩:=hc8 3 (by omega)
      obtain⟨u4,d4⟩:=hc8 4 (by omega)
      obtain⟨u5,d5⟩:=hc8 5 (by omega)
      obtain⟨u6,d6⟩:=hc8 6 (by omega)
      obtain⟨u7,d7⟩:=hc8 7 (by omega)
      simp only [Nat.add_zero] at d0
      have hst:=Own.setSec hrow1 hlen (k:=sv+j) (by rw [hlen];exact hsj) hok
      have hST:Hid (RowOf (st8 W rb (sv+j) x0 x1 x2 x3 x4 x5 x6 x7) w1.heap.size (rb,row.length,rc) (over row sv (data.take (j+1)))):=by
       rw [Hid, ← over_step (row:=row) (news:=data) (s:=sv) (by omega) hjlt,hxe]
       exact hst
      have hfin:Hid (ImgOwn (st8 W rb (sv+j) x0 x1 x2 x3 x4 x5 x6 x7) w1.heap.size (some ⟨g,0,none⟩) vc xs (jm.set kv (over row sv (data.take (j+1))))):=by
       have h4:=hHo.put (w1:=st8 W rb (sv+j) x0 x1 x2 x3 x4 x5 x6 x7) (row:=over row sv (data.take (j+1))) hxk (by rw [← hx.out];exact hST.out) (by rw [← hx.out];exact st8_grown)
       rw [List.set_set] at h4
       exact h4
      clear hst hc8 hHo hcell hrow1 hST hlen
      go_upto_region 14 with (fail)
      go_region
      obtain⟨W5,hW5⟩:∃ W5,st8 W rb (sv+j) x0 x1 x2 x3 x4 x5 x6 x7=W5:=⟨_,rfl⟩
      have hB5:Below w1.heap.size w1 W5:=by rw [← hW5];exact st8_below hBW y1
      rw [hW5] at hfin
      have hW6:=hW5
      unfold st8 at hW6
      rw [hW6]
      clear hW5 hW6 d0 d1 d2 d3 d4 d5 d6 d7 z0 z1 z2 z3 z4 z5 z6 z7 e0 e1 e2 hc0 hfz
      go_wp2
      go_roundw
      case rel=>exact⟨j+1,hjlt,by go_num,hB5.drew,hfin.out.below (Below.refl _ _).drew⟩
      case measure=>simp [intOf];omega
     ·have hjj:j=data.length:=by omega
      subst hjj
      have hput:Hid (ImgOwn W w1.heap.size B vc xs (putAll im (l.take (k+1)))):=by
       have h:=hownW.out
       rw [List.take_length] at h
       rw [Hid,List.take_succ_eq_append_getElem hlt,putAll_snoc, ← hjm.out, ← hy.out]
       unfold putW
       simp only [Int.toNat_natCast]
       rw [HGD.out]
       exact h
      go_wp2_with fail
      go_roundw
      case rel=>exact⟨k+1,hlt,by go_num,hBW,hzs.out,hput.out⟩
      case measure=>simp [intOf];omega
   ·have hp1:(pn != 0)=true:=by simp [hp0]
    have HP:=Lib.hid hp0;clear hp0
    have herr:Hid (errOf (fitsN (lens im)) l=pn):=by
     rw [Hid, ← hpn.out]
     have h2:=errOf_at hlt hz.out (by rw [← hy.out,hpn.out];exact HP.out)
     rw [h2, ← hy.out]
    have hap:Hid (applyErr im l=pn∧applyL im l=[]):=by
     have e1:applyErr im l=pn:=by unfold applyErr;rw [if_neg (by rw [HE.out];simp),herr.out]
     exact⟨e1,by unfold applyL;rw [e1,if_neg HP.out]⟩
    go_wp2
    go_ret3
    rw [hap.out.1,hap.out.2]
    exact ApplyRet.no hw3
  ·have hkk:k=l.length:=by omega
   subst hkk
   have hz0:=hz.out
   rw [List.take_length] at hz0
   have hap:Hid (applyErr im l=0∧applyL im l=jm):=by
    have e1:applyErr im l=0:=by unfold applyErr;rw [if_neg (by rw [HE.out];simp),errOf_zero hz0]
    exact⟨e1,by unfold applyL;rw [e1,if_pos rfl,hjm.out,List.take_length]⟩
   obtain⟨p1,p2⟩:=hown.out.parts
   have HRD:=Lib.hid hown.out.reads
   have HXL:Hid (xs.length=jm.length):=hown.out.len
   clear hz0
   go_wp2
   go_ret3
   rw [hap.out.1,hap.out.2]
   exact⟨B,vc,0,by show Ending.returned (.tuple #[.slice B im.length vc,.int .i64 0,.int .i64 0])=Ending.returned (.tuple #[.slice B jm.length vc,.int .i64 0,.int .i64 0]);rw [hjl.out],p1,p2,HRD.out.more (fun g hg=>⟨by have:=hg.1;omega,hg.2⟩),hB⟩
end Go.Proofs.YtgndgkjefgjamaaGreat

namespace Go.Proofs.YtgndgkjefgjamaaGreat
open Go.RowKit Go.Shelf
attribute [local go_sem] Oper.semAt_some

end Go.Proofs.YtgndgkjefgjamaaGreat

namespace Go.Proofs.YtgndgkjefgjamaaGreat
open Go.RowKit Go.Shelf
attribute [local go_sem] Oper.semAt_some

end Go.Proofs.YtgndgkjefgjamaaGreat

namespace Go.Proofs.YtgndgkjefgjamaaGreat
open Go.RowKit Go.Shelf
attribute [local go_sem] Oper.semAt_some

theorem atL_step {im:Img} {l:List Snp} {k:Nat} (hk:k<l.length):atL im (l.drop k)=putAll (atL im (l.drop (k+1))) l[k].2.2:=by
 unfold atL
 rw [List.drop_eq_getElem_cons hk,List.reverse_cons,List.foldl_append];rfl
theorem atL_lens {im:Img}:∀ {l:List Snp},(∀ x∈l,∀ y∈x.2.2,fitsN (lens im) y=0)→lens (atL im l)=lens im
 | [],_=>rfl
 | x :: l,h=>by
   have h1:atL im (x :: l)=putAll (atL im l) x.2.2:=atL_step (l:=x :: l) (k:=0) (by simp)
   have h2:=atL_lens (l:=l) (fun y hy=>h y (List.mem_cons_of_mem _ hy))
   rw [h1,putAll_lens (by rw [h2];exact h x (List.mem_cons_self)),h2]
theorem applyL_ok {im:Img} {l:List Wr} (hz:sizesN (lens im)=0) (hf:∀ x∈l,fitsN (lens im) x=0):applyErr im l=0∧applyL im l=putAll im l:=by
 have e1:applyErr im l=0:=by unfold applyErr;rw [if_neg (by rw [hz];simp),errOf_zero hf]
 exact⟨e1,by unfold applyL;rw [e1,if_pos rfl]⟩

end Go.Proofs.YtgndgkjefgjamaaGreat

namespace Go.Proofs.YtgndgkjefgjamaaGreat
open Go.RowKit Go.Shelf
attribute [local go_sem] Oper.semAt_some

theorem WrsOwn.sl {w:World} {lo:Nat} {B:Option Addr} {vc:Nat} {xs:List WB} {l:List Wr} (h:WrsOwn w lo B vc xs l):SlAt encWr w (Bl w.heap.size) B l:=by
 have hl:=h.own.lt
 obtain⟨A',c',he,k1,k2,k3⟩:=h.own.reads (S':=Bl w.heap.size) (fun g hg=>hg.1.2) (fun g hg=>(hl g hg).2)
 simp only [List.cons.injEq,Value.slice.injEq,and_true] at he
 obtain⟨rfl,_,rfl⟩:=he
 exact k3
end Go.Proofs.YtgndgkjefgjamaaGreat

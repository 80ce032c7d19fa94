/-
  Images that a call owns: Clone of a row, copied.; Plain words: snapshots of an image. No program in sight.
-/
import Derived.RegionTactic
import Derived.BigRegion
import Derived.Deep.RegionLaw
import Derived.BigQuiet
import Derived.Test.YtgndgkjefgjamaaGreatV01
import Derived.Test.YtgndgkjefgjamaaGreatV02
import Derived.Test.YtgndgkjefgjamaaGreatV03
import Derived.Test.YtgndgkjefgjamaaGreatV04
set_option linter.unusedVariables false
set_option linter.unusedSimpArgs false
set_option linter.unusedSectionVars false
set_option linter.unnecessarySimpa false
namespace Go.Proofs.YtgndgkjefgjamaaGreat
open Go.RowKit

def encBlk:Enc (Nat × Nat × Nat) where
 size:=1
 rd _ _ cs x:=cs=[.slice (some ⟨x.1,0,none⟩) x.2.1 x.2.2]∧x.2.1≤x.2.2∧x.2.2≤maxLen
 len h:=by rw [h.1];rfl
 one h:=by rw [h.1];simp [Value.oneCell']
 keep h _ _:=h
def RowOf (w:World) (lo:Nat) (x:Nat × Nat × Nat) (row:List Sec):Prop:=Own encSec w lo 95 (fun _=>False) (.slice (some ⟨x.1,0,none⟩) x.2.1 x.2.2) row
theorem RowOf.ty {w:World} {lo:Nat} {x:Nat × Nat × Nat} {row:List Sec} (h:RowOf w lo x row):lo≤x.1∧x.1<w.heap.size∧x.2.1=row.length∧row.length≤x.2.2∧x.2.2≤maxLen∧∃ cs,w.heap[x.1]? = some (.cells cs 95 (0,0)):=by
 obtain⟨css,h1,_⟩:=h
 rcases h1.2 with ⟨he,_⟩ | ⟨g,cap,cur,he,hb,hh,hnc,hcm,_⟩
 ·cases he
 ·injection he with e1 e2 e3
  injection e1 with e1
  injection e1 with e1
  exact⟨by omega,by rw [e1];exact (Array.getElem?_eq_some_iff.1 hh).1,e2,by omega,by omega,cur,by rw [e1];exact hh⟩
theorem RowOf.blk {w w':World} {lo:Nat} {x:Nat × Nat × Nat} {row:List Sec} (h:RowOf w lo x row) (hk:w'.heap[x.1]? = w.heap[x.1]?):RowOf w' lo x row :=
 Own.blk h (fun b hb=>by
  rcases hb with hb | hb
  ·exact hb.elim
  ·have:x.1=b:=by simpa [Value.ownBlock] using hb
   rw [← this];exact hk)
theorem RowOf.base {w:World} {lo lo':Nat} {x:Nat × Nat × Nat} {row:List Sec} (h:RowOf w lo x row) (hl:lo'≤lo):RowOf w lo' x row:=by
 obtain⟨css,⟨h1,h2⟩,h3,h4⟩:=h
 refine⟨css,⟨h1, ?_⟩,h3,h4⟩
 rcases h2 with h2 | ⟨g,cap,cur,he,hb,r⟩
 ·exact Or.inl h2
 ·exact Or.inr ⟨g,cap,cur,he,Nat.le_trans hl hb,r⟩
theorem RowOf.rd {w:World} {lo:Nat} {x:Nat × Nat × Nat} {row:List Sec} (h:RowOf w lo x row):SlAt encSec w (Nw lo w.heap.size) (some ⟨x.1,0,none⟩) row:=by
 obtain⟨A',c',he,_,_,h3⟩:=Own.rd h (fun _ h=>h.elim)
 simp only [List.cons.injEq,Value.slice.injEq,and_true] at he
 obtain⟨rfl,_,_⟩:=he
 exact h3
structure ImgOwn (w:World) (lo:Nat) (A:Option Addr) (c:Nat) (xs:List (Nat × Nat × Nat)) (im:List (List Sec)):Prop where
 outer:Own encBlk w lo 43 (fun _=>False) (.slice A xs.length c) xs
 len:xs.length=im.length
 rows:∀ (k:Nat) (h1:k<xs.length) (h2:k<im.length),RowOf w lo xs[k] im[k]
 apart:(xs.map (·.1)).Nodup
section
variable {w w':World} {lo:Nat} {A:Option Addr} {c:Nat} {xs:List (Nat × Nat × Nat)} {im:List (List Sec)}
theorem ImgOwn.nil_ {cur:Array Value} {cap:Nat} (hb:lo≤w.heap.size) (hm:cap≤maxLen) (hs:cur.size=cap):ImgOwn (w.alloc (.cells cur 43)) lo (some ⟨w.heap.size,0,none⟩) cap [] [] :=
 ⟨Own.make0 hb hm (by simpa [encBlk] using hs) (fun h=>h),rfl,fun _ h=>by simp at h,List.nodup_nil⟩
theorem ImgOwn.below (h:ImgOwn w lo A c xs im) (hb:Below w.heap.size w w'):ImgOwn w' lo A c xs im :=
 ⟨Own.below h.outer hb (fun _ h=>h.elim),h.len,fun k h1 h2=>(h.rows k h1 h2).blk (hb.block _ (h.rows k h1 h2).ty.2.1),h.apart⟩
theorem ImgOwn.reads (h:ImgOwn w lo A c xs im):SlAt (encSl encSec) w (Nw lo w.heap.size) A im:=fun hn=>by
 obtain⟨A',c',he,_,_,h3⟩:=Own.rd h.outer (fun _ h=>h.elim)
 simp only [List.cons.injEq,Value.slice.injEq,and_true] at he
 obtain⟨rfl,_,_⟩:=he
 have hx:xs≠[]:=fun e=>hn (List.eq_nil_of_length_eq_zero (by rw [← h.len,e];rfl))
 obtain⟨b,off,e,hb,hc⟩:=h3 hx
 refine⟨b,off,e,hb,fun i row hi => ?_⟩
 have hi2:=(List.getElem?_eq_some_iff.1 hi).1
 have hi1:i<xs.length:=by rw [h.len];exact hi2
 obtain⟨cs,k1,rfl,k3,k4⟩:=hc i xs[i] (List.getElem?_eq_getElem hi1)
 have hr:=h.rows i hi1 hi2
 have hrow:im[i]=row:=(List.getElem?_eq_some_iff.1 hi).2
 rw [hrow] at hr
 refine⟨_,k1,some ⟨xs[i].1,0,none⟩,xs[i].2.2, ?_,hr.ty.2.2.2.1,k4,hr.rd⟩
 rw [hr.ty.2.2.1]
theorem ImgOwn.parts (h:ImgOwn w lo A c xs im):im.length≤c∧c≤maxLen:=by
 obtain⟨A',c',he,h1,h2,_⟩:=Own.rd h.outer (fun _ h=>h.elim)
 simp only [List.cons.injEq,Value.slice.injEq,and_true] at he
 obtain⟨_,_,rfl⟩:=he
 rw [← h.len]
 exact⟨h1,h2⟩
theorem ImgOwn.snoc {A':Option Addr} {c':Nat} {x:Nat × Nat × Nat} {row:List Sec} {w1:World} (h:ImgOwn w lo A c xs im) (hr:RowOf w lo x row) (hnew:∀ y∈xs,y.1<x.1)
  (hn:Own encBlk w1 lo 43 (fun _=>False) (.slice A' (xs.length+1) c') (xs++[x])) (hg:w.grownBy w1 (Value.slice A xs.length c).ownBlock):ImgOwn w1 lo A' c' (xs++[x]) (im++[row]):=by
 have key:∀ y row,RowOf w lo y row→RowOf w1 lo y row:=fun y row hy=>hy.blk (hg.block _ hy.ty.2.1 (fun e=>by
  obtain⟨_,cs,fr,h1⟩:=h.outer.cellsOf y.1 e.symm
  obtain⟨cs',h2⟩:=hy.ty.2.2.2.2.2
  rw [h1] at h2
  injection h2 with h2
  injection h2 with _ h2 _
  exact absurd h2 (by decide)))
 refine⟨by simpa using hn,by simp [h.len],fun k h1 h2 => ?_, ?_⟩
 ·by_cases hk:k<xs.length
  ·rw [List.getElem_append_left hk,List.getElem_append_left (by rw [← h.len];exact hk)]
   exact key _ _ (h.rows k hk (by rw [← h.len];exact hk))
  ·have hke:k=xs.length:=by simp at h1;omega
   subst hke
   rw [List.getElem_append_right (Nat.le_refl _),List.getElem_append_right (by rw [h.len];exact Nat.le_refl _)]
   simp only [Nat.sub_self,List.getElem_cons_zero,h.len]
   exact key _ _ hr
 ·rw [List.map_append,List.nodup_append]
  refine⟨h.apart,by simp,fun a ha b hb e => ?_⟩
  obtain⟨y,hy,rfl⟩:=List.mem_map.1 ha
  simp only [List.map_cons,List.map_nil,List.mem_singleton] at hb
  subst hb
  have:=hnew y hy
  omega
theorem ImgOwn.put {w1:World} {k:Nat} {row:List Sec} (h:ImgOwn w lo A c xs im) (hk:k<xs.length) (hr:RowOf w1 lo xs[k] row) (hg:w.grownBy w1 (some xs[k].1)):ImgOwn w1 lo A c xs (im.set k row):=by
 refine⟨Own.blk h.outer (fun b hb => ?_),by simp [h.len],fun j h1 h2 => ?_,h.apart⟩
 ·rcases hb with hb | hb
  ·exact hb.elim
  ·refine hg.block b (h.outer.lt b hb).2 (fun e => ?_)
   injection e with e
   obtain⟨_,cs,fr,h1⟩:=h.outer.cellsOf b hb
   obtain⟨cs',h2⟩:=(h.rows k hk (by rw [← h.len];exact hk)).ty.2.2.2.2.2
   rw [← e,h1] at h2
   injection h2 with h2
   injection h2 with _ h2 _
   exact absurd h2 (by decide)
 ·rw [List.getElem_set]
  split
  ·rename_i e
   subst e
   exact hr
  ·rename_i e
   have h2':j<im.length:=by simpa using h2
   refine (h.rows j h1 h2').blk (hg.block _ (h.rows j h1 h2').ty.2.1 (fun e'=>e ?_))
   injection e' with e'
   have:=(List.getElem_inj (i:=k) (j:=j) (h₀:=by simpa using hk) (h₁:=by simpa using h1) h.apart).1 (by simpa using e'.symm)
   exact this
end
theorem tySec8:SliceTy Tryz.prog 43 95 8 8:=sliceTy_mk (z := .agg #[.int .u8 0,.int .u8 0,.int .u8 0,.int .u8 0,.int .u8 0,.int .u8 0,.int .u8 0,.int .u8 0]) Tryz.underlying43 (by kernel_rfl) rfl (by decide)
set_option maxHeartbeats 1000000 in
theorem cloneRow_any (A:Option Addr) (c n:Nat) (l:List Sec) (w:World) (hn:l.length=n) (hpos:0<n) (h1:SlAt encSec w (Bl w.heap.size) A l) (hl:n≤1000000) :
  Calls Tryz.prog 105 #[.slice A n c] w fun e w'=>∃ g c',e = .returned (.slice (some ⟨g,0,none⟩) n c')∧RowOf w' w.heap.size (g,n,c') l∧Below w.heap.size w w':=by
 obtain⟨b,off,rfl,_⟩:=h1.some_ (by intro e;subst e;simp at hn;omega)
 have hO:=Lib.hid (show Own encSec (w.alloc (.cells #[] 95)) w.heap.size 95 (Bl w.heap.size) (.slice (some ⟨w.heap.size,0,none⟩) 0 0) [] from Own.make0 (cur := #[]) (Nat.le_refl _) (by unfold maxLen;omega) rfl (fun h=>Nat.lt_irrefl _ h))
 have hsrc:=Lib.hid (show SlAt encSec (w.alloc (.cells #[] 95)) (Bl w.heap.size) (some ⟨b,off,none⟩) l from h1.below (ext_alloc (Below.refl _ _)))
 clear h1
 have hE:=fun W=>Lib.run_eql_slice_nil (P:=Tryz.prog) W 43 95 (some ⟨b,off,none⟩) n c 0 0 Tryz.underlying43
 go_enter Tryz.func105,Tryz.ntmps105
 go_wp2_with (at_builtin;refine Hid.out ?_)
 change wpList _ _ _ _ _ _
 refine wpList_appAll (E:=encSec) tySec8 rfl _ _ rfl rfl hO.out rfl hn.symm hsrc.out (fun g hg=>by simp;have:g<w.heap.size:=hg;omega) (by simp) (by unfold maxLen;simp;omega) (by simp;omega) ?_
 intro A5 c5 w5 hown5 hg5 hat5
 simp only [List.length_nil,Nat.zero_add,List.nil_append] at hown5
 have hB5:Below w.heap.size w w5:=(ext_alloc (o := .cells #[] 95) (Below.refl w.heap.size w)).grown hg5 (by simp) (fun g hg=>(hO.out.lt g hg).1)
 have hfl:=Own.flat hown5 (fun h=>h)
 obtain⟨g,_,rfl,_⟩:=hfl.elem (i:=0) (by omega)
 have hfin:Hid (RowOf w5 w.heap.size (g,n,c5) l):=hfl
 clear hown5 hg5 hat5 hfl
 go_wp2
 go_ret
 exact⟨g,c5,rfl,hfin.out,hB5⟩
end Go.Proofs.YtgndgkjefgjamaaGreat

namespace Go.Proofs.YtgndgkjefgjamaaGreat
open Go.RowKit

theorem tyImgI:SliceTy Tryz.prog 22 43 encBlk.size 24:=sliceTy_mk (z := .slice none 0 0) Tryz.underlying22 (by kernel_rfl) rfl (by decide)
set_option maxHeartbeats 2000000 in
theorem mappedRows_any (A:Option Addr) (c:Nat) (im:List (List Sec)) (w:World) (h1:SlAt (encSl encSec) w (Bl w.heap.size) A im) (hl:im.length≤1000) (hne:∀ r∈im,0<r.length∧r.length≤1000000) :
  Calls Tryz.prog 152 #[.slice A im.length c,.func (.func 105) #[] #[]] w fun e w'=>∃ B vc xs,e = .returned (.slice B im.length vc)∧ImgOwn w' w.heap.size B vc xs im∧Below w.heap.size w w':=by
 have H1:Hid (∀ w',Below w.heap.size w w'→SlAt (encSl encSec) w' (Bl w'.heap.size) A im):=fun w' hb=>h1.fwd hb
 have HNE:=Lib.hid hne
 clear h1 hne
 obtain⟨cur,hcs,hmk⟩:=makeOf tyImgI im.length (by omega) (by omega) w
 have HCS:=Lib.hid hcs;clear hcs
 have hO1:=Lib.hid (ImgOwn.nil_ (w:=w) (lo:=w.heap.size) (cur:=cur) (cap:=im.length) (Nat.le_refl _) (by unfold maxLen;omega) (by have:=HCS.out;simpa [encBlk] using this))
 go_enter Tryz.func152,Tryz.ntmps152
 go_wp2
 go_loopw [5,13] (fun v i wr=>∃ (k:Nat) (B:Option Addr) (vc:Nat) (xs:List (Nat × Nat × Nat)),k≤im.length∧i = .int .i64 k∧v = .slice B xs.length vc∧Below w.heap.size w wr∧Hid (xs.length=k)∧Hid (ImgOwn wr w.heap.size B vc xs (im.take k))) (fun _ i _=>im.length - (intOf i).toNat)
 case atStart=>exact⟨0,some ⟨w.heap.size,0,none⟩,im.length,[],by omega,rfl,rfl,ext_alloc (Below.refl _ _),rfl,hO1.out⟩
 case round =>
  clear hmk
  obtain⟨k,B,vc,xs,hk,rfl,rfl,hB,hxl,hown⟩:=hrel
  by_cases hlt:k<im.length
  ·have hnn:(0:Int)≤k:=by omega
   have hki:(k:Int)<im.length:=by omega
   have hol:xs.length≤1000:=by rw [hxl.out];omega
   have hszr:=hB.size
   obtain⟨b,off,D,dc,rfl,hb,g0,hD,hn1,hn2⟩:=(H1.out wr hB).sl hlt
   obtain⟨p1,p2⟩:=HNE.out im[k] (List.getElem_mem hlt)
   obtain⟨row,hrow⟩:∃ r,Hid (r=im[k]'hlt):=⟨_,Lib.hid rfl⟩
   rw [← hrow.out] at g0 hD hn1 p1 p2
   go_wp2_with fail
   refine (cloneRow_any D dc _ row wr rfl p1 hD p2).mono ?_
   rintro e w1 ⟨g,c',rfl,hr,hb1⟩
   have HR:=Lib.hid hr;clear hr
   have hB1:Below w.heap.size w w1:=ext_trans hB hb1
   have hsz1:=hb1.size
   have HO1:=Lib.hid (hown.out.below hb1)
   have HO2:=Lib.hid (HO1.out.below ((Below.refl _ _).alloc (Nat.le_refl _) (.cells #[.slice (some ⟨g,0,none⟩) row.length c'] 43)))
   have HRD:Hid (encBlk.rd (w1.alloc (.cells #[.slice (some ⟨g,0,none⟩) row.length c'] 43)) (fun _=>False) [.slice (some ⟨g,0,none⟩) row.length c'] (g,row.length,c')):=⟨rfl,HR.out.ty.2.2.2.1,HR.out.ty.2.2.2.2.1⟩
   have hgn:=HR.out.ty.1
   clear g0 hD
   go_wp2_with (at_builtin;refine Hid.out ?_)
   change wpList _ _ _ _ _ _
   refine wpList_app1 (E:=encBlk) tyImgI rfl _ _ rfl rfl HO2.out.outer (g,row.length,c') _ rfl HRD.out (heap_alloc_new _ _) (fun _ h=>h.elim) (by simp;omega) (by unfold maxLen;omega) (by omega) ?_
   intro A' c5 w5 hown5 hg5 hat5
   have hfin:Hid (ImgOwn w5 w.heap.size A' c5 (xs++[(g,row.length,c')]) (im.take (k+1))):=by
    rw [Hid,List.take_succ_eq_append_getElem hlt, ← hrow.out]
    refine HO2.out.snoc (x:=(g,row.length,c')) ((HR.out.base hszr).blk ((Below.heap_alloc _ _ _ HR.out.ty.2.1))) (fun y hy => ?_) hown5 hg5
    obtain⟨j,hj,rfl⟩:=List.mem_iff_getElem.1 hy
    have:=(hown.out.rows j hj (by rw [← hown.out.len];exact hj)).ty.2.1
    simp only at hgn ⊢
    omega
   have hB5:=Lib.hid ((ext_alloc (o := .cells #[.slice (some ⟨g,0,none⟩) row.length c'] 43) hB1).grown hg5 (by simp;omega) (fun g h=>(hown.out.outer.lt g h).1))
   clear hown5 hg5 hat5
   go_wp2
   go_roundw
   case rel=>exact⟨k+1,A',c5,xs++[(g,row.length,c')],hlt,by go_num,by simp,hB5.out,by rw [Hid,List.length_append,hxl.out];rfl,hfin.out⟩
   case measure=>simp [intOf];omega
  ·have hkk:k=im.length:=by omega
   subst hkk
   have ho:=hown.out
   rw [List.take_length] at ho
   have HO:=Lib.hid ho
   have HXL:=hxl;clear ho
   go_wp2
   go_ret
   refine⟨B,vc,xs, ?_,HO.out,hB⟩
   have hxi:=hxl.out
   show Ending.returned (.slice B xs.length vc)=_
   rw [hxi]
theorem copied_any (A:Option Addr) (c n:Nat) (im:List (List Sec)) (w:World) (hn:im.length=n) (h1:SlAt (encSl encSec) w (Bl w.heap.size) A im) (hl:n≤1000) (hne:∀ r∈im,0<r.length∧r.length≤1000000) :
  Calls Tryz.prog 123 #[.slice A n c] w fun e w'=>∃ B vc xs,e = .returned (.slice B n vc)∧ImgOwn w' w.heap.size B vc xs im∧Below w.heap.size w w':=by
 subst hn
 have hc:=Lib.hid (mappedRows_any A c im w h1 hl hne)
 clear h1 hne
 go_enter Tryz.func123,Tryz.ntmps123
 go_wp2_with fail
 refine hc.out.mono ?_
 rintro e w1 ⟨B,vc,xs,rfl,ho,hb1⟩
 have HO:=Lib.hid ho;clear ho
 go_wp2
 go_ret
 exact⟨B,vc,xs,rfl,HO.out,hb1⟩
def putW (im:List (List Sec)) (x:Wr):List (List Sec):=im.set x.1.toNat (over (im.getD x.1.toNat []) x.2.1.toNat x.2.2)
def putAll (im:List (List Sec)) (l:List Wr):List (List Sec):=l.foldl putW im
theorem putAll_snoc (im:List (List Sec)) (l:List Wr) (x:Wr):putAll im (l++[x])=putW (putAll im l) x:=by simp [putAll]
theorem fits_img {im:List (List Sec)} {x:Wr} (h:fitsN (lens im) x=0):∃ (k s:Nat),x.1=k∧x.2.1=s∧k<im.length∧0<x.2.2.length∧s+x.2.2.length≤(im.getD k []).length:=by
 unfold fitsN at h
 split at h
 ·cases h
 ·rename_i c1
  split at h
  ·cases h
  ·rename_i c2
   split at h
   ·cases h
   ·rename_i c3
    rw [lens_len] at c1
    have hk:x.1.toNat<im.length:=by omega
    have e1:(lens im).getD x.1.toNat 0=((im.getD x.1.toNat []).length:Int):=by
     rw [List.getD_eq_getElem?_getD,List.getD_eq_getElem?_getD,List.getElem?_eq_getElem (by rw [lens_len];exact hk),List.getElem?_eq_getElem hk]
     exact lens_at hk
    rw [e1] at c3
    refine⟨x.1.toNat,x.2.1.toNat,by omega,by omega,hk,by omega,by omega⟩
theorem putW_lens {im:List (List Sec)} {x:Wr} (h:fitsN (lens im) x=0):lens (putW im x)=lens im:=by
 obtain⟨k,s,e1,e2,hk,_,hs⟩:=fits_img h
 unfold putW lens
 rw [e1,e2,Int.toNat_natCast,Int.toNat_natCast]
 refine List.ext_getElem (by simp) fun i h1 h2 => ?_
 simp only [List.getElem_map,List.getElem_set]
 split
 ·rename_i e
  subst e
  unfold lenI
  rw [over_len hs,List.getD_eq_getElem?_getD,List.getElem?_eq_getElem hk]
  rfl
 ·rfl
theorem putAll_lens {im:List (List Sec)} {l:List Wr} (h:∀ x∈l,fitsN (lens im) x=0):lens (putAll im l)=lens im:=by
 induction l using snocRec with
 | h0=>rfl
 | h1 l x ih =>
   have ih:=ih (fun y hy=>h y (by simp [hy]))
   rw [putAll_snoc,putW_lens (by rw [ih];exact h x (by simp)),ih]
def applyErr (im:List (List Sec)) (l:List Wr):Int:=if sizesN (lens im)≠0 then sizesN (lens im) else errOf (fitsN (lens im)) l
def applyL (im:List (List Sec)) (l:List Wr):List (List Sec):=if applyErr im l=0 then putAll im l else []
def ApplyRet (r:List (List Sec)) (en:Int) (w:World) (e:Ending) (w':World):Prop :=
 ∃ A c i,e = .returned (.tuple #[.slice A r.length c,.int .i64 i,.int .i64 en])∧r.length≤c∧c≤maxLen∧SlAt (encSl encSec) w' (Nw w.heap.size w'.heap.size) A r∧Below w.heap.size w w'
theorem ApplyRet.no {en:Int} {w w':World} {i:Int} (h:Below w.heap.size w w'):ApplyRet [] en w (.returned (.tuple #[.slice none 0 0,.int .i64 i,.int .i64 en])) w':=⟨none,0,i,rfl,by simp,by simp,SlAt.nil_,h⟩
theorem putAll_length (im:List (List Sec)) (l:List Wr):(putAll im l).length=im.length:=by
 induction l using snocRec with
 | h0=>rfl
 | h1 l x ih=>rw [putAll_snoc,putW,List.length_set,ih]
theorem imgFits1X (A:Option Addr) (c n m:Nat) (im:List (List Sec)) (v s:Int) (D:Option Addr) (dc:Nat) (data:List Sec) (w:World) (hn':im.length=n) (hm:data.length=m) (h1:SlAt (encSl encSec) w (Bl w.heap.size) A im) (hl:n≤1000000) (hn:m≤9223372036854775807) (hv:I64 v) (hs2:I64 s) (pn:Int) (hp:fitsN (lens im) (v,s,data)=pn) :
  Calls Tryz.prog 117 #[.slice A n c,.agg #[.int .i64 v,.int .i64 s,.slice D m dc]] w fun e w'=>e = .returned (.int .i64 pn)∧Below w.heap.size w w':=by
 subst hn' hm hp
 exact imgFits1_any A c im v s D dc data w h1 hl hn hv hs2
set_option maxHeartbeats 4000000 in
theorem apply_any (A A2:Option Addr) (c c2:Nat) (im:List (List Sec)) (l:List Wr) (w:World) (h1:SlAt (encSl encSec) w (Bl w.heap.size) A im) (hl:im.length≤1000000) (h2:SlAt encWr w (Bl w.heap.size) A2 l) (hl2:l.length≤9223372036854775807) :
  Calls Tryz.prog 68 #[.slice A im.length c,.slice A2 l.length c2] w (ApplyRet (applyL im l) (applyErr im l) w):=by
 have H1:=Lib.hid h1
 have H2:Hid (∀ w',Below w.heap.size w w'→SlAt encWr w' (Bl w.heap.size) A2 l):=fun w' hb=>h2.below hb
 clear h1 h2
 obtain⟨es,hes⟩:∃ es,Hid (sizesN (lens im)=es):=⟨_,Lib.hid rfl⟩
 have HC:=Lib.hid (imgCheck_any A c im.length im w rfl H1.out hl es hes.out)
 go_enter Tryz.func68,Tryz.ntmps68
 go_wp2_with fail
 refine HC.out.mono ?_
 rintro e w1 ⟨rfl,hb1⟩
 clear HC
 by_cases he:es=0
 ·have he1:(es != 0)=false:=by simp [he]
  have HE:=Lib.hid he;clear he
  have hrg:=Lib.hid (sizes_range (hes.out.trans HE.out))
  have hne:Hid (∀ r∈im,0<r.length∧r.length≤1000000):=fun r hr=>by
   have:=hrg.out.2 (lenI r) (List.mem_map.2 ⟨r,hr,rfl⟩)
   unfold lenI at this
   omega
  have hl8:im.length≤8:=by have:=hrg.out.1;rwa [lens_len] at this
  have hcp:=Lib.hid (copied_any A c im.length im w1 rfl (H1.out.fwd hb1) (by omega) hne.out)
  go_wp2_with fail
  refine hcp.out.mono ?_
  rintro e w2 ⟨B,vc,xs,rfl,ho2,hb2⟩
  have HO2:=Lib.hid ho2;clear ho2 hcp
  have hB2:Below w.heap.size w w2:=ext_trans hb1 hb2
  have hsz1:=hb1.size
  have hxl:Hid (xs.length=im.length):=HO2.out.len
  go_wp2_with fail
  go_loopw [21] (fun i wr=>∃ k:Nat,k≤l.length∧i = .int .i64 k∧Below w.heap.size w wr∧Hid (∀ x∈l.take k,fitsN (lens im) x=0)∧Hid (ImgOwn wr w.heap.size B vc xs (putAll im (l.take k)))) (fun i _=>l.length - (intOf i).toNat)
  case atStart =>
   refine⟨0,by omega,rfl,hB2,by simp [Hid], ?_⟩
   have h:=HO2.out
   exact⟨by obtain⟨css,⟨a1,a2⟩,a3,a4⟩:=h.outer;exact⟨css,⟨a1,by
    rcases a2 with a2 | ⟨g,cap,cur,b1,b2,b3⟩
    ·exact Or.inl a2
    ·exact Or.inr ⟨g,cap,cur,b1,by omega,b3⟩⟩,a3,a4⟩,h.len,fun k h1 h2=>(h.rows k h1 h2).base hsz1,h.apart⟩
  case round =>
   obtain⟨k,hk,rfl,hB,hz,hown⟩:=hrel
   obtain⟨jm,hjm⟩:∃ jm,Hid (jm=putAll im (l.take k)):=⟨_,Lib.hid rfl⟩
   rw [← hjm.out] at hown
   have hjl:Hid (jm.length=im.length):=by rw [Hid,hjm.out];exact putAll_length _ _
   have hjn:Hid (lens jm=lens im):=by rw [Hid,hjm.out];exact putAll_lens hz.out
   by_cases hlt:k<l.length
   ·obtain⟨b,off,D,dc,rfl,hb,e0,e1,e2,hD,hn1,hn2,hi1,hi2⟩:=(H2.out wr hB).wr hlt
    have hbl:b<w.heap.size:=hb
    have hnn:(0:Int)≤k:=by omega
    have hki:(k:Int)<l.length:=by omega
    have hsz:=hB.size
    unfold maxLen at hn2
    obtain⟨y,hy⟩:∃ y,Hid (y=l[k]'hlt):=⟨_,Lib.hid rfl⟩
    rw [← hy.out] at e0 e1 e2 hn1 hi1 hi2 hD
    obtain⟨v,s,data⟩:=y
    simp only at e0 e1 e2 hn1 hi1 hi2 hD
    have HD:=Lib.hid hD;clear hD
    obtain⟨pn,hpn⟩:∃ pn,Hid (fitsN (lens jm) (v,s,data)=pn):=⟨_,Lib.hid rfl⟩
    have hbx:Below wr.heap.size wr (wr.alloc (.cells #[.int .i64 v,.int .i64 s,.slice D data.length dc] 45)):=ext_alloc (Below.refl _ _)
    have hfx:=Lib.hid (imgFits1X B vc im.length data.length jm v s D dc data _ hjl.out rfl ((hown.out.reads.more (fun _ h=>h.2):SlAt (encSl encSec) wr (Bl wr.heap.size) B jm).fwd hbx) hl (by omega) hi1 hi2 pn hpn.out)
    go_wp2_with fail
    refine hfx.out.mono ?_
    rintro e w3 ⟨rfl,hb3⟩
    have hw3:Below wr.heap.size wr w3:=ext_trans hbx hb3
    have hB3:Below w.heap.size w w3:=ext_trans hB hw3
    have hx3:w3.heap[wr.heap.size]? = some (.cells #[.int .i64 v,.int .i64 s,.slice D data.length dc] 45 (0,0)):=(hb3.block _ (by simp)).trans (heap_alloc_new _ _)
    have hz3:=(Array.getElem?_eq_some_iff.1 hx3).1
    clear e0 e1 e2 hfx
    by_cases hp0:pn=0
    ·have hp1:(pn != 0)=false:=by simp [hp0]
     have HP:=Lib.hid hp0;clear hp0
     have hfit:=hpn.out.trans HP.out
     have hzs:Hid (∀ x∈l.take (k+1),fitsN (lens im) x=0):=by
      intro x hx
      rw [List.take_succ_eq_append_getElem hlt] at hx
      rcases List.mem_append.1 hx with hx | hx
      ·exact hz.out x hx
      ·rw [List.mem_singleton.1 hx, ← hy.out, ← hjn.out];exact hfit
     obtain⟨kv,sv,ev,es2,hkv,hdp,hsv⟩:=fits_img hfit
     simp only at ev es2 hdp hsv
     subst ev es2
     have HO3:=Lib.hid (hown.out.below hw3)
     have hxk:kv<xs.length:=by rw [HO3.out.len];exact hkv
     have hrow0:=HO3.out.rows kv hxk hkv
     obtain⟨x,hx⟩:∃ x,Hid (x=xs[kv]'hxk):=⟨_,Lib.hid rfl⟩
     obtain⟨row,hrow⟩:∃ r,Hid (r=jm[kv]'hkv):=⟨_,Lib.hid rfl⟩
     have hgd:jm.getD kv []=row:=by rw [hrow.out,List.getD_eq_getElem?_getD,List.getElem?_eq_getElem hkv];rfl
     rw [hgd] at hsv
     have HGD:=Lib.hid hgd;clear hgd
     rw [← hx.out, ← hrow.out] at hrow0
     obtain⟨rb,rn,rc⟩:=x
     obtain⟨y1,y2,y3,y4,y5,_⟩:=hrow0.ty
     simp only at y1 y2 y3 y4 y5
     subst y3
     have HROW:=Lib.hid hrow0;clear hrow0
     obtain⟨g,cs,hBg,_,hgl,_,hcell,_,hrd⟩:=HO3.out.outer.elem hxk
     subst hBg
     rw [← hx.out] at hrd
     obtain⟨rfl,_,_⟩:=hrd
     have hc0:=hcell 0 _ rfl
     simp only [encBlk,Nat.mul_one,Nat.add_zero] at hc0
     have hxln:xs.length=im.length:=hxl.out
     have hkvi:(kv:Int)<im.length:=by omega
     have hkv0:(0:Int)≤kv:=by omega
     have hsv0:(0:Int)≤sv:=by omega
     have hsvi:(sv:Int)≤row.length:=by omega
     have hsvl:sv<row.length:=by omega
     have hsvc:sv<rc:=by omega
     have t0:=cell_of_row _ _ 0 _ _ _ hx3
     have t1:=cell_of_row _ _ 1 _ _ _ hx3
     have t2:=cell_of_row _ _ 2 _ _ _ hx3
     have HD3:=Lib.hid (HD.out.below (hw3.mono hsz))
     unfold maxLen at y5
     clear hcell hx3 hxln
     have hne:¬ rc=sv:=by omega
     go_wp2_with fail
     go_region_law (refine step_copyE (E:=encSec) tySec8 rfl _ _ rfl (s:=sv) rfl rfl (HROW.out.blk rfl) rfl hsv (HD3.out.drew ⟨1,rfl⟩) (fun h=>h) ?_;intro w4 hown4 hg4)
     all_goals
      have hput:Hid (ImgOwn w4 w.heap.size (some ⟨g,0,none⟩) vc xs (putAll im (l.take (k+1)))):=by
       have h3:ImgOwn w3.drew w.heap.size (some ⟨g,0,none⟩) vc xs jm:=HO3.out.below (Below.refl _ _).drew
       have h4:=h3.put (w1:=w4) (row:=over row sv data) hxk (by rw [← hx.out];exact hown4) (by rw [← hx.out];exact hg4)
       rw [Hid,List.take_succ_eq_append_getElem hlt,putAll_snoc, ← hjm.out, ← hy.out]
       unfold putW
       simp only [Int.toNat_natCast]
       rw [HGD.out]
       exact h4
      have hB4:Below w.heap.size w w4:=hB3.drew.grown hg4 hB3.size (fun j e=>by cases e;exact y1)
      clear hown4 hg4
      go_wp2
      go_roundw
      case rel=>exact⟨k+1,hlt,by go_num,hB4,hzs.out,hput.out⟩
      case measure=>simp [intOf];omega
    ·have hp1:(pn != 0)=true:=by simp [hp0]
     have HP:=Lib.hid hp0;clear hp0
     have herr:Hid (errOf (fitsN (lens im)) l=pn):=by
      rw [Hid, ← hpn.out,hjn.out]
      have h2:=errOf_at hlt hz.out (by rw [← hy.out, ← hjn.out,hpn.out];exact HP.out)
      rw [h2, ← hy.out]
     have hap:Hid (applyErr im l=pn∧applyL im l=[]):=by
      have e1:applyErr im l=pn:=by unfold applyErr;rw [if_neg (by rw [hes.out,HE.out];simp),herr.out]
      exact⟨e1,by unfold applyL;rw [e1,if_neg HP.out]⟩
     go_wp2
     go_ret3
     rw [hap.out.1,hap.out.2]
     exact ApplyRet.no hB3
   ·have hkk:k=l.length:=by omega
    subst hkk
    have hz0:=hz.out
    rw [List.take_length] at hz0
    have hap:Hid (applyErr im l=0∧applyL im l=jm):=by
     have e1:applyErr im l=0:=by unfold applyErr;rw [if_neg (by rw [hes.out,HE.out];simp),errOf_zero hz0]
     exact⟨e1,by unfold applyL;rw [e1,if_pos rfl,hjm.out,List.take_length]⟩
    obtain⟨p1,p2⟩:=hown.out.parts
    have HRD:=Lib.hid hown.out.reads
    clear hz0
    go_wp2
    go_ret3
    rw [hap.out.1,hap.out.2]
    refine⟨B,vc,0, ?_,p1,p2,HRD.out,hB⟩
    show Ending.returned (.tuple #[.slice B im.length vc,.int .i64 0,.int .i64 0])=_
    rw [hjl.out]
 ·have he1:(es != 0)=true:=by simp [he]
  have HE:=Lib.hid he;clear he
  have hap:Hid (applyErr im l=es∧applyL im l=[]):=by
   have e1:applyErr im l=es:=by unfold applyErr;rw [if_pos (by rw [hes.out];exact HE.out),hes.out]
   exact⟨e1,by unfold applyL;rw [e1,if_neg HE.out]⟩
  go_wp2
  go_ret3
  rw [hap.out.1,hap.out.2]
  exact ApplyRet.no hb1
end Go.Proofs.YtgndgkjefgjamaaGreat
namespace Go.Proofs.YtgndgkjefgjamaaGreat

abbrev Img:=List (List Sec)
abbrev Snp:=Int × Int × List Wr
abbrev Sns:=Img × List Snp
def inT (n:Int):Bool:=decide (0≤n∧n≤1073741824)
def snpE (sz:List Int) (ln lt:Int) (x:Snp):Int :=
 if inT x.1=false then 2 else if x.1≤ln then 8 else if inT x.2.1=false∨x.2.1<lt then 24 else chkS x.2.2 sz
def snpsE (sz:List Int):Int→Int→List Snp→Int
 | _,_,[]=>0
 | ln,lt,x :: r=>if snpE sz ln lt x≠0 then snpE sz ln lt x else snpsE sz x.1 x.2.1 r
def lastN (l:List Snp):Int:=(l.getLast?.map (·.1)).getD (-1)
def lastT (l:List Snp):Int:=(l.getLast?.map (·.2.1)).getD 0
def snE (s:Sns):Int:=if sizesN (lens s.1)≠0 then sizesN (lens s.1) else if 1024<s.2.length then 6 else snpsE (lens s.1) (-1) 0 s.2
def zSns:Sns:=([],[])
def newS (im:Img):Sns:=if sizesN (lens im)=0 then (im,[]) else zSns
def contW (im:Img) (x:Wr):Wr:=(x.1,x.2.1,((im.getD x.1.toNat []).drop x.2.1.toNat).take x.2.2.length)
def contL (im:Img) (l:List Wr):List Wr:=l.map (contW im)
def setLast (l:List Snp) (f:List Wr→List Wr):List Snp:=match l.getLast? with
 | none=>[]
 | some x=>l.dropLast++[(x.1,x.2.1,f x.2.2)]
def sApplyE (s:Sns) (l:List Wr):Int:=if snE s≠0 then snE s else applyErr s.1 l
def sApply (s:Sns) (l:List Wr):Sns:=if sApplyE s l=0 then (putAll s.1 l,setLast s.2 fun d=>foldL (contL s.1 l++d)) else zSns
def takeE (s:Sns) (n t:Int):Int:=if snE s≠0 then snE s else if inT n=false then 2 else if n≤lastN s.2 then 8 else if inT t=false∨t<lastT s.2 then 24 else if 1024≤s.2.length then 11 else 0
def takeS (s:Sns) (n t:Int):Sns:=if takeE s n t=0 then (s.1,s.2++[(n,t,[])]) else zSns
def findI (l:List Snp) (n:Int):Option Nat:=l.findIdx? fun x=>x.1==n
def findE (s:Sns) (n:Int):Int:=if snE s≠0 then snE s else if (findI s.2 n).isNone then 7 else 0
def findN (s:Sns) (n:Int):Nat:=if findE s n=0 then (findI s.2 n).getD 0 else 0
def atL (im:Img) (l:List Snp):Img:=l.reverse.foldl (fun im x=>putAll im x.2.2) im
def sImage (s:Sns) (n:Int):Img:=if findE s n=0 then atL s.1 (s.2.drop (findN s n)) else []
def delL (l:List Snp) (i:Nat):List Snp:=match i with
 | 0=>l.drop 1
 | i+1=>setLast (l.take (i+1)) (fun d=>foldL ((l.getD (i+1) (0,0,[])).2.2++d))++l.drop (i+2)
def sDelete (s:Sns) (n:Int):Sns:=if findE s n=0 then (s.1,delL s.2 (findN s n)) else zSns
def sCost (s:Sns):Nat:=if snE s≠0 then 0 else (s.2.map fun x=>sectsL x.2.2).sum
theorem snpsE_snoc (sz:List Int) (x:Snp):∀ (l:List Snp) (a b:Int),snpsE sz a b (l++[x])=if snpsE sz a b l≠0 then snpsE sz a b l else snpE sz ((l.getLast?.map (·.1)).getD a) ((l.getLast?.map (·.2.1)).getD b) x
 | [],a,b=>by
   by_cases h:snpE sz a b x=0 <;> simp [snpsE,h]
 | y :: l,a,b=>by
   show (if snpE sz a b y≠0 then snpE sz a b y else snpsE sz y.1 y.2.1 (l++[x]))=_
   by_cases h:snpE sz a b y=0
   ·rw [if_neg (by simp [h]),snpsE_snoc sz x l]
    have e1:snpsE sz a b (y :: l)=snpsE sz y.1 y.2.1 l:=by simp [snpsE,h]
    rw [e1]
    cases l with
    | nil=>rfl
    | cons z l =>
      have e2:(y :: z :: l).getLast? = (z :: l).getLast? := List.getLast?_cons_cons
      obtain⟨u,hu⟩:∃ u,(z :: l).getLast? = some u:=⟨_,List.getLast?_eq_some_getLast (by simp)⟩
      rw [e2,hu];rfl
   ·rw [if_pos h]
    have e1:snpsE sz a b (y :: l)=snpE sz a b y:=by simp [snpsE,h]
    rw [e1,if_pos h]
theorem snpsE_app {sz:List Int} {l m:List Snp}:∀ {a b:Int},snpsE sz a b l≠0→snpsE sz a b (l++m)=snpsE sz a b l:=by
 induction l with
 | nil=>intro a b h;simp [snpsE] at h
 | cons y l ih =>
   intro a b h
   by_cases h1:snpE sz a b y=0
   ·have e1:snpsE sz a b (y :: l)=snpsE sz y.1 y.2.1 l:=by simp [snpsE,h1]
    have e2:snpsE sz a b (y :: l++m)=snpsE sz y.1 y.2.1 (l++m):=by simp [snpsE,h1]
    rw [e1] at h ⊢
    rw [e2,ih h]
   ·simp [snpsE,h1]
theorem snpsE_step {sz:List Int} {l:List Snp} {k:Nat} (h:snpsE sz (-1) 0 (l.take k)=0) (hk:k<l.length):snpsE sz (-1) 0 (l.take (k+1))=snpE sz (lastN (l.take k)) (lastT (l.take k)) l[k]:=by
 rw [List.take_succ_eq_append_getElem hk,snpsE_snoc,if_neg (by simp [h])];rfl
theorem snpsE_bad {sz:List Int} {l:List Snp} {k:Nat} (h:snpsE sz (-1) 0 (l.take (k+1))≠0):snpsE sz (-1) 0 l=snpsE sz (-1) 0 (l.take (k+1)):=by
 conv=>lhs;rw [← List.take_append_drop (k+1) l]
 exact snpsE_app h
theorem lastN_take {l:List Snp} {k:Nat} (hk:k<l.length):lastN (l.take (k+1))=l[k].1∧lastT (l.take (k+1))=l[k].2.1:=by
 unfold lastN lastT;rw [List.take_succ_eq_append_getElem hk,List.getLast?_concat];exact⟨rfl,rfl⟩
end Go.Proofs.YtgndgkjefgjamaaGreat

namespace Go.Proofs.YtgndgkjefgjamaaGreat
open Go.RowKit

def OwnX {α:Type} (X:Nat→Prop) (E:Enc α) (w:World) (lo:Nat) (e:TypeId) (v:Value) (l:List α):Prop :=
 Own E w lo e (fun g=>Nw lo w.heap.size g∧¬ X g∧v.ownBlock≠some g) v l∧∀ g,v.ownBlock=some g→¬ X g
section
variable {α:Type} {E:Enc α} {X X':Nat→Prop} {w w':World} {lo:Nat} {e:TypeId} {v v':Value} {l:List α}
theorem OwnX.nil_:OwnX X E w lo e (.slice none 0 0) []:=⟨Own.nil_,fun g h=>by simp [Value.ownBlock] at h⟩
theorem OwnX.lt (h:OwnX X E w lo e v l):∀ g,v.ownBlock=some g→lo≤g∧g<w.heap.size:=h.1.lt
theorem OwnX.keep (h:OwnX X E w lo e v l) (hs:w.heap.size≤w'.heap.size) (hk:∀ g,lo≤g→g<w.heap.size→¬ X g→w'.heap[g]? = w.heap[g]?):OwnX X E w' lo e v l :=
 ⟨(h.1.blk (fun g hg=>by
   rcases hg with hg | hg
   ·exact hk g hg.1.1 hg.1.2 hg.2.1
   ·exact hk g (h.lt g hg).1 (h.lt g hg).2 (h.2 g hg))).more (fun g hg=>⟨hg.1.mono (Nat.le_refl _) hs,hg.2⟩) (fun g hg hS=>hS.2.2 hg),h.2⟩
theorem OwnX.below (h:OwnX X E w lo e v l) (hb:Below w.heap.size w w'):OwnX X E w' lo e v l:=h.keep hb.size (fun g _ hg _=>hb.block g hg)
theorem OwnX.alloc (h:OwnX X E w lo e v l) (o:Obj):OwnX X E (w.alloc o) lo e v l:=h.below (ext_alloc (Below.refl _ _))
theorem OwnX.set (h:OwnX X E w lo e v l) {p:Addr} (hp:X p.block) (u:Value):OwnX X E (w.setCell p u) lo e v l :=
 h.keep (by simp [World.setCell]) (fun g _ _ hX=>Below.heap_setCell _ _ _ _ (fun e=>hX (by rw [e];exact hp)))
theorem OwnX.var (h:OwnX X E w lo e v l) (hX:∀ g,X' g→X g∨w.heap.size≤g):OwnX X' E w lo e v l :=
 ⟨h.1.more (fun g hg=>⟨hg.1,fun hx=>(hX g hx).elim hg.2.1 (fun hh=>by have:=hg.1.2;omega),hg.2.2⟩) (fun g hg hS=>hS.2.2 hg),fun g hg hx=>(hX g hx).elim (h.2 g hg) (fun hh=>by have:=(h.lt g hg).2;omega)⟩
theorem OwnX.since {β:Type} {F:Enc β} {A:Option Addr} {m:List β} {B:Nat} (h:SlAt F w (Nw B w.heap.size) A m) (hlo:lo≤B) (hX:∀ g,X g→g<B) (hv:∀ g,v.ownBlock=some g→g<B):SlAt F w (fun g=>Nw lo w.heap.size g∧¬ X g∧v.ownBlock≠some g) A m :=
 h.more fun b hb=>⟨hb.mono hlo (Nat.le_refl _),fun hx=>by have:=hX b hx;have:=hb.1;omega,fun e=>by have:=hv b e;have:=hb.1;omega⟩
theorem OwnX.app {l':List α} (h0:OwnX X E w lo e v l) (h:Own E w' lo e (fun g=>Nw lo w.heap.size g∧¬ X g∧v.ownBlock≠some g) v' l') (hg:w.grownBy w' v.ownBlock) (hat:v'.ownBlock=v.ownBlock∨v'.ownBlock=some w.heap.size) (hX:∀ g,X g→g<w.heap.size):OwnX X E w' lo e v' l':=by
 refine⟨h.more (fun b hb=>⟨hb.1.mono (Nat.le_refl _) hg.size,hb.2.1,fun e => ?_⟩) (fun g hg' hS=>hS.2.2 hg'),fun g hg' hx => ?_⟩
 ·rcases hat with hat | hat
  ·exact hb.2.2 (by rw [← hat];exact e)
  ·rw [hat] at e;injection e with e;have:=hb.1.2;omega
 ·rcases hat with hat | hat
  ·exact h0.2 g (by rw [← hat];exact hg') hx
  ·rw [hat] at hg';injection hg' with hg';have:=hX g hx;omega
theorem OwnX.read (h:OwnX X E w lo e v l):(encSl E).rd w (fun g=>Nw lo w.heap.size g∧¬ X g) [v] l :=
 h.1.reads (fun g hg=>⟨hg.1,hg.2.1⟩) (fun g hg=>⟨⟨(h.lt g hg).1,(h.lt g hg).2⟩,h.2 g hg⟩)
theorem OwnX.parts {A:Option Addr} {n c:Nat} (h:OwnX X E w lo e (.slice A n c) l):n=l.length∧l.length≤c∧c≤maxLen∧SlAt E w (fun g=>Nw lo w.heap.size g∧¬ X g) A l:=by
 obtain⟨A',c',he,h1,h2,h3⟩:=h.read
 simp only [List.cons.injEq,Value.slice.injEq,and_true] at he
 obtain⟨rfl,rfl,rfl⟩:=he
 exact⟨rfl,h1,h2,h3⟩
theorem OwnX.low (h:OwnX X E w lo e v l) {lo':Nat} (hl:lo'≤lo):OwnX X E w lo' e v l:=by
 obtain⟨⟨css,⟨h0,h1⟩,h2,h3⟩,h4⟩:=h
 refine⟨Own.more (S:=fun g=>Nw lo w.heap.size g∧¬ X g∧v.ownBlock≠some g) ⟨css,⟨h0, ?_⟩,h2,h3⟩ (fun g hg=>⟨hg.1.mono hl (Nat.le_refl _),hg.2⟩) (fun g hg hS=>hS.2.2 hg),h4⟩
 rcases h1 with h1 | ⟨g,cap,cur,e1,hg,r⟩
 ·exact Or.inl h1
 ·exact Or.inr ⟨g,cap,cur,e1,Nat.le_trans hl hg,r⟩
theorem OwnX.made {cur:Array Value} {cap:Nat} (hb:lo≤w.heap.size) (hm:cap≤maxLen) (hs:cur.size=cap * E.size) (hX:∀ g,X g→g<w.heap.size):OwnX X E (w.alloc (.cells cur e)) lo e (.slice (some ⟨w.heap.size,0,none⟩) 0 cap) [] :=
 ⟨Own.make0 hb hm hs (fun h=>h.2.2 rfl),fun g hg hx=>by
  have:w.heap.size=g:=by simpa [Value.ownBlock] using hg
  have:=hX g hx;omega⟩
end
end Go.Proofs.YtgndgkjefgjamaaGreat

namespace Go.Proofs.YtgndgkjefgjamaaGreat
open Go.RowKit Go.Shelf
attribute [local go_sem] Oper.semAt_some

set_option maxHeartbeats 1000000 in
theorem snapWrites (A:Option Addr) (c n:Nat) (l:List Wr) (w:World) (hn:l.length=n) (h1:SlAt encWr w (Bl w.heap.size) A l) (hl:n≤100000) (hd:∀ x∈l,x.2.2.length≤1000000) :
  Calls Tryz.prog 154 #[.slice A n c] w fun e w'=>∃ B vc,e = .returned (.slice B n vc)∧OwnX (fun _=>False) encWr w' w.heap.size 45 (.slice B n vc) l∧Below w.heap.size w w':=by
 subst hn
 have H1:Hid (∀ w',Below w.heap.size w w'→SlAt encWr w' (Bl w.heap.size) A l):=fun w' hb=>h1.below hb
 have HD:=Lib.hid hd
 clear h1 hd
 go_enter Tryz.func154,Tryz.ntmps154
 go_wp2
 go_loopw [3,8] (fun v i wr=>∃ (k:Nat) (B:Option Addr) (vc:Nat) (out:List Wr),k≤l.length∧i = .int .i64 k∧v = .slice B out.length vc∧Below w.heap.size w wr∧Hid (out=l.take k)∧Hid (OwnX (fun _=>False) encWr wr w.heap.size 45 (.slice B out.length vc) out)) (fun _ i _=>l.length - (intOf i).toNat)
 case atStart=>exact⟨0,none,0,[],by omega,rfl,rfl,Below.refl _ _,by simp [Hid],OwnX.nil_⟩
 case round =>
  obtain⟨wo,rfl⟩:∃ wo:World,wo=wr:=⟨_,rfl⟩
  obtain⟨k,B,vc,out,hk,rfl,rfl,hB,hout,hown⟩:=hrel
  by_cases hlt:k<l.length
  ·obtain⟨b,off,D,dc,rfl,hb,g0,g1,g2,hD,hn1,hn2,hi1,hi2⟩:=(H1.out wo hB).wr hlt
   have hdl:=HD.out l[k] (List.getElem_mem hlt)
   have hst:Hid (l.take (k+1)=l.take k++[l[k]]):=List.take_succ_eq_append_getElem hlt
   obtain⟨x,hx⟩:∃ x,l[k]=x:=⟨_,rfl⟩
   rw [hx] at g0 g1 g2 hD hn1 hi1 hi2 hdl hst
   obtain⟨v,s,d⟩:=x
   simp only at g0 g1 g2 hD hn1 hi1 hi2 hdl
   have hki:(k:Int)<l.length:=by omega
   have hnn:(0:Int)≤k:=by omega
   have hol:out.length≤k:=by rw [hout.out];simp;omega
   have hszo:=hB.size
   clear hx
   go_upto_region 5 with (fail)
   obtain⟨W1,hW1⟩:∃ W1,wo.alloc (.cells #[.int .i64 v,.int .i64 s,.slice D d.length dc] 45)=W1:=⟨_,rfl⟩
   rw [hW1]
   have hb1:Below wo.heap.size wo W1:=by rw [← hW1];exact ext_alloc (Below.refl _ _)
   have hr1:W1.heap[wo.heap.size]? = some (.cells #[.int .i64 v,.int .i64 s,.slice D d.length dc] 45 (0,0)):=by rw [← hW1];exact heap_alloc_new _ _
   have hs1:W1.heap.size=wo.heap.size+1:=by rw [← hW1];simp
   have HCL:=Lib.hid (cloneSecs_any D dc d.length d W1 rfl ((hD.blk (w':=W1) (fun g hg=>hb1.block g (Nat.lt_of_lt_of_le hg hszo))).more (fun g hg=>by have:g<w.heap.size:=hg;show g<W1.heap.size;omega)) hdl)
   obtain⟨r0,r1,r2,rf⟩:=blk3 hr1
   clear hW1 g0 g1 g2 hD
   go_wp2_with fail
   refine HCL.out.mono ?_
   rintro e w2 ⟨A2,c2,rfl,k1,k2,k3,hb2⟩
   have hr2:w2.heap[wo.heap.size]? = some (.cells #[.int .i64 v,.int .i64 s,.slice D d.length dc] 45 (0,0)):=(hb2.block _ (by omega)).trans hr1
   have HK3:=Lib.hid k3
   clear r0 r1 r2 rf hr1 HCL k3
   obtain⟨r0,r1,r2,rf⟩:=blk3 hr2
   go_upto_region 6 with (fail)
   obtain⟨W3,hW3⟩:∃ W3,w2.setCell ⟨wo.heap.size,2,none⟩ (.slice A2 d.length c2)=W3:=⟨_,rfl⟩
   rw [hW3]
   have hr3:W3.heap[wo.heap.size]? = some (.cells #[.int .i64 v,.int .i64 s,.slice A2 d.length c2] 45 (0,0)):=by rw [← hW3];exact blk3_set hr2 _
   have hs3:W3.heap.size=w2.heap.size:=by rw [← hW3];simp [World.setCell]
   have hs2:=hb2.size
   have hb3:Below wo.heap.size wo W3:=by rw [← hW3];exact (hb1.trans (hb2.mono hb1.size)).setCell (p:=⟨wo.heap.size,2,none⟩) (Nat.le_refl wo.heap.size) _
   have hK3:Hid (SlAt encSec W3 (Nw W1.heap.size W3.heap.size) A2 d):=by
    rw [hs3]
    refine HK3.out.blk (fun g hg => ?_)
    rw [← hW3]
    exact Below.heap_setCell _ _ _ _ (by have:=hg.1;show g≠wo.heap.size;omega)
   have hs3g:w2.heap.size≤W3.heap.size:=by omega
   have hs1g:wo.heap.size+1≤W1.heap.size:=by omega
   clear r0 r1 r2 rf hr2 hW3 HK3 hb2 hb1 hs3 hs1
   obtain⟨r0,r1,r2,_⟩:=blk3 hr3
   have hO4:=Lib.hid ((hown.out.below hb3).alloc (.cells #[.int .i64 v,.int .i64 s,.slice A2 d.length c2] 45))
   have hlt1:=hown.out.lt
   have HRD:Hid (encWr.rd (W3.alloc (.cells #[.int .i64 v,.int .i64 s,.slice A2 d.length c2] 45)) (fun g=>Nw w.heap.size (W3.alloc (.cells #[.int .i64 v,.int .i64 s,.slice A2 d.length c2] 45)).heap.size g∧¬ False∧(Value.slice B out.length vc).ownBlock≠some g) [.int .i64 v,.int .i64 s,.slice A2 d.length c2] (v,s,d)) :=
    wr_mk (x:=(v,s,d)) hi1 hi2 k1 k2 (OwnX.since (X:=fun _=>False) (B:=W1.heap.size) ((hK3.out.blk (fun g hg=>Below.heap_alloc _ _ _ hg.2)).more (fun g hg=>hg.mono (Nat.le_refl _) (by simp))) (by omega) (fun _ h=>h.elim) (fun g hg=>by have:=(hlt1 g hg).2;omega))
   have HLT:=Lib.hid hlt1
   have hO4o:=Lib.hid hO4.out.1
   clear hlt1
   go_wp2_with (at_builtin;refine Hid.out ?_)
   change wpList _ _ _ _ _ _
   refine wpList_app1 (E:=encWr) tyWrs rfl _ _ rfl rfl hO4o.out (v,s,d) [.int .i64 v,.int .i64 s,.slice A2 d.length c2] rfl HRD.out (heap_alloc_new _ _) (fun _ h=>h.1.2) (by simp;omega) (by unfold maxLen;omega) (by omega) ?_
   intro A5 c5 w5 hown5 hg5 hat5
   have hO5:=Lib.hid (hO4.out.app hown5 hg5 hat5 (fun _ h=>h.elim))
   have hB5:=Lib.hid (((hB.trans (hb3.mono hszo)).alloc (by omega) (.cells #[.int .i64 v,.int .i64 s,.slice A2 d.length c2] 45)).grown hg5 (by simp;omega) (fun g h=>(HLT.out g h).1))
   clear hown5 hg5 hat5 r0 r1 r2 hr3
   go_wp2
   go_roundw
   case rel=>exact⟨k+1,A5,c5,out++[(v,s,d)],hlt,by go_num,by simp,hB5.out,by rw [Hid,hst.out,hout.out],by have:=hO5.out;simpa [Hid] using this⟩
   case measure=>simp [intOf];omega
  ·have hkk:k=l.length:=by omega
   subst hkk
   go_wp2
   go_ret
   have e:=hout.out
   rw [List.take_length] at e
   rw [← e]
   exact⟨B,vc,rfl,hown.out,hB⟩
end Go.Proofs.YtgndgkjefgjamaaGreat

namespace Go.Proofs.YtgndgkjefgjamaaGreat
open Go.RowKit Go.Shelf
attribute [local go_sem] Oper.semAt_some

def encSnp:Enc Snp:=encPair encInt (encPair encInt (encSl encWr))
section
variable {w:World} {S:Nat→Prop} {A:Option Addr}
theorem snp_cs {x:Snp} {cs:List Value} (h:encSnp.rd w S cs x):∃ D c,cs=[.int .i64 x.1,.int .i64 x.2.1,.slice D x.2.2.length c]∧I64 x.1∧I64 x.2.1∧x.2.2.length≤c∧c≤maxLen∧SlAt encWr w S D x.2.2:=by
 obtain⟨c1,c2,rfl,⟨rfl,h1⟩,⟨c3,c4,rfl,⟨rfl,h2⟩,⟨D,c,rfl,h3,h4,h5⟩⟩⟩:=h
 exact⟨D,c,rfl,h1,h2,h3,h4,h5⟩
theorem snp_mk {x:Snp} {D:Option Addr} {c:Nat} (h1:I64 x.1) (h2:I64 x.2.1) (h3:x.2.2.length≤c) (h4:c≤maxLen) (h5:SlAt encWr w S D x.2.2):encSnp.rd w S [.int .i64 x.1,.int .i64 x.2.1,.slice D x.2.2.length c] x :=
 ⟨[_],[_,_],rfl,⟨rfl,h1⟩,⟨[_],[_],rfl,⟨rfl,h2⟩,⟨D,c,rfl,h3,h4,h5⟩⟩⟩
theorem SlAt.snp {l:List Snp} {k:Nat} (h:SlAt encSnp w S A l) (hk:k<l.length) :
  ∃ b off D c,A=some ⟨b,off,none⟩∧S b ∧
    w.cell? ⟨b,off+k * 3,none⟩=some (.int .i64 l[k].1)∧w.cell? ⟨b,off+k * 3+1,none⟩=some (.int .i64 l[k].2.1)∧w.cell? ⟨b,off+k * 3+2,none⟩=some (.slice D l[k].2.2.length c) ∧
    SlAt encWr w S D l[k].2.2∧l[k].2.2.length≤c∧c≤maxLen∧I64 l[k].1∧I64 l[k].2.1:=by
 obtain⟨b,off,cs,e,hb,hs,hr⟩:=h.at_ hk
 obtain⟨D,c,rfl,h1,h2,h3,h4,h5⟩:=snp_cs hr
 exact⟨b,off,D,c,e,hb,hs 0 _ rfl,hs 1 _ rfl,hs 2 _ rfl,h5,h3,h4,h1,h2⟩
end
theorem tySnps:SliceTy Tryz.prog 24 158 3 40:=sliceTy_mk (z := .agg #[.int .i64 0,.int .i64 0,.slice none 0 0]) Tryz.underlying24 (by kernel_rfl) rfl (by decide)
theorem tyImage:SliceTy Tryz.prog 23 43 1 24:=sliceTy_mk (z := .slice none 0 0) Tryz.underlying23 (by kernel_rfl) rfl (by decide)
theorem blk2_0 {w:World} {b:Nat} {T:TypeId} {c0 c1:Value} (h:w.heap[b]? = some (.cells #[c0,c1] T (0,0))) (u:Value):(w.setCell ⟨b,0,none⟩ u).heap[b]? = some (.cells #[u,c1] T (0,0)):=by
 simp [World.setCell,Array.getElem?_modify,h]
theorem blk2_1 {w:World} {b:Nat} {T:TypeId} {c0 c1:Value} (h:w.heap[b]? = some (.cells #[c0,c1] T (0,0))) (u:Value):(w.setCell ⟨b,1,none⟩ u).heap[b]? = some (.cells #[c0,u] T (0,0)):=by
 simp [World.setCell,Array.getElem?_modify,h]
structure SnLim (im:Img) (l:List Snp):Prop where
 ims:im.length≤100000
 row:∀ r∈im,r.length≤1000000
 its:l.length≤100000
 sav:∀ x∈l,x.2.2.length≤100000∧∀ y∈x.2.2,y.2.2.length≤1000000
def SnRet (im:Img) (l:List Snp) (A:Option Addr) (c:Nat) (D:Option Addr) (d mid:Nat) (lo:Nat) (w:World):Prop :=
 im.length≤c∧c≤maxLen∧lo≤mid∧mid≤w.heap.size∧SlAt (encSl encSec) w (Nw lo mid) A im∧OwnX (fun _=>False) encSnp w mid 158 (.slice D l.length d) l
set_option maxHeartbeats 4000000 in
set_option maxRecDepth 100000 in
theorem copied36_any (A A2:Option Addr) (c c2 n m:Nat) (im:Img) (l:List Snp) (w:World) (hn:im.length=n) (hm:l.length=m) (h1:SlAt (encSl encSec) w (Bl w.heap.size) A im) (h2:SlAt encSnp w (Bl w.heap.size) A2 l) (hL:SnLim im l) :
  Calls Tryz.prog 127 #[.agg #[.slice A n c,.slice A2 m c2]] w fun e w'=>∃ B vc D dc mid,e = .returned (.agg #[.slice B n vc,.slice D m dc])∧SnRet im l B vc D dc mid w.heap.size w'∧Below w.heap.size w w':=by
 subst hn hm
 have H1:Hid (∀ w',Below w.heap.size w w'→SlAt (encSl encSec) w' (Bl w.heap.size) A im):=fun w' hb=>h1.below hb
 have H2:Hid (∀ w',Below w.heap.size w w'→SlAt encSnp w' (Bl w.heap.size) A2 l):=fun w' hb=>h2.below hb
 have HL:=Lib.hid hL
 have hl1:=hL.ims
 have hl2:=hL.its
 clear h1 h2 hL
 obtain⟨n0,hn0⟩:∃ n0,w.heap.size=n0:=⟨_,rfl⟩
 obtain⟨W0,hW0⟩:∃ W0,((w.alloc (.cells #[.slice A im.length c,.slice A2 l.length c2] 26)).alloc (.cells #[.slice none 0 0,.slice none 0 0] 26)).alloc (.cells #[.slice none 0 0,.slice none 0 0] 26)=W0:=⟨_,rfl⟩
 have hB0:Below n0 w W0:=by rw [← hW0, ← hn0];exact ext_alloc (ext_alloc (ext_alloc (Below.refl _ _)))
 have hs0:W0.heap.size=n0+3:=by rw [← hW0, ← hn0];simp
 have hr0:W0.heap[n0]? = some (.cells #[.slice A im.length c,.slice A2 l.length c2] 26 (0,0)):=by
  rw [← hW0, ← hn0];exact (Below.heap_alloc _ _ _ (by simp;omega)).trans ((Below.heap_alloc _ _ _ (by simp)).trans (heap_alloc_new _ _))
 have hr1:W0.heap[n0+1]? = some (.cells #[.slice none 0 0,.slice none 0 0] 26 (0,0)):=by
  rw [← hW0, ← hn0]
  have h:=heap_alloc_new (w.alloc (.cells #[.slice A im.length c,.slice A2 l.length c2] 26)) (.cells #[.slice none 0 0,.slice none 0 0] 26)
  simp only [World.size_alloc] at h
  exact (Below.heap_alloc _ _ _ (by simp)).trans h
 have hr2:W0.heap[n0+1+1]? = some (.cells #[.slice none 0 0,.slice none 0 0] 26 (0,0)):=by
  rw [← hW0, ← hn0]
  have h:=heap_alloc_new ((w.alloc (.cells #[.slice A im.length c,.slice A2 l.length c2] 26)).alloc (.cells #[.slice none 0 0,.slice none 0 0] 26)) (.cells #[.slice none 0 0,.slice none 0 0] 26)
  simp only [World.size_alloc] at h
  exact h
 have HR1:=Lib.hid hr1
 have HR2:=Lib.hid hr2
 obtain⟨p0,p1,_⟩:=blk2 hr0
 have HR0:=Lib.hid hr0
 clear hr0 hr1 hr2
 go_enter Tryz.func127,Tryz.ntmps127
 go_wp2_with fail
 clear p0 p1
 go_loopw [11] (fun i wr=>∃ (k:Nat) (B:Option Addr) (vc:Nat) (out:Img),k≤im.length∧i = .int .i64 k∧Below n0 w wr∧n0+3≤wr.heap.size∧Hid (out=im.take k)∧Hid (wr.heap[n0]? = some (.cells #[.slice A im.length c,.slice A2 l.length c2] 26 (0,0)))∧Hid (wr.heap[n0+1]? = some (.cells #[.slice none 0 0,.slice none 0 0] 26 (0,0)))∧Hid (wr.heap[n0+1+1]? = some (.cells #[.slice B out.length vc,.slice none 0 0] 26 (0,0)))∧Hid (OwnX (Nw n0 (n0+3)) (encSl encSec) wr n0 43 (.slice B out.length vc) out)) (fun i _=>im.length - (intOf i).toNat)
 case atStart=>exact⟨0,none,0,[],by omega,rfl,hB0,by omega,by simp [Hid],HR0.out,HR1.out,HR2.out,OwnX.nil_⟩
 case round =>
  obtain⟨wo,rfl⟩:∃ wo:World,wo=wr:=⟨_,rfl⟩
  obtain⟨k,B,vc,out,hk,rfl,hB,hsz,hout,hq0,hq1,hq2,hown⟩:=hrel
  by_cases hlt:k<im.length
  ·obtain⟨b,off,D,dc,rfl,hb,g0,hD,hd1,hd2⟩:=(H1.out wo (by rw [hn0];exact hB)).sl hlt
   have hrl:=HL.out.row im[k] (List.getElem_mem hlt)
   have hst:Hid (im.take (k+1)=im.take k++[im[k]]):=List.take_succ_eq_append_getElem hlt
   obtain⟨row,hrow⟩:∃ x,im[k]=x:=⟨_,rfl⟩
   rw [hrow] at g0 hD hd1 hrl hst
   have hki:(k:Int)<im.length:=by omega
   have hnn:(0:Int)≤k:=by omega
   have hol:out.length≤k:=by rw [hout.out];simp;omega
   clear hrow
   have HCL:=Lib.hid (cloneSecs_any D dc row.length row wo.drew rfl ((hD.drew (w':=wo.drew) ⟨1,rfl⟩).more (fun g hg=>by have:g<w.heap.size:=hg;show g<wo.heap.size;omega)) hrl)
   have hlt1:=Lib.hid hown.out.lt
   have HS:Hid (∀ (W:World) (A5:Option Addr) (m5 c5:Nat),W.heap[n0+1+1]? = some (.cells #[.slice A5 m5 c5,.slice none 0 0] 26 (0,0))→W.cell? ⟨n0+1+1,0,none⟩=some (.slice A5 m5 c5)∧W.frozen? ⟨n0+1+1,0,none⟩=false):=fun W A5 m5 c5 h=>by
    obtain⟨a,_,f⟩:=blk2 h;exact⟨a,f 0⟩
   clear hD
   go_upto_region 5 with (fail)
   obtain⟨hc1,hc0⟩:=HS.out wo.drew B out.length vc hq2.out
   go_region_law (first | (refine step_app1 (E:=encSl encSec) tyImage rfl _ _ rfl rfl hO4o.out row [.slice A4 row.length c4] rfl HRD.out (heap_alloc_new _ _) (fun _ h=>h.1.2) (by simp;omega) (by unfold maxLen;omega) (by omega) ?_;intro A5 c5 w5 hown5 hg5 hat5;have hrow5:=(hg5.block (n0+1+1) (by simp;omega) (fun e=>hown.out.2 _ e.symm ⟨by omega,by omega⟩)).trans hrow4a;obtain⟨hc5,_,hf5⟩:=blk2 hrow5) | (go_simp;go_at_call 105;refine HCL.out.mono ?_;rintro e w4 ⟨A4,c4,rfl,k1,k2,k3,h4⟩;have hx4:Below wo.heap.size wo w4:=bUn h4;have hz4:=hx4.size;have hrow4:=(hx4.block (n0+1+1) (by omega)).trans hq2.out;have hc4:=(blk2 hrow4).1;have hO4:=Lib.hid ((hown.out.below hx4).alloc (.cells #[.slice A4 row.length c4] 43));have hrow4a:=(Below.heap_alloc w4 (.cells #[.slice A4 row.length c4] 43) (n0+1+1) (by omega)).trans hrow4;have hc4a:=(blk2 hrow4a).1;have hO4o:=Lib.hid hO4.out.1;have HRD:Hid ((encSl encSec).rd (w4.alloc (.cells #[.slice A4 row.length c4] 43)) (fun g=>Nw n0 (w4.alloc (.cells #[.slice A4 row.length c4] 43)).heap.size g∧¬ Nw n0 (n0+3) g∧(Value.slice B out.length vc).ownBlock≠some g) [.slice A4 row.length c4] row):=⟨A4,c4,rfl,k1,k2,OwnX.since (X:=Nw n0 (n0+3)) (B:=wo.heap.size) ((k3.blk (fun g hg=>Below.heap_alloc _ _ _ hg.2)).more (fun g hg=>hg.mono (Nat.le_refl _) (by simp))) (by omega) (fun g hg=>by have:=hg.2;omega) (fun g hg=>(hlt1.out g hg).2)⟩))
   all_goals
    have hrow6:=blk2_0 hrow5 (.slice A5 (out.length+1) c5)
    have hz5:=hg5.size
    have hO5:Hid (OwnX (Nw n0 (n0+3)) (encSl encSec) (w5.setCell ⟨n0+1+1,0,none⟩ (.slice A5 (out.length+1) c5)) n0 43 (.slice A5 (out.length+1) c5) (out++[row])):=(hO4.out.app hown5 hg5 hat5 (fun g hg=>by have:=hg.2;simp;omega)).set (p:=⟨n0+1+1,0,none⟩) (by show Nw n0 (n0+3) (n0+1+1);exact⟨by omega,by omega⟩) _
    have hlo:=hO4.out.lt
    have hB5:Below n0 wo w5:=((hx4.mono (by omega:n0≤wo.heap.size)).alloc (by omega) (.cells #[.slice A4 row.length c4] 43)).grown hg5 (by simp;omega) (fun g h=>(hlo g h).1)
    have hB6:Below n0 w (w5.setCell ⟨n0+1+1,0,none⟩ (.slice A5 (out.length+1) c5)):=(hB.trans hB5).setCell (p:=⟨n0+1+1,0,none⟩) (by show n0≤n0+1+1;omega) _
    have hother:∀ g,Nw n0 (n0+3) g→g≠n0+1+1→(w5.setCell ⟨n0+1+1,0,none⟩ (.slice A5 (out.length+1) c5)).heap[g]? = wo.heap[g]? := fun g hg hne =>
     (heap_setCell_other _ _ _ _ hne).trans ((hg5.block g (by have:=hg.2;simp;omega) (fun e=>hown.out.2 _ e.symm hg)).trans ((Below.heap_alloc _ _ _ (by have:=hg.2;omega)).trans (hx4.block g (by have:=hg.2;omega))))
    have hq0':=Lib.hid ((hother n0 ⟨by omega,by omega⟩ (by omega)).trans hq0.out)
    have hq1':=Lib.hid ((hother (n0+1) ⟨by omega,by omega⟩ (by omega)).trans hq1.out)
    have hz6:n0+3≤(w5.setCell ⟨n0+1+1,0,none⟩ (.slice A5 (out.length+1) c5)).heap.size:=by simp [World.setCell] at hz5 ⊢;omega
    generalize w5.setCell ⟨n0+1+1,0,none⟩ (.slice A5 (out.length+1) c5)=w6 at hrow6 hO5 hB6 hq0' hq1' hz6 ⊢
    clear hown5 hg5 hat5 hrow4 hrow4a hrow5 hc4 hc4a hc5 hf5 hc0 hc1 k3 hz4 hz5 hlo hother hB5 h4 hx4
    go_wp2
    go_roundw
    case rel=>exact⟨k+1,A5,c5,out++[row],hlt,by go_num,hB6,hz6,by rw [Hid,hst.out,hout.out],hq0'.out,hq1'.out,by simpa [Hid] using hrow6,by simpa [Hid] using hO5.out⟩
    case measure=>simp [intOf];omega
  ·have hkk:k=im.length:=by omega
   subst hkk
   rw [List.take_length] at hout
   have hIM:Hid (im.length≤vc∧vc≤maxLen∧SlAt (encSl encSec) wo (fun g=>Nw n0 wo.heap.size g∧¬ Nw n0 (n0+3) g) B im):=by
    have h:=hown.out
    rw [hout.out] at h
    obtain⟨_,a,b,c⟩:=h.parts
    exact⟨a,b,c⟩
   rw [hout.out] at hq2
   obtain⟨p0,p1,_⟩:=blk2 hq0.out
   clear hown hout
   go_wp2_with fail
   clear p0 p1
   go_loopw [26] (fun i wr=>∃ (k:Nat) (D2:Option Addr) (dc:Nat) (out:List Snp),k≤l.length∧i = .int .i64 k∧Below n0 w wr∧wo.heap.size≤wr.heap.size∧Hid (out=l.take k)∧Hid (wr.heap[n0+1]? = some (.cells #[.slice none 0 0,.slice none 0 0] 26 (0,0)))∧Hid (wr.heap[n0+1+1]? = some (.cells #[.slice B im.length vc,.slice D2 out.length dc] 26 (0,0)))∧Hid (OwnX (Nw n0 (n0+3)) encSnp wr wo.heap.size 158 (.slice D2 out.length dc) out)∧Hid (∀ g,g<wo.heap.size→¬ Nw n0 (n0+3) g→wr.heap[g]? = wo.heap[g]?)) (fun i _=>l.length - (intOf i).toNat)
   case atStart=>exact⟨0,none,0,[],by omega,rfl,hB,Nat.le_refl _,by simp [Hid],hq1.out,hq2.out,OwnX.nil_,fun _ _ _=>rfl⟩
   case round =>
    obtain⟨wp,rfl⟩:∃ wo:World,wo=wr:=⟨_,rfl⟩
    obtain⟨k,D2,dc,out,hk2,rfl,hBp,hszp,hout,hp1,hp2,hown,hkp⟩:=hrel
    by_cases hlt2:k<l.length
    ·obtain⟨b,off,D,dd,rfl,hb,g0,g1,g2,hD,hd1,hd2,hi1,hi2⟩:=(H2.out wp (by rw [hn0];exact hBp)).snp hlt2
     obtain⟨hsl,hsd⟩:=HL.out.sav l[k] (List.getElem_mem hlt2)
     have hst:Hid (l.take (k+1)=l.take k++[l[k]]):=List.take_succ_eq_append_getElem hlt2
     obtain⟨x,hx⟩:∃ x,l[k]=x:=⟨_,rfl⟩
     rw [hx] at g0 g1 g2 hD hd1 hi1 hi2 hsl hsd hst
     obtain⟨num,tm,sv⟩:=x
     simp only at g0 g1 g2 hD hd1 hi1 hi2 hsl hsd
     have hki:(k:Int)<l.length:=by omega
     have hnn:(0:Int)≤k:=by omega
     have hol:out.length≤k:=by rw [hout.out];simp;omega
     clear hx
     go_upto_region 10 with (fail)
     obtain⟨W1,hW1⟩:∃ W1,wp.alloc (.cells #[.int .i64 num,.int .i64 tm,.slice D sv.length dd] 158)=W1:=⟨_,rfl⟩
     rw [hW1]
     have hb1:Below wp.heap.size wp W1:=by rw [← hW1];exact ext_alloc (Below.refl _ _)
     have hr1:W1.heap[wp.heap.size]? = some (.cells #[.int .i64 num,.int .i64 tm,.slice D sv.length dd] 158 (0,0)):=by rw [← hW1];exact heap_alloc_new _ _
     have hs1:W1.heap.size=wp.heap.size+1:=by rw [← hW1];simp
     have HWR:=Lib.hid (snapWrites D dd sv.length sv W1 rfl ((hD.blk (w':=W1) (fun g hg=>hb1.block g (by have:g<w.heap.size:=hg;omega))).more (fun g hg=>by have:g<w.heap.size:=hg;show g<W1.heap.size;omega)) hsl hsd)
     obtain⟨r0,r1,r2,rf⟩:=blk3 hr1
     clear hW1 g0 g1 g2 hD
     go_wp2_with fail
     refine HWR.out.mono ?_
     rintro e w2 ⟨A3,c3,rfl,hox,hb2⟩
     obtain⟨_,k1,k2,k3⟩:=hox.parts
     have hr2:w2.heap[wp.heap.size]? = some (.cells #[.int .i64 num,.int .i64 tm,.slice D sv.length dd] 158 (0,0)):=(hb2.block _ (by omega)).trans hr1
     have HK3:=Lib.hid k3
     clear r0 r1 r2 rf hr1 HWR k3 hox
     obtain⟨r0,r1,r2,rf⟩:=blk3 hr2
     go_upto_region 11 with (fail)
     obtain⟨W3,hW3⟩:∃ W3,w2.setCell ⟨wp.heap.size,2,none⟩ (.slice A3 sv.length c3)=W3:=⟨_,rfl⟩
     rw [hW3]
     have hr3:W3.heap[wp.heap.size]? = some (.cells #[.int .i64 num,.int .i64 tm,.slice A3 sv.length c3] 158 (0,0)):=by rw [← hW3];exact blk3_set hr2 _
     have hs3:W3.heap.size=w2.heap.size:=by rw [← hW3];simp [World.setCell]
     have hs2:=hb2.size
     have hb3:Below wp.heap.size wp W3:=by rw [← hW3];exact (hb1.trans (hb2.mono hb1.size)).setCell (p:=⟨wp.heap.size,2,none⟩) (Nat.le_refl wp.heap.size) _
     have hK3:Hid (SlAt encWr W3 (Nw W1.heap.size W3.heap.size) A3 sv):=by
      rw [hs3]
      refine (HK3.out.more (fun g hg=>hg.1)).blk (fun g hg => ?_)
      rw [← hW3]
      exact Below.heap_setCell _ _ _ _ (by have:=hg.1;show g≠wp.heap.size;omega)
     have hs3g:w2.heap.size≤W3.heap.size:=by omega
     have hs1g:wp.heap.size+1≤W1.heap.size:=by omega
     have hq3:W3.heap[n0+1+1]? = some (.cells #[.slice B im.length vc,.slice D2 out.length dc] 26 (0,0)):=(hb3.block _ (by omega)).trans hp2.out
     clear r0 r1 r2 rf hr2 hW3 HK3 hb2 hb1 hs3 hs1
     obtain⟨r0,r1,r2,_⟩:=blk3 hr3
     obtain⟨_,q1,_⟩:=blk2 hq3
     have hO4:=Lib.hid ((hown.out.below hb3).alloc (.cells #[.int .i64 num,.int .i64 tm,.slice A3 sv.length c3] 158))
     have hO4o:=Lib.hid hO4.out.1
     have hlt1:=Lib.hid hown.out.lt
     have HRD:Hid (encSnp.rd (W3.alloc (.cells #[.int .i64 num,.int .i64 tm,.slice A3 sv.length c3] 158)) (fun g=>Nw wo.heap.size (W3.alloc (.cells #[.int .i64 num,.int .i64 tm,.slice A3 sv.length c3] 158)).heap.size g∧¬ Nw n0 (n0+3) g∧(Value.slice D2 out.length dc).ownBlock≠some g) [.int .i64 num,.int .i64 tm,.slice A3 sv.length c3] (num,tm,sv)) :=
      snp_mk (x:=(num,tm,sv)) hi1 hi2 k1 k2 (OwnX.since (X:=Nw n0 (n0+3)) (B:=W1.heap.size) ((hK3.out.blk (fun g hg=>Below.heap_alloc _ _ _ hg.2)).more (fun g hg=>hg.mono (Nat.le_refl _) (by simp))) (by omega) (fun g hg=>by have:=hg.2;omega) (fun g hg=>by have:=(hlt1.out g hg).2;omega))
     go_wp2_with (at_builtin;refine Hid.out ?_)
     change wpList _ _ _ _ _ _
     refine wpList_app1 (E:=encSnp) tySnps rfl _ _ rfl rfl hO4o.out (num,tm,sv) [.int .i64 num,.int .i64 tm,.slice A3 sv.length c3] rfl HRD.out (heap_alloc_new _ _) (fun _ h=>h.1.2) (by simp;omega) (by unfold maxLen;omega) (by omega) ?_
     intro A5 c5 w5 hown5 hg5 hat5
     have hz5:=hg5.size
     rw [World.size_alloc] at hz5
     have hnx:∀ g,Nw n0 (n0+3) g→w5.heap[g]? = wp.heap[g]? := fun g hg=>(hg5.block g (by have:=hg.2;rw [World.size_alloc];omega) (fun e=>hown.out.2 _ e.symm hg)).trans ((Below.heap_alloc _ _ _ (by have:=hg.2;omega)).trans (hb3.block g (by have:=hg.2;omega)))
     have hrow5:w5.heap[n0+1+1]? = some (.cells #[.slice B im.length vc,.slice D2 out.length dc] 26 (0,0)):=(hnx _ ⟨by omega,by omega⟩).trans hp2.out
     obtain⟨_,q5,f5⟩:=blk2 hrow5
     have hrow6:=blk2_1 hrow5 (.slice A5 (out.length+1) c5)
     have hO5:Hid (OwnX (Nw n0 (n0+3)) encSnp (w5.setCell ⟨n0+1+1,1,none⟩ (.slice A5 (out.length+1) c5)) wo.heap.size 158 (.slice A5 (out.length+1) c5) (out++[(num,tm,sv)])):=(hO4.out.app hown5 hg5 hat5 (fun g hg=>by have:=hg.2;simp;omega)).set (p:=⟨n0+1+1,1,none⟩) (by show Nw n0 (n0+3) (n0+1+1);exact⟨by omega,by omega⟩) _
     have hB5:Below wo.heap.size wp w5:=((hb3.mono hszp).alloc (by omega) (.cells #[.int .i64 num,.int .i64 tm,.slice A3 sv.length c3] 158)).grown hg5 (by simp;omega) (fun g h=>(hlt1.out g h).1)
     have hB6:Below n0 w (w5.setCell ⟨n0+1+1,1,none⟩ (.slice A5 (out.length+1) c5)):=(hBp.trans (hB5.mono (by omega))).setCell (p:=⟨n0+1+1,1,none⟩) (by show n0≤n0+1+1;omega) _
     have hp1':=Lib.hid ((heap_setCell_other w5 ⟨n0+1+1,1,none⟩ (n0+1) (.slice A5 (out.length+1) c5) (by show n0+1≠n0+1+1;omega)).trans ((hnx _ ⟨by omega,by omega⟩).trans hp1.out))
     have hkp':Hid (∀ g,g<wo.heap.size→¬ Nw n0 (n0+3) g→(w5.setCell ⟨n0+1+1,1,none⟩ (.slice A5 (out.length+1) c5)).heap[g]? = wo.heap[g]?):=fun g hg hn=>(heap_setCell_other _ _ _ _ (fun e=>hn (by rw [e];exact⟨by show n0≤n0+1+1;omega,by show n0+1+1<n0+3;omega⟩))).trans ((hB5.block g hg).trans (hkp.out g hg hn))
     have hz6:wo.heap.size≤(w5.setCell ⟨n0+1+1,1,none⟩ (.slice A5 (out.length+1) c5)).heap.size:=by simp [World.setCell];omega
     clear hown5 hg5 hat5 r0 r1 r2 hr3 q1 hq3 hrow5 hnx hB5
     go_wp2
     go_roundw
     case rel=>exact⟨k+1,A5,c5,out++[(num,tm,sv)],hlt2,by go_num,hB6,hz6,by rw [Hid,hst.out,hout.out],hp1'.out,by simpa [Hid] using hrow6,by simpa [Hid] using hO5.out,hkp'.out⟩
     case measure=>simp [intOf];omega
    ·have hkk:k=l.length:=by omega
     subst hkk
     rw [List.take_length] at hout
     obtain⟨q0,q1,_⟩:=blk2 hp2.out
     obtain⟨v0,v1,vf⟩:=blk2 hp1.out
     go_wp2_with fail
     change bodyPost _ _ _ _ _ ((wp.setCell ⟨n0+1,0,none⟩ (.slice B im.length vc)).setCell ⟨n0+1,1,none⟩ (.slice D2 out.length dc))
     have hz:=blk2_set hp1.out (.slice B im.length vc) (.slice D2 out.length dc)
     have hB6:Below n0 w ((wp.setCell ⟨n0+1,0,none⟩ (.slice B im.length vc)).setCell ⟨n0+1,1,none⟩ (.slice D2 out.length dc)):=(hBp.setCell (p:=⟨n0+1,0,none⟩) (by show n0≤n0+1;omega) _).setCell (p:=⟨n0+1,1,none⟩) (by show n0≤n0+1;omega) _
     have hO6:=((hown.out.set (p:=⟨n0+1,0,none⟩) (by show Nw n0 (n0+3) (n0+1);exact⟨by omega,by omega⟩) (.slice B im.length vc)).set (p:=⟨n0+1,1,none⟩) (by show Nw n0 (n0+3) (n0+1);exact⟨by omega,by omega⟩) (.slice D2 out.length dc))
     have hI6:SlAt (encSl encSec) ((wp.setCell ⟨n0+1,0,none⟩ (.slice B im.length vc)).setCell ⟨n0+1,1,none⟩ (.slice D2 out.length dc)) (Nw n0 wo.heap.size) B im :=
      (hIM.out.2.2.blk (fun g hg=>(heap_setCell_other _ _ _ _ (fun e=>hg.2 (by rw [e];exact⟨by show n0≤n0+1;omega,by show n0+1<n0+3;omega⟩))).trans ((heap_setCell_other _ _ _ _ (fun e=>hg.2 (by rw [e];exact⟨by show n0≤n0+1;omega,by show n0+1<n0+3;omega⟩))).trans (hkp.out g hg.1.2 hg.2)))).more (fun g hg=>hg.1)
     have hz6:wo.heap.size≤((wp.setCell ⟨n0+1,0,none⟩ (.slice B im.length vc)).setCell ⟨n0+1,1,none⟩ (.slice D2 out.length dc)).heap.size:=by simp [World.setCell];omega
     generalize (wp.setCell ⟨n0+1,0,none⟩ (.slice B im.length vc)).setCell ⟨n0+1,1,none⟩ (.slice D2 out.length dc)=W3 at hz hB6 hO6 hI6 hz6 ⊢
     obtain⟨z0,z1,_⟩:=blk2 hz
     refine bodyPost_ret (v := .agg #[.slice B im.length vc,.slice D2 out.length dc]) ?_ rfl ?_
     ·simp [results,Tryz.results127,Tryz.f127,go_sem,z0,z1]
     ·have e:=hout.out
      rw [e] at hO6 ⊢
      exact⟨B,vc,D2,dc,wo.heap.size,rfl,⟨hIM.out.1,hIM.out.2.1,by omega,hz6,by rw [hn0];exact hI6,hO6.var (fun g hg=>hg.elim)⟩,by rw [hn0];exact hB6⟩
end Go.Proofs.YtgndgkjefgjamaaGreat

namespace Go.Proofs.YtgndgkjefgjamaaGreat
open Go.RowKit Go.Shelf
attribute [local go_sem] Oper.semAt_some

theorem blk3_all36 {w:World} {b:Nat} {T:TypeId} {c0 c1 c2:Value} (h:w.heap[b]? = some (.cells #[c0,c1,c2] T (0,0))) (u v t:Value):(((w.setCell ⟨b,0,none⟩ u).setCell ⟨b,1,none⟩ v).setCell ⟨b,2,none⟩ t).heap[b]? = some (.cells #[u,v,t] T (0,0)):=by
 simp [World.setCell,Array.getElem?_modify,h]
theorem inT_any (n:Int) (w:World) (q:Bool) (hq:inT n=q):Calls Tryz.prog 108 #[.int .i64 n] w fun e w'=>e = .returned (.bool q)∧w'=w:=by
 have HQ:=Lib.hid hq;clear hq
 by_cases h1:0≤n
 ·by_cases h2:n≤1073741824
  ·go_enter Tryz.func108,Tryz.ntmps108
   go_wp2
   go_ret
   exact⟨ret_bool (show true=q by rw [← HQ.out,inT,decide_eq_true ⟨h1,h2⟩]),rfl⟩
  ·go_enter Tryz.func108,Tryz.ntmps108
   go_wp2
   go_ret
   exact⟨ret_bool (show false=q by rw [← HQ.out,inT,decide_eq_false (by omega)]),rfl⟩
 ·go_enter Tryz.func108,Tryz.ntmps108
  go_wp2
  go_ret
  exact⟨ret_bool (show false=q by rw [← HQ.out,inT,decide_eq_false (by omega)]),rfl⟩
set_option maxHeartbeats 1000000 in
theorem snapSizes (A:Option Addr) (c n:Nat) (im:Img) (w:World) (hn:im.length=n) (h1:SlAt (encSl encSec) w (Bl w.heap.size) A im) (hl:n≤100000) :
  Calls Tryz.prog 109 #[.slice A n c] w fun e w'=>∃ B vc,e = .returned (.slice B n vc)∧n≤vc∧vc≤maxLen∧SlAt encInt w' (Nw w.heap.size w'.heap.size) B (lens im)∧Below w.heap.size w w':=by
 subst hn
 have H1:Hid (∀ w',Below w.heap.size w w'→SlAt (encSl encSec) w' (Bl w.heap.size) A im):=fun w' hb=>h1.below hb
 clear h1
 go_enter Tryz.func109,Tryz.ntmps109
 go_wp2
 go_loopw [3,8] (fun v i wr=>∃ (k:Nat) (B:Option Addr) (vc:Nat) (out:List Int),k≤im.length∧i = .int .i64 k∧v = .slice B out.length vc∧Below w.heap.size w wr∧Hid (out=lens (im.take k))∧Hid (OwnX (fun _=>False) encInt wr w.heap.size 3 (.slice B out.length vc) out)) (fun _ i _=>im.length - (intOf i).toNat)
 case atStart=>exact⟨0,none,0,[],by omega,rfl,rfl,Below.refl _ _,by simp [Hid,lens],OwnX.nil_⟩
 case round =>
  obtain⟨wo,rfl⟩:∃ wo:World,wo=wr:=⟨_,rfl⟩
  obtain⟨k,B,vc,out,hk,rfl,rfl,hB,hout,hown⟩:=hrel
  by_cases hlt:k<im.length
  ·obtain⟨b,off,D,dc,rfl,hb,g0,hD,hd1,hd2⟩:=(H1.out wo hB).sl hlt
   have hst:Hid (lens (im.take (k+1))=lens (im.take k)++[(im[k].length:Int)]):=by rw [Hid,List.take_succ_eq_append_getElem hlt,lens,List.map_append];rfl
   obtain⟨n,hn⟩:∃ n,im[k].length=n:=⟨_,rfl⟩
   rw [hn] at g0 hd1 hst
   have hki:(k:Int)<im.length:=by omega
   have hnn:(0:Int)≤k:=by omega
   have hol:out.length≤k:=by rw [hout.out];simp [lens];omega
   have hszo:=hB.size
   have hn63:(n:Int)≤9223372036854775807:=by unfold maxLen at hd2;omega
   have hO4:=Lib.hid (hown.out.alloc (.cells #[.int .i64 n] 3))
   have hO4o:=Lib.hid hO4.out.1
   have hlo:=Lib.hid hown.out.lt
   have HRD:Hid (encInt.rd (wo.alloc (.cells #[.int .i64 n] 3)) (fun g=>Nw w.heap.size (wo.alloc (.cells #[.int .i64 n] 3)).heap.size g∧¬ (fun _=>False) g∧(Value.slice B out.length vc).ownBlock≠some g) [.int .i64 n] (n:Int)):=⟨rfl,by unfold I64;omega⟩
   clear hn hD hd1 hd2
   go_wp2_with (at_builtin;refine Hid.out ?_)
   change wpList _ _ _ _ _ _
   refine wpList_app1 (E:=encInt) (t:=113) (e:=3) (bytes:=8) (sliceTy_mk (z := .int .i64 0) Tryz.underlying113 (by kernel_rfl) rfl (by decide)) rfl _ _ rfl rfl hO4o.out (n:Int) [.int .i64 n] rfl HRD.out (heap_alloc_new _ _) (fun _ h=>h.1.2) (by simp;omega) (by unfold maxLen;omega) (by omega) ?_
   intro A5 c5 w5 hown5 hg5 hat5
   have hO5:=Lib.hid (hO4.out.app hown5 hg5 hat5 (fun _ h=>h.elim))
   have hB5:=Lib.hid ((hB.alloc (by omega) (.cells #[.int .i64 n] 3)).grown hg5 (by simp;omega) (fun g h=>(hlo.out g h).1))
   clear hown5 hg5 hat5 g0
   go_wp2
   go_roundw
   case rel=>exact⟨k+1,A5,c5,out++[(n:Int)],hlt,by go_num,by simp,hB5.out,by rw [Hid,hst.out,hout.out],by have:=hO5.out;simpa [Hid] using this⟩
   case measure=>simp [intOf];omega
  ·have hkk:k=im.length:=by omega
   subst hkk
   go_wp2
   go_ret
   have e:=hout.out
   rw [List.take_length] at e
   obtain⟨_,p1,p2,p3⟩:=hown.out.parts
   have el:out.length=im.length:=by rw [e];simp [lens]
   refine⟨B,vc,by rw [← el];rfl,by omega,p2, ?_,hB⟩
   rw [← e]
   exact p3.more (fun _ h=>h.1)
set_option maxHeartbeats 4000000 in
set_option maxRecDepth 100000 in
theorem snCheck_any (A A2:Option Addr) (c c2 n m:Nat) (im:Img) (l:List Snp) (r:Int) (w:World) (hn:im.length=n) (hm:l.length=m) (hr:snE (im,l)=r) (h1:SlAt (encSl encSec) w (Bl w.heap.size) A im) (h2:SlAt encSnp w (Bl w.heap.size) A2 l) (hl1:n≤100000) (hl2:m≤9223372036854775807) :
  Calls Tryz.prog 53 #[.agg #[.slice A n c,.slice A2 m c2]] w fun e w'=>e = .returned (.int .i64 r)∧Below w.heap.size w w':=by
 subst hn hm
 have HR:=Lib.hid hr;clear hr
 have H1:Hid (∀ w',Below w.heap.size w w'→SlAt (encSl encSec) w' (Bl w.heap.size) A im):=fun w' hb=>h1.below hb
 have H2:Hid (∀ w',Below w.heap.size w w'→SlAt encSnp w' (Bl w.heap.size) A2 l):=fun w' hb=>h2.below hb
 clear h1 h2
 obtain⟨W0,hW0⟩:∃ W0,w.alloc (.cells #[.slice A im.length c,.slice A2 l.length c2] 26)=W0:=⟨_,rfl⟩
 have hB0:Below w.heap.size w W0:=by rw [← hW0];exact ext_alloc (Below.refl _ _)
 have hs0:Hid (W0.heap.size=w.heap.size+1):=by rw [← hW0];simp [Hid]
 have hr0:W0.heap[w.heap.size]? = some (.cells #[.slice A im.length c,.slice A2 l.length c2] 26 (0,0)):=by rw [← hW0];exact heap_alloc_new _ _
 have HRW:Hid (∀ W,Below W0.heap.size W0 W→W.cell? ⟨w.heap.size,0,none⟩=some (.slice A im.length c)∧W.cell? ⟨w.heap.size,1,none⟩=some (.slice A2 l.length c2)):=fun W hb=>by
  have:=hs0.out
  obtain⟨a,b,_⟩:=blk2 ((hb.block _ (by omega)).trans hr0)
  exact⟨a,b⟩
 obtain⟨s0,hs0'⟩:∃ s0,Hid (sizesN (lens im)=s0):=⟨_,rfl⟩
 have HIC:=Lib.hid (imgCheck_any A c im.length im W0 rfl ((H1.out W0 hB0).more (Bl.mono hB0.size)) (by omega) s0 hs0'.out)
 have HSE:Hid (snE (im,l)=if s0≠0 then s0 else if 1024<l.length then 6 else snpsE (lens im) (-1) 0 l):=by rw [Hid,snE,hs0'.out]
 obtain⟨r0,r1⟩:=HRW.out W0 (Below.refl _ _)
 clear hr0
 go_enter Tryz.func53,Tryz.ntmps53
 go_wp2_with fail
 refine HIC.out.mono ?_
 rintro e w1 ⟨rfl,hb1⟩
 have hbw1:Below w.heap.size w w1:=ext_trans hB0 hb1
 clear r0 r1 HIC hW0
 by_cases hx0:s0=0
 case neg =>
  have hx0':(s0 != 0)=true:=by simp [hx0]
  have hE:Hid (s0=r):=by rw [Hid, ← HR.out,HSE.out,if_pos hx0]
  clear hx0
  go_wp2_with fail
  go_ret
  exact⟨ret_int hE.out,hbw1⟩
 have hx0':(s0 != 0)=false:=by simp [hx0]
 have HX:=Lib.hid hx0
 clear hx0
 obtain⟨r0,r1⟩:=HRW.out w1 hb1
 by_cases hl:l.length≤1024
 case neg =>
  have hl':(1024:Int)<l.length:=by omega
  have hE:Hid ((6:Int)=r):=by rw [Hid, ← HR.out,HSE.out,if_neg (by rw [HX.out];decide),if_pos (by omega)]
  clear hl
  go_wp2_with fail
  go_ret
  exact⟨ret_int hE.out,hbw1⟩
 have hl':¬ (1024:Int)<l.length:=by omega
 have hR2:Hid (snpsE (lens im) (-1) 0 l=r):=by rw [Hid, ← HR.out,HSE.out,if_neg (by rw [HX.out];decide),if_neg (by omega)]
 obtain⟨sz,hsz⟩:∃ sz,Hid (lens im=sz):=⟨_,rfl⟩
 rw [hsz.out] at hR2
 have hszl:sz.length=im.length:=by rw [← hsz.out];simp [lens]
 clear HSE HR hs0'
 go_upto_region 7 with (fail)
 obtain⟨lb,hlb⟩:∃ lb,w1.heap.size=lb:=⟨_,rfl⟩
 obtain⟨w2,hw2⟩:∃ w2,w1.alloc (.cells #[.int .i64 (-1),.int .i64 0,.slice none 0 0] 158)=w2:=⟨_,rfl⟩
 rw [hw2]
 have hb2:Below lb w1 w2:=by rw [← hw2, ← hlb];exact ext_alloc (Below.refl _ _)
 have hr2:w2.heap[lb]? = some (.cells #[.int .i64 (-1),.int .i64 0,.slice none 0 0] 158 (0,0)):=by rw [← hw2, ← hlb];exact heap_alloc_new _ _
 rw [hlb]
 have HRW2:Hid (∀ W,Below lb w1 W→W.cell? ⟨w.heap.size,0,none⟩=some (.slice A im.length c)∧W.cell? ⟨w.heap.size,1,none⟩=some (.slice A2 l.length c2)):=fun W hb=>HRW.out W (ext_trans hb1 (by rw [← hlb] at hb;exact hb))
 have hbwl:Hid (∀ W,Below lb w1 W→Below w.heap.size w W):=fun W hb=>ext_trans hbw1 (by rw [← hlb] at hb;exact hb)
 clear r0 r1 hw2 HRW
 obtain⟨r0,r1⟩:=HRW2.out w2 hb2
 go_wp2_with fail
 clear r0 r1
 go_loopw [22] (fun i wr=>∃ (k:Nat) (D:Option Addr) (d e:Nat) (ln lt:Int),k≤l.length∧i = .int .i64 k∧Below lb w1 wr∧Hid (ln=lastN (l.take k))∧Hid (lt=lastT (l.take k))∧Hid (wr.heap[lb]? = some (.cells #[.int .i64 ln,.int .i64 lt,.slice D d e] 158 (0,0)))∧Hid (snpsE sz (-1) 0 (l.take k)=0)) (fun i _=>l.length - (intOf i).toNat)
 case atStart=>exact⟨0,none,0,0, -1,0,by omega,rfl,hb2,by simp [Hid,lastN],by simp [Hid,lastT],hr2,by simp [Hid,snpsE]⟩
 case round =>
  obtain⟨wo,rfl⟩:∃ wo:World,wo=wr:=⟨_,rfl⟩
  obtain⟨k,D,d,ee,ln,lt,hk,rfl,hB,hln,hlt_,hrow,hok⟩:=hrel
  have hBw:=hbwl.out wo hB
  by_cases hlt:k<l.length
  ·obtain⟨b,off,Dx,dx,rfl,hb,g0,g1,g2,hDx,hd1,hd2,hi1,hi2⟩:=(H2.out wo hBw).snp hlt
   have hstep:=snpsE_step hok.out hlt
   rw [← hln.out, ← hlt_.out] at hstep
   have hbad:=fun h=>(snpsE_bad (sz:=sz) (l:=l) (k:=k) h).symm
   rw [hstep,hR2.out] at hbad
   have hlast:=lastN_take hlt
   obtain⟨x,hx⟩:∃ x,l[k]=x:=⟨_,rfl⟩
   rw [hx] at g0 g1 g2 hDx hd1 hi1 hi2 hstep hbad hlast
   obtain⟨num,tm,sv⟩:=x
   simp only at g0 g1 g2 hDx hd1 hi1 hi2 hlast
   have HBAD:=Lib.hid hbad
   have HSTEP:=Lib.hid hstep
   have HLAST:=Lib.hid hlast
   have hki:(k:Int)<l.length:=by omega
   have hnn:(0:Int)≤k:=by omega
   have hszw:=hBw.size
   have hslb:lb<wo.heap.size:=(Array.getElem?_eq_some_iff.1 hrow.out).1
   clear hx hstep hbad hlast
   go_upto_region 10 with (fail)
   obtain⟨W1,hW1⟩:∃ W1,wo.alloc (.cells #[.int .i64 num,.int .i64 tm,.slice Dx sv.length dx] 158)=W1:=⟨_,rfl⟩
   rw [hW1]
   have hb1:Below wo.heap.size wo W1:=by rw [← hW1];exact ext_alloc (Below.refl _ _)
   have hrx:W1.heap[wo.heap.size]? = some (.cells #[.int .i64 num,.int .i64 tm,.slice Dx sv.length dx] 158 (0,0)):=by rw [← hW1];exact heap_alloc_new _ _
   have hs1:wo.heap.size<W1.heap.size:=by rw [← hW1];simp
   have hBW1:Below lb w1 W1:=hB.trans (hb1.mono (by omega))
   have hrl1:=(hb1.block lb hslb).trans hrow.out
   have HXX:Hid (∀ W,Below W1.heap.size W1 W→(W.cell? ⟨wo.heap.size,0,none⟩=some (.int .i64 num)∧W.cell? ⟨wo.heap.size,1,none⟩=some (.int .i64 tm)∧W.cell? ⟨wo.heap.size,2,none⟩=some (.slice Dx sv.length dx))∧(W.cell? ⟨lb,0,none⟩=some (.int .i64 ln)∧W.cell? ⟨lb,1,none⟩=some (.int .i64 lt))∧W.cell? ⟨w.heap.size,0,none⟩=some (.slice A im.length c)∧W.cell? ⟨w.heap.size,1,none⟩=some (.slice (some ⟨b,off,none⟩) l.length c2)):=fun W hb=>by
    obtain⟨x0,x1,x2,_⟩:=blk3 ((hb.block _ hs1).trans hrx)
    obtain⟨l0,l1,_,_⟩:=blk3 ((hb.block lb (by omega)).trans hrl1)
    exact⟨⟨x0,x1,x2⟩,⟨l0,l1⟩,HRW2.out W (hBW1.trans (hb.mono (by omega)))⟩
   have hBwW1:=hbwl.out W1 hBW1
   have hDx1:SlAt encWr W1 (Bl w.heap.size) Dx sv:=hDx.blk (fun g hg=>hb1.block g (by have:g<w.heap.size:=hg;omega))
   have HDX:=Lib.hid hDx1
   clear hW1 hrx hrl1 g0 g1 g2 hDx hDx1
   obtain⟨⟨x0,x1,x2⟩,⟨l0,l1⟩,c0,c1⟩:=HXX.out W1 (Below.refl _ _)
   obtain⟨q1,hq1⟩:∃ q,Hid (inT num=q):=⟨_,rfl⟩
   have HI1:=Lib.hid (inT_any num W1 q1 hq1.out)
   go_wp2_with fail
   refine HI1.out.mono ?_
   rintro e w3 ⟨rfl,rfl⟩
   clear HI1
   cases q1 with
   | false =>
     have hE:Hid ((2:Int)=r):=by
      have e0:snpE sz ln lt (num,tm,sv)=2:=by unfold snpE;rw [if_pos hq1.out]
      have:=HBAD.out (by rw [e0];decide)
      rw [Hid, ← this,e0]
     go_wp2_with fail
     go_ret
     exact⟨ret_int hE.out,hBwW1⟩
   | true =>
   by_cases hnl:num≤ln
   case pos =>
    have hE:Hid ((8:Int)=r):=by
     have e0:snpE sz ln lt (num,tm,sv)=8:=by unfold snpE;rw [if_neg (by rw [hq1.out];decide),if_pos hnl]
     have:=HBAD.out (by rw [e0];decide)
     rw [Hid, ← this,e0]
    go_wp2_with fail
    go_ret
    exact⟨ret_int hE.out,hBwW1⟩
   have hnl':decide (num≤ln)=false:=decide_eq_false hnl
   obtain⟨q2,hq2⟩:∃ q,Hid (inT tm=q):=⟨_,rfl⟩
   have HI2:=Lib.hid (inT_any tm w3 q2 hq2.out)
   go_wp2_with fail
   refine HI2.out.mono ?_
   rintro e w4 ⟨rfl,rfl⟩
   clear HI2
   have h24:Hid ((inT tm=false∨tm<lt)→(24:Int)=r):=fun h=>by
    have e0:snpE sz ln lt (num,tm,sv)=24:=by unfold snpE;rw [if_neg (by rw [hq1.out];decide),if_neg (by show ¬ num≤ln;omega),if_pos h]
    have:=HBAD.out (by rw [e0];decide)
    rw [← this,e0]
   cases q2 with
   | false =>
     have hE:=Lib.hid (h24.out (Or.inl hq2.out))
     go_wp2_with fail
     go_ret
     exact⟨ret_int hE.out,hBwW1⟩
   | true =>
   by_cases htl:tm<lt
   case pos =>
    have hE:=Lib.hid (h24.out (Or.inr htl))
    go_wp2_with fail
    go_ret
    exact⟨ret_int hE.out,hBwW1⟩
   have htl':decide (tm<lt)=false:=decide_eq_false htl
   have hee:Hid (snpE sz ln lt (num,tm,sv)=chkS sv sz):=by unfold snpE;rw [Hid,if_neg (by rw [hq1.out];decide),if_neg (by show ¬ num≤ln;omega),if_neg (by rw [hq2.out];simp;omega)]
   obtain⟨ev,hev⟩:∃ ev,chkS sv sz=ev:=⟨_,rfl⟩
   rw [hev] at hee
   rw [hee.out] at HBAD
   have HSZ:=Lib.hid (snapSizes A c im.length im w4.drew rfl (((H1.out w4 hBwW1).drew (w':=w4.drew) ⟨1,rfl⟩).more (Bl.mono hBwW1.size)) hl1)
   have HCK:Hid (∀ W Z zc,Below w4.heap.size w4 W→SlAt encInt W (Bl W.heap.size) Z sz→Calls Tryz.prog 57 #[.slice Dx sv.length dx,.slice Z im.length zc] W fun e w'=>e = .returned (.int .i64 ev)∧Below W.heap.size W w'):=fun W Z zc hb hz=>by
    have h:=coCheck_any Dx Z dx zc sv sz W ((HDX.out.blk (fun g hg=>hb.block g (Nat.lt_of_lt_of_le hg hBwW1.size))).more (fun g hg=>Nat.lt_of_lt_of_le hg (Nat.le_trans hBwW1.size hb.size))) (by unfold maxLen at hd2;omega) hz (by omega) ev hev
    rw [hszl] at h
    exact h
   clear hnl htl h24 hq1 hq2 hev
   have hc0:=HXX.out w4.drew (Below.refl _ _).drew
   go_upto_region 16 with (fail)
   go_region_held3 (fun W=>(W.cell? ⟨wo.heap.size,0,none⟩=some (.int .i64 num)∧W.cell? ⟨wo.heap.size,1,none⟩=some (.int .i64 tm)∧W.cell? ⟨wo.heap.size,2,none⟩=some (.slice Dx sv.length dx))∧(W.cell? ⟨lb,0,none⟩=some (.int .i64 ln)∧W.cell? ⟨lb,1,none⟩=some (.int .i64 lt))∧W.cell? ⟨w.heap.size,0,none⟩=some (.slice A im.length c)∧W.cell? ⟨w.heap.size,1,none⟩=some (.slice (some ⟨b,off,none⟩) l.length c2)) (first | exact hc0 | exact HXX.out _ hx6 | exact HXX.out _ hx5) (first | (go_at_call 57;refine (HCK.out w5 Z5 zc5 hx5 z5).mono ?_;rintro e w6 ⟨rfl,h6⟩;have hx6:Below w4.heap.size w4 w6:=ext_trans hx5 h6) | (go_at_call 109;refine HSZ.out.mono ?_;rintro e w5 ⟨Z5,zc5,rfl,zk1,zk2,zs5,h5⟩;have hx5:Below w4.heap.size w4 w5:=bUn h5;have z5:SlAt encInt w5 (Bl w5.heap.size) Z5 sz:=by rw [← hsz.out];exact zs5.more (fun g hg=>hg.2)))
   have hb6:=hx6
   have hBw6:Below w.heap.size w w6:=ext_trans hBwW1 hb6
   obtain⟨⟨x0,x1,x2⟩,⟨l0,l1⟩,c0,c1⟩:=HXX.out w6 hb6
   have hrl6:w6.heap[lb]? = some (.cells #[.int .i64 ln,.int .i64 lt,.slice D d ee] 158 (0,0)):=(hb6.block lb (by omega)).trans ((hb1.block lb hslb).trans hrow.out)
   clear hc0 h5 h6 hx5 hx6 zs5 z5 zk1 zk2 HSZ HCK
   by_cases hv0:ev=0
   case neg =>
    have hv0':(ev != 0)=true:=by simp [hv0]
    have hE:=Lib.hid (HBAD.out hv0)
    clear hv0
    go_wp2_with fail
    go_ret
    exact⟨ret_int hE.out,hBw6⟩
   have hv0':(ev != 0)=false:=by simp [hv0]
   have hokn:Hid (snpsE sz (-1) 0 (l.take (k+1))=0):=by rw [Hid,HSTEP.out,hee.out,hv0]
   clear hv0
   obtain⟨l0',l1',l2',lf⟩:=blk3 hrl6
   go_wp2_with fail
   go_roundw
   case rel =>
    have hB6:Below lb w1 w6:=hBW1.trans ((hb6.mono (by omega)))
    exact⟨k+1,Dx,sv.length,dx,num,tm,hlt,by go_num,((hB6.setCell (p:=⟨lb,0,none⟩) (Nat.le_refl lb) _).setCell (p:=⟨lb,1,none⟩) (Nat.le_refl lb) _).setCell (p:=⟨lb,2,none⟩) (Nat.le_refl lb) _,HLAST.out.1.symm,HLAST.out.2.symm,blk3_all36 hrl6 _ _ _,hokn.out⟩
   case measure=>simp [intOf];omega
  ·have hkk:k=l.length:=by omega
   subst hkk
   rw [List.take_length] at hok
   have hE:Hid ((0:Int)=r):=by rw [Hid, ← hR2.out,hok.out]
   go_wp2
   go_ret
   exact⟨ret_int hE.out,hBw⟩
end Go.Proofs.YtgndgkjefgjamaaGreat

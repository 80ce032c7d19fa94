/-
  Readings: which plain data the cells of a value hold in a world, whatever the type; what keeps a reading; slices that a call owns. No program in sight.; append onto a slice that the call owns, whatever its elements: one law for elements that were just laid, one for a slice that reads as a list. No program in sight.; copy into an owned slice whose elements have any size. No program in sight.; What all chapters share: sectors held against each other, blocks of few cells, cmp.Compare.
-/
import Derived.WalkKit
import Derived.WalkSpells
import Derived.WalkLawsBesides
import Derived.Lib.Hide
import Derived.Deep.QuietTactic
import Derived.BigQuiet
import Derived.StillTailTactics
import Derived.Deep.RegionHeld3
import Derived.Maps.AppendAt
import Derived.Deep.AppendLies
import Derived.RangeFuncNested
import Derived.RangeFuncBound
import Derived.RangeFuncCalls
import Derived.RangeFuncLeaves
import Derived.RangeFuncBox
import Derived.Shelf.Abstract
import Derived.Shelf.RegionOpen
import Derived.OwnWalkIn
import Derived.TacticsInMore
import Derived.LoopNIn
import Derived.LoopIn
import Derived.Laws.CopyOwn
import Derived.Test.YtgndgkjefgjamaaGreatProg
import Derived.ChangeKeysEq
set_option linter.unusedVariables false
set_option linter.unusedSimpArgs false
set_option linter.unusedSectionVars false
set_option linter.unnecessarySimpa false
namespace Go.Proofs.YtgndgkjefgjamaaGreat
open Go.RowKit

def All2 {α β:Type} (R:α→β→Prop):List α→List β→Prop
 | [],[]=>True
 | a :: l,b :: m=>R a b∧All2 R l m
 | _,_=>False
section
variable {α β:Type} {R R':α→β→Prop}
theorem All2.length:∀ {l:List α} {m:List β},All2 R l m→l.length=m.length
 | [],[],_=>rfl
 | _ :: _,_ :: _,h=>by simp [All2.length h.2]
 | [],_ :: _,h=>h.elim
 | _ :: _,[],h=>h.elim
theorem All2.mono (hr:∀ a b,R a b→R' a b):∀ {l:List α} {m:List β},All2 R l m→All2 R' l m
 | [],[],_=>trivial
 | _ :: _,_ :: _,h=>⟨hr _ _ h.1,All2.mono hr h.2⟩
 | [],_ :: _,h=>h.elim
 | _ :: _,[],h=>h.elim
theorem All2.get:∀ {l:List α} {m:List β},All2 R l m→∀ {i:Nat} {b:β},m[i]? = some b→∃ a,l[i]? = some a∧R a b
 | [],[],_,_,_,h=>by simp at h
 | a :: _,_ :: _,h,0,_,hb=>by
   simp at hb;subst hb
   exact⟨a,rfl,h.1⟩
 | _ :: _,_ :: _,h,i+1,b,hb=>by
   obtain⟨x,hx,hr⟩:=All2.get h.2 (i:=i) (b:=b) (by simpa using hb)
   exact⟨x,by simpa using hx,hr⟩
 | [],_ :: _,h,_,_,_=>h.elim
 | _ :: _,[],h,_,_,_=>h.elim
theorem All2.append:∀ {l l':List α} {m m':List β},All2 R l m→All2 R l' m'→All2 R (l++l') (m++m')
 | [],_,[],_,_,h'=>h'
 | _ :: _,_,_ :: _,_,h,h'=>⟨h.1,All2.append h.2 h'⟩
 | [],_,_ :: _,_,h,_=>h.elim
 | _ :: _,_,[],_,h,_=>h.elim
theorem All2.set:∀ {l:List α} {m:List β},All2 R l m→∀ {i:Nat} {a:α} {b:β},R a b→All2 R (l.set i a) (m.set i b)
 | [],[],_,_,_,_,_=>trivial
 | _ :: _,_ :: _,h,0,_,_,hr=>⟨hr,h.2⟩
 | _ :: _,_ :: _,h,_+1,_,_,hr=>⟨h.1,All2.set h.2 hr⟩
 | [],_ :: _,h,_,_,_,_=>h.elim
 | _ :: _,[],h,_,_,_,_=>h.elim
theorem All2.take:∀ {l:List α} {m:List β} (n:Nat),All2 R l m→All2 R (l.take n) (m.take n)
 | [],[],n,_=>by simp [All2]
 | _ :: _,_ :: _,0,_=>by simp [All2]
 | _ :: _,_ :: _,n+1,h=>⟨h.1,All2.take n h.2⟩
 | [],_ :: _,_,h=>h.elim
 | _ :: _,[],_,h=>h.elim
theorem All2.mk:∀ {l:List α} {m:List β},l.length=m.length→(∀ (i:Nat) a b,l[i]? = some a→m[i]? = some b→R a b)→All2 R l m
 | [],[],_,_=>trivial
 | a :: l,b :: m,h,hr=>⟨hr 0 a b rfl rfl,All2.mk (by simpa using h) (fun i x y hx hy=>hr (i+1) x y (by simpa using hx) (by simpa using hy))⟩
 | [],_ :: _,h,_=>by simp at h
 | _ :: _,[],h,_=>by simp at h
end

theorem flatten_len {α:Type} (size:Nat):∀ (l:List (List α)),(∀ x∈l,x.length=size)→l.flatten.length=l.length * size
 | [],_=>by simp
 | x :: l,h=>by
   rw [List.flatten_cons,List.length_append,flatten_len size l (fun y hy=>h y (by simp [hy])),h x (by simp),List.length_cons,Nat.succ_mul]
   omega
theorem flatten_at {α:Type} (size:Nat):∀ (l:List (List α)) (i j:Nat) (x:List α) (v:α),(∀ x∈l,x.length=size)→l[i]? = some x→x[j]? = some v→l.flatten[i * size+j]? = some v
 | [],_,_,_,_,_,h,_=>by simp at h
 | y :: l,0,j,x,v,hs,h,hv=>by
   simp at h;subst h
   have hj:j<y.length:=(List.getElem?_eq_some_iff.1 hv).1
   simp [List.getElem?_append_left hj,hv]
 | y :: l,i+1,j,x,v,hs,h,hv=>by
   have hy:=hs y (by simp)
   rw [List.flatten_cons,List.getElem?_append_right (by rw [hy,Nat.succ_mul];omega),hy]
   have:=flatten_at size l i j x v (fun z hz=>hs z (by simp [hz])) (by simpa using h) hv
   rw [← this]
   congr 1
   rw [Nat.succ_mul];omega

structure Enc (α:Type) where
 size:Nat
 rd:World→(Nat→Prop)→List Value→α→Prop
 len:∀ {w:World} {S:Nat→Prop} {cs:List Value} {x:α},rd w S cs x→cs.length=size
 one:∀ {w:World} {S:Nat→Prop} {cs:List Value} {x:α},rd w S cs x→∀ v∈cs,v.oneCell'=true
 keep:∀ {w w':World} {S S':Nat→Prop} {cs:List Value} {x:α},rd w S cs x→(∀ p:Addr,S p.block→w'.cell? p=w.cell? p)→(∀ b,S b→S' b)→rd w' S' cs x

def Bl (B:Nat) (b:Nat):Prop:=b<B
theorem Bl.mono {B B':Nat} (h:B≤B') (b:Nat) (hb:Bl B b):Bl B' b:=Nat.lt_of_lt_of_le hb h

section
variable {α:Type} {E:Enc α} {w w':World} {S S':Nat→Prop} {cs:List Value} {x:α}
theorem Enc.more (h:E.rd w S cs x) (hS:∀ b,S b→S' b):E.rd w S' cs x:=E.keep h (fun _ _=>rfl) hS
theorem Enc.blk (h:E.rd w S cs x) (hk:∀ b,S b→w'.heap[b]? = w.heap[b]?):E.rd w' S cs x:=E.keep h (fun _ hp=>World.cell?_of_block (hk _ hp)) (fun _ h=>h)
theorem Enc.below {B:Nat} (h:E.rd w (Bl B) cs x) (hb:Below B w w'):E.rd w' (Bl B) cs x:=E.blk h hb.block
theorem Enc.belowUp {B:Nat} (h:E.rd w (Bl B) cs x) (hb:Below B w w') {B':Nat} (hB:B≤B'):E.rd w' (Bl B') cs x:=Enc.more (E.below h hb) (Bl.mono hB)
end

def I64 (n:Int):Prop := -9223372036854775808≤n∧n≤9223372036854775807
def encInt:Enc Int where
 size:=1
 rd _ _ cs x:=cs=[.int .i64 x]∧I64 x
 len h:=by simp [h.1]
 one h:=by simp [h.1,Value.oneCell']
 keep h _ _:=h
def encU64:Enc Int where
 size:=1
 rd _ _ cs x:=cs=[.int .u64 x]∧0≤x∧x<18446744073709551616
 len h:=by simp [h.1]
 one h:=by simp [h.1,Value.oneCell']
 keep h _ _:=h
def encU8:Enc Int where
 size:=1
 rd _ _ cs x:=cs=[.int .u8 x]∧0≤x∧x<256
 len h:=by simp [h.1]
 one h:=by simp [h.1,Value.oneCell']
 keep h _ _:=h
abbrev Sec:=List Int
def OkSec (s:Sec):Prop:=s.length=8∧∀ x∈s,0≤x∧x<256
def secV (s:Sec):List Value:=s.map (Value.int .u8)
def encSec:Enc Sec where
 size:=8
 rd _ _ cs x:=cs=secV x∧OkSec x
 len h:=by rw [h.1,secV,List.length_map,h.2.1]
 one h:=by rw [h.1];intro v hv;obtain⟨n,_,rfl⟩:=List.mem_map.1 hv;rfl
 keep h _ _:=h
def encPair {α β:Type} (E:Enc α) (F:Enc β):Enc (α × β) where
 size:=E.size+F.size
 rd w S cs x:=∃ c1 c2,cs=c1++c2∧E.rd w S c1 x.1∧F.rd w S c2 x.2
 len h:=by obtain⟨c1,c2,rfl,h1,h2⟩:=h;rw [List.length_append,E.len h1,F.len h2]
 one h:=by
  obtain⟨c1,c2,rfl,h1,h2⟩:=h
  intro v hv
  rcases List.mem_append.1 hv with hv | hv
  ·exact E.one h1 v hv
  ·exact F.one h2 v hv
 keep h hk hS:=by
  obtain⟨c1,c2,rfl,h1,h2⟩:=h
  exact⟨c1,c2,rfl,E.keep h1 hk hS,F.keep h2 hk hS⟩
def SlAt {α:Type} (E:Enc α) (w:World) (S:Nat→Prop) (A:Option Addr) (l:List α):Prop :=
 l≠[]→∃ b off,A=some ⟨b,off,none⟩∧S b∧∀ (i:Nat) x,l[i]? = some x→∃ cs,(∀ j v,cs[j]? = some v→w.cell? ⟨b,off+i * E.size+j,none⟩=some v)∧E.rd w S cs x
theorem SlAt.keep {α:Type} {E:Enc α} {w w':World} {S S':Nat→Prop} {A:Option Addr} {l:List α} (h:SlAt E w S A l) (hk:∀ p:Addr,S p.block→w'.cell? p=w.cell? p) (hS:∀ b,S b→S' b):SlAt E w' S' A l:=fun hn=>by
 obtain⟨b,off,e,hb,hc⟩:=h hn
 refine⟨b,off,e,hS _ hb,fun i x hx => ?_⟩
 obtain⟨cs,h1,h2⟩:=hc i x hx
 exact⟨cs,fun j v hv=>(hk ⟨b,off+i * E.size+j,none⟩ hb).trans (h1 j v hv),E.keep h2 hk hS⟩
def encSl {α:Type} (E:Enc α):Enc (List α) where
 size:=1
 rd w S cs l:=∃ A c,cs=[.slice A l.length c]∧l.length≤c∧c≤maxLen∧SlAt E w S A l
 len h:=by obtain⟨A,c,rfl,_⟩:=h;rfl
 one h:=by obtain⟨A,c,rfl,_⟩:=h;simp [Value.oneCell']
 keep h hk hS:=by
  obtain⟨A,c,rfl,h1,h2,h3⟩:=h
  exact⟨A,c,rfl,h1,h2,h3.keep hk hS⟩

section
variable {α:Type} {E:Enc α} {w w':World} {S S':Nat→Prop} {A:Option Addr} {l:List α}
theorem SlAt.nil_:SlAt E w S A []:=fun h=>absurd rfl h
theorem SlAt.more (h:SlAt E w S A l) (hS:∀ b,S b→S' b):SlAt E w S' A l:=h.keep (fun _ _=>rfl) hS
theorem SlAt.blk (h:SlAt E w S A l) (hk:∀ b,S b→w'.heap[b]? = w.heap[b]?):SlAt E w' S A l:=h.keep (fun _ hp=>World.cell?_of_block (hk _ hp)) (fun _ h=>h)
theorem SlAt.below {B:Nat} (h:SlAt E w (Bl B) A l) (hb:Below B w w'):SlAt E w' (Bl B) A l:=h.blk hb.block
theorem SlAt.belowUp {B:Nat} (h:SlAt E w (Bl B) A l) (hb:Below B w w') {B':Nat} (hB:B≤B'):SlAt E w' (Bl B') A l:=(h.below hb).more (Bl.mono hB)
theorem SlAt.at_ {k:Nat} (h:SlAt E w S A l) (hk:k<l.length) :
  ∃ b off cs,A=some ⟨b,off,none⟩∧S b∧(∀ j v,cs[j]? = some v→w.cell? ⟨b,off+k * E.size+j,none⟩=some v)∧E.rd w S cs l[k]:=by
 obtain⟨b,off,e,hb,hc⟩:=h (by intro e;subst e;simp at hk)
 obtain⟨cs,h1,h2⟩:=hc k l[k] (List.getElem?_eq_getElem hk)
 exact⟨b,off,cs,e,hb,h1,h2⟩
theorem SlAt.row {b off:Nat} (h:SlAt E w S (some ⟨b,off,none⟩) l):∃ css,css.length=l.length∧(∀ cs∈css,cs.length=E.size)∧All2 (E.rd w S) css l∧∀ j v,css.flatten[j]? = some v→w.cell? ((⟨b,off,none⟩:Addr).add j)=some v:=by
 have key:∀ (m:List α) (k:Nat),(∀ (i:Nat) x,m[i]? = some x→∃ cs,(∀ j v,cs[j]? = some v→w.cell? ⟨b,off+(k+i) * E.size+j,none⟩=some v)∧E.rd w S cs x) →
   ∃ css,css.length=m.length∧(∀ cs∈css,cs.length=E.size)∧All2 (E.rd w S) css m∧∀ j v,css.flatten[j]? = some v→w.cell? ⟨b,off+k * E.size+j,none⟩=some v:=by
  intro m
  induction m with
  | nil=>exact fun k _=>⟨[],rfl,by simp,trivial,by simp⟩
  | cons x m ih =>
    intro k hc
    obtain⟨cs,c1,c2⟩:=hc 0 x rfl
    obtain⟨css,i1,i2,i3,i4⟩:=ih (k+1) (fun i y hy=>by
     have:=hc (i+1) y (by simpa using hy)
     rw [show k+(i+1)=k+1+i from by omega] at this
     exact this)
    refine⟨cs :: css,by simp [i1], ?_,⟨c2,i3⟩, ?_⟩
    ·intro y hy
     rcases List.mem_cons.1 hy with rfl | hy
     ·exact E.len c2
     ·exact i2 y hy
    ·intro j v hv
     rw [List.flatten_cons] at hv
     by_cases hj:j<cs.length
     ·rw [List.getElem?_append_left hj] at hv
      exact c1 j v hv
     ·rw [List.getElem?_append_right (by omega)] at hv
      have:=i4 _ v hv
      rw [E.len c2] at this hj
      rw [show off+k * E.size+j=off+(k+1) * E.size+(j - E.size) from by rw [Nat.succ_mul];omega]
      exact this
 by_cases hl:l=[]
 ·subst hl
  exact⟨[],rfl,by simp,trivial,by simp⟩
 ·obtain⟨b',off',e,hb,hc⟩:=h hl
  injection e with e
  injection e with e1 e2
  subst e1 e2
  obtain⟨css,i1,i2,i3,i4⟩:=key l 0 (fun i x hx=>by simpa using hc i x hx)
  refine⟨css,i1,i2,i3,fun j v hv => ?_⟩
  have hadd:(⟨b,off,none⟩:Addr).add j=⟨b,off+j,none⟩:=by unfold Addr.add;split <;> simp_all
  rw [hadd]
  simpa using i4 j v hv
theorem SlAt.some_ (h:SlAt E w S A l) (hl:l≠[]):∃ b off,A=some ⟨b,off,none⟩∧S b:=by
 obtain⟨b,off,e,hb,_⟩:=h hl
 exact⟨b,off,e,hb⟩
theorem SlAt.drop {k:Nat} {b off:Nat} (h:SlAt E w S (some ⟨b,off,none⟩) l):SlAt E w S (some ⟨b,off+k * E.size,none⟩) (l.drop k):=fun hn=>by
 have hl:l≠[]:=by intro e;subst e;simp at hn
 obtain⟨b',off',e,hb,hc⟩:=h hl
 injection e with e
 injection e with e1 e2
 subst e1 e2
 refine⟨b,_,rfl,hb,fun i x hx => ?_⟩
 rw [List.getElem?_drop] at hx
 obtain⟨cs,h1,h2⟩:=hc _ x hx
 refine⟨cs,fun j v hv => ?_,h2⟩
 have:=h1 j v hv
 rw [Nat.add_mul] at this
 rw [show off+k * E.size+i * E.size+j=off+(k * E.size+i * E.size)+j from by omega]
 exact this
theorem SlAt.take {n:Nat} (h:SlAt E w S A l):SlAt E w S A (l.take n):=fun hn=>by
 have hl:l≠[]:=by intro e;subst e;simp at hn
 obtain⟨b,off,e,hb,hc⟩:=h hl
 refine⟨b,off,e,hb,fun i x hx=>hc i x ?_⟩
 rw [List.getElem?_take] at hx
 split at hx
 ·exact hx
 ·cases hx
end

def Own {α:Type} (E:Enc α) (w:World) (base:Nat) (e:TypeId) (S:Nat→Prop) (v:Value) (l:List α):Prop :=
 ∃ css,w.ownsRow base e E.size v l.length css.flatten∧All2 (E.rd w S) css l∧∀ g,v.ownBlock=some g→¬ S g
section
variable {α:Type} {E:Enc α} {w w':World} {base:Nat} {e:TypeId} {S S':Nat→Prop} {v v':Value} {l:List α}
theorem Own.nil_:Own E w base e S (.slice none 0 0) []:=⟨[],World.ownsRow_nil w base e E.size,trivial,by simp [Value.ownBlock]⟩
theorem All2.sizes {css:List (List Value)} (h:All2 (E.rd w S) css l):∀ cs∈css,cs.length=E.size:=by
 intro cs hc
 obtain⟨i,hi,rfl⟩:=List.mem_iff_getElem.1 hc
 obtain⟨a,ha,hr⟩:=h.get (i:=i) (b:=l[i]'(by rw [← h.length];exact hi)) (List.getElem?_eq_getElem _)
 rw [List.getElem?_eq_getElem hi,Option.some.injEq] at ha
 rw [ha];exact E.len hr
theorem Own.row (h:Own E w base e S v l):∃ xs,w.ownsRow base e E.size v l.length xs:=by obtain⟨css,h1,_⟩:=h;exact⟨_,h1⟩
theorem Own.blk (h:Own E w base e S v l) (hk:∀ b,(S b∨v.ownBlock=some b)→w'.heap[b]? = w.heap[b]?):Own E w' base e S v l:=by
 obtain⟨css,⟨h1,h2⟩,h3,h4⟩:=h
 refine⟨css,⟨h1, ?_⟩,h3.mono (fun _ _ hr=>Enc.blk hr (fun b hb=>hk b (Or.inl hb))),h4⟩
 rcases h2 with h2 | ⟨g,cap,cur,rfl,hg,hh,r⟩
 ·exact Or.inl h2
 ·exact Or.inr ⟨g,cap,cur,rfl,hg,(hk g (Or.inr rfl)).trans hh,r⟩
theorem Own.lt (h:Own E w base e S v l):∀ g,v.ownBlock=some g→base≤g∧g<w.heap.size:=by
 obtain⟨css,h1,_⟩:=h
 exact h1.lt
theorem Own.more (h:Own E w base e S v l) (hS:∀ b,S b→S' b) (hn:∀ g,v.ownBlock=some g→¬ S' g):Own E w base e S' v l:=by
 obtain⟨css,h1,h2,h3⟩:=h
 exact⟨css,h1,h2.mono (fun _ _ hr=>Enc.more hr hS),hn⟩
theorem Own.appended (h:Own E w base e S v l) {m:List α} {css:List (List Value)} (hm:All2 (E.rd w S) css m) (hg:w.grownBy w' v.ownBlock) (hS:∀ b,S b→b<w.heap.size)
  (hat:v'.ownBlock=v.ownBlock∨v'.ownBlock=some w.heap.size) (hown:∀ xs,w.ownsRow base e E.size v l.length xs→w'.ownsRow base e E.size v' (l.length+m.length) (xs++css.flatten)):Own E w' base e S v' (l++m):=by
 obtain⟨css0,h1,h2,h3⟩:=h
 have hk:∀ b,S b→w'.heap[b]? = w.heap[b]? := fun b hb=>hg.block b (hS b hb) (fun e=>h3 b e.symm hb)
 refine⟨css0++css, ?_,All2.append (h2.mono fun _ _ hr=>Enc.blk hr hk) (hm.mono fun _ _ hr=>Enc.blk hr hk), ?_⟩
 ·rw [List.flatten_append,List.length_append]
  exact hown _ h1
 ·intro g hg'
  rcases hat with hat | hat
  ·exact h3 g (by rw [← hat];exact hg')
  ·rw [hat] at hg'
   injection hg' with hg'
   intro hs
   have:=hS g hs
   omega
theorem Own.reads (h:Own E w base e S v l) (hS:∀ b,S b→S' b) (hv:∀ g,v.ownBlock=some g→S' g):(encSl E).rd w S' [v] l:=by
 obtain⟨css,h1,h2,h3⟩:=h
 rcases h1.2 with ⟨rfl,h0⟩ | ⟨g,cap,cur,rfl,hb,hg,hnc,hcm,hcs,htake⟩
 ·have:l=[]:=List.eq_nil_of_length_eq_zero h0
  subst this
  exact⟨none,0,rfl,by simp,by simp,SlAt.nil_⟩
 ·refine⟨_,_,rfl,hnc,hcm,fun _=>⟨g,0,rfl,hv g rfl,fun i x hx => ?_⟩⟩
  obtain⟨cs,hc,hr⟩:=h2.get hx
  refine⟨cs,fun j u hu => ?_,Enc.more hr hS⟩
  have hj:j<cs.length:=(List.getElem?_eq_some_iff.1 hu).1
  have:=h1.cells (g:=g) rfl (i * E.size+j) u (flatten_at _ _ _ _ _ _ h2.sizes hc hu)
  have hadd:(⟨g,0,none⟩:Addr).add (i * E.size+j)=⟨g,0+i * E.size+j,none⟩:=by unfold Addr.add;split <;> simp_all <;> omega
  rw [hadd] at this
  exact this
end

theorem ret_bool {a b:Bool} (h:a=b):Ending.returned (.bool a) = .returned (.bool b):=by rw [h]
theorem ret_int {k:IntKind} {a b:Int} (h:a=b):Ending.returned (.int k a) = .returned (.int k b):=by rw [h]
theorem bDrew {B:Nat} {a w:World} (h:Below B a w) (n:Nat):Below B a (w.drewN n):=⟨h.os,h.tape,h.output,h.size,h.block⟩
def Nw (lo hi:Nat) (b:Nat):Prop:=lo≤b∧b<hi
theorem Nw.mono {lo hi lo' hi' b:Nat} (h:Nw lo hi b) (h1:lo'≤lo) (h2:hi≤hi'):Nw lo' hi' b:=⟨Nat.le_trans h1 h.1,Nat.lt_of_lt_of_le h.2 h2⟩
def Ret {α:Type} (E:Enc α) (x:α) (w:World) (e:Ending) (w':World):Prop:=∃ v,e = .returned v∧E.rd w' (Nw w.heap.size w'.heap.size) [v] x∧Below w.heap.size w w'
end Go.Proofs.YtgndgkjefgjamaaGreat

namespace Go.Proofs.YtgndgkjefgjamaaGreat
open Go.RowKit

abbrev Wr:=Int × Int × List Sec
abbrev Ext:=Int × Int
def encWr:Enc Wr:=encPair encInt (encPair encInt (encSl encSec))
def encExt:Enc Ext:=encPair encInt encInt

theorem sec8 {s:Sec} (h:OkSec s):∃ x0 x1 x2 x3 x4 x5 x6 x7,s=[x0,x1,x2,x3,x4,x5,x6,x7]:=by
 obtain⟨h,_⟩:=h
 match s,h with
 | [x0,x1,x2,x3,x4,x5,x6,x7],_=>exact⟨_,_,_,_,_,_,_,_,rfl⟩
section
variable {w w':World} {S:Nat→Prop} {A:Option Addr} {cs:List Value}
theorem ext_cs {x:Ext} (h:encExt.rd w S cs x):cs=[.int .i64 x.1,.int .i64 x.2]∧I64 x.1∧I64 x.2:=by
 obtain⟨c1,c2,rfl,⟨rfl,h1⟩,⟨rfl,h2⟩⟩:=h
 exact⟨rfl,h1,h2⟩
theorem ext_mk {x:Ext} (h1:I64 x.1) (h2:I64 x.2):encExt.rd w S [.int .i64 x.1,.int .i64 x.2] x:=⟨[_],[_],rfl,⟨rfl,h1⟩,⟨rfl,h2⟩⟩
theorem wr_cs {x:Wr} (h:encWr.rd w S cs x):∃ D c,cs=[.int .i64 x.1,.int .i64 x.2.1,.slice D x.2.2.length c]∧I64 x.1∧I64 x.2.1∧x.2.2.length≤c∧c≤maxLen∧SlAt encSec w S D x.2.2:=by
 obtain⟨c1,c2,rfl,⟨rfl,h1⟩,⟨c3,c4,rfl,⟨rfl,h2⟩,⟨D,c,rfl,h3,h4,h5⟩⟩⟩:=h
 exact⟨D,c,rfl,h1,h2,h3,h4,h5⟩
theorem wr_mk {x:Wr} {D:Option Addr} {c:Nat} (h1:I64 x.1) (h2:I64 x.2.1) (h3:x.2.2.length≤c) (h4:c≤maxLen) (h5:SlAt encSec w S D x.2.2):encWr.rd w S [.int .i64 x.1,.int .i64 x.2.1,.slice D x.2.2.length c] x :=
 ⟨[_],[_,_],rfl,⟨rfl,h1⟩,⟨[_],[_],rfl,⟨rfl,h2⟩,⟨D,c,rfl,h3,h4,h5⟩⟩⟩
theorem SlAt.sec {ss:List Sec} {k:Nat} (h:SlAt encSec w S A ss) (hk:k<ss.length) :
  ∃ b off x0 x1 x2 x3 x4 x5 x6 x7,A=some ⟨b,off,none⟩∧S b∧ss[k]=[x0,x1,x2,x3,x4,x5,x6,x7]∧OkSec ss[k] ∧
    w.cell? ⟨b,off+k * 8,none⟩=some (.int .u8 x0)∧w.cell? ⟨b,off+k * 8+1,none⟩=some (.int .u8 x1)∧w.cell? ⟨b,off+k * 8+2,none⟩=some (.int .u8 x2) ∧
    w.cell? ⟨b,off+k * 8+3,none⟩=some (.int .u8 x3)∧w.cell? ⟨b,off+k * 8+4,none⟩=some (.int .u8 x4)∧w.cell? ⟨b,off+k * 8+5,none⟩=some (.int .u8 x5) ∧
    w.cell? ⟨b,off+k * 8+6,none⟩=some (.int .u8 x6)∧w.cell? ⟨b,off+k * 8+7,none⟩=some (.int .u8 x7):=by
 obtain⟨b,off,cs,e,hb,hs,rfl,ho⟩:=h.at_ hk
 obtain⟨x0,x1,x2,x3,x4,x5,x6,x7,he⟩:=sec8 ho
 rw [he] at hs
 exact⟨b,off,x0,x1,x2,x3,x4,x5,x6,x7,e,hb,he,ho,hs 0 _ rfl,hs 1 _ rfl,hs 2 _ rfl,hs 3 _ rfl,hs 4 _ rfl,hs 5 _ rfl,hs 6 _ rfl,hs 7 _ rfl⟩
theorem SlAt.wr {l:List Wr} {k:Nat} (h:SlAt encWr w S A l) (hk:k<l.length) :
  ∃ b off D c,A=some ⟨b,off,none⟩∧S b ∧
    w.cell? ⟨b,off+k * 3,none⟩=some (.int .i64 l[k].1)∧w.cell? ⟨b,off+k * 3+1,none⟩=some (.int .i64 l[k].2.1)∧w.cell? ⟨b,off+k * 3+2,none⟩=some (.slice D l[k].2.2.length c) ∧
    SlAt encSec w S D l[k].2.2∧l[k].2.2.length≤c∧c≤maxLen∧I64 l[k].1∧I64 l[k].2.1:=by
 obtain⟨b,off,cs,e,hb,hs,hr⟩:=h.at_ hk
 obtain⟨D,c,rfl,h1,h2,h3,h4,h5⟩:=wr_cs hr
 exact⟨b,off,D,c,e,hb,hs 0 _ rfl,hs 1 _ rfl,hs 2 _ rfl,h5,h3,h4,h1,h2⟩
theorem SlAt.ext {l:List Ext} {k:Nat} (h:SlAt encExt w S A l) (hk:k<l.length) :
  ∃ b off,A=some ⟨b,off,none⟩∧S b∧w.cell? ⟨b,off+k * 2,none⟩=some (.int .i64 l[k].1)∧w.cell? ⟨b,off+k * 2+1,none⟩=some (.int .i64 l[k].2)∧I64 l[k].1∧I64 l[k].2:=by
 obtain⟨b,off,cs,e,hb,hs,hr⟩:=h.at_ hk
 obtain⟨rfl,h1,h2⟩:=ext_cs hr
 exact⟨b,off,e,hb,hs 0 _ rfl,hs 1 _ rfl,h1,h2⟩
theorem SlAt.int {l:List Int} {k:Nat} (h:SlAt encInt w S A l) (hk:k<l.length):∃ b off,A=some ⟨b,off,none⟩∧S b∧w.cell? ⟨b,off+k,none⟩=some (.int .i64 l[k])∧I64 l[k]:=by
 obtain⟨b,off,cs,e,hb,hs,rfl,h1⟩:=h.at_ hk
 exact⟨b,off,e,hb,by simpa [encInt] using hs 0 _ rfl,h1⟩
theorem SlAt.sl {α:Type} {E:Enc α} {l:List (List α)} {k:Nat} (h:SlAt (encSl E) w S A l) (hk:k<l.length) :
  ∃ b off D c,A=some ⟨b,off,none⟩∧S b∧w.cell? ⟨b,off+k,none⟩=some (.slice D l[k].length c)∧SlAt E w S D l[k]∧l[k].length≤c∧c≤maxLen:=by
 obtain⟨b,off,cs,e,hb,hs,D,c,rfl,h1,h2,h3⟩:=h.at_ hk
 exact⟨b,off,D,c,e,hb,by simpa [encSl] using hs 0 _ rfl,h3,h1,h2⟩
end
def Drew (w w':World):Prop:=∃ n,w'=w.drewN n
theorem Drew.refl (w:World):Drew w w:=⟨0,rfl⟩
theorem Drew.step {w w':World} (h:Drew w w') (n:Nat):Drew w (w'.drewN n):=by
 obtain⟨m,rfl⟩:=h
 exact⟨m+n,World.drewN_drewN ..⟩
theorem Drew.trans {w w1 w2:World} (h:Drew w w1) (h2:Drew w1 w2):Drew w w2:=by
 obtain⟨m,rfl⟩:=h2
 exact h.step m
theorem Drew.cell {w w':World} (h:Drew w w') (p:Addr):w'.cell? p=w.cell? p:=by
 obtain⟨m,rfl⟩:=h;rfl
theorem Drew.heap {w w':World} (h:Drew w w'):w'.heap=w.heap:=by
 obtain⟨m,rfl⟩:=h;rfl
theorem Drew.below {w w':World} (h:Drew w w') (B:Nat):Below B w w':=by
 obtain⟨m,rfl⟩:=h
 exact⟨rfl,rfl,rfl,Nat.le_refl _,fun _ _=>rfl⟩
theorem SlAt.drew {α:Type} {E:Enc α} {w w':World} {S:Nat→Prop} {A:Option Addr} {l:List α} (h:SlAt E w S A l) (hd:Drew w w'):SlAt E w' S A l:=h.keep (fun p _=>hd.cell p) (fun _ h=>h)
theorem Enc.drew {α:Type} {E:Enc α} {w w':World} {S:Nat→Prop} {cs:List Value} {x:α} (h:E.rd w S cs x) (hd:Drew w w'):E.rd w' S cs x:=E.keep h (fun p _=>hd.cell p) (fun _ h=>h)
theorem ext_trans {w w1 w2:World} (h:Below w.heap.size w w1) (h2:Below w1.heap.size w1 w2):Below w.heap.size w w2:=h.trans (h2.mono h.size)
theorem ext_alloc {w w1:World} {o:Obj} (h:Below w.heap.size w w1):Below w.heap.size w (w1.alloc o):=h.alloc h.size _
theorem ext_drew {w w1:World} (h:Below w.heap.size w w1):Below w.heap.size w w1.drew:=h.drew
theorem SlAt.fwd {α:Type} {E:Enc α} {w w':World} {A:Option Addr} {l:List α} (h:SlAt E w (Bl w.heap.size) A l) (hb:Below w.heap.size w w'):SlAt E w' (Bl w'.heap.size) A l:=h.belowUp hb hb.size
theorem Enc.fwd {α:Type} {E:Enc α} {w w':World} {cs:List Value} {x:α} (h:E.rd w (Bl w.heap.size) cs x) (hb:Below w.heap.size w w'):E.rd w' (Bl w'.heap.size) cs x:=Enc.belowUp h hb hb.size
end Go.Proofs.YtgndgkjefgjamaaGreat

namespace Go.Proofs.YtgndgkjefgjamaaGreat

theorem snocRec {α:Type} {P:List α→Prop} (h0:P []) (h1:∀ l x,P l→P (l++[x])):∀ l,P l:=by
 intro l
 have:∀ m:List α,P m.reverse:=by
  intro m
  induction m with
  | nil=>exact h0
  | cons x m ih=>rw [List.reverse_cons];exact h1 _ _ ih
 have h:=this l.reverse
 rwa [List.reverse_reverse] at h

abbrev Pl:=Int × Int
abbrev Eff:=List (Pl × Sec)
def zsec:Sec:=[0,0,0,0,0,0,0,0]
def hits (x:Wr) (V S:Int):Prop:=x.1=V∧x.2.1≤S∧S<x.2.1+x.2.2.length
instance (x:Wr) (V S:Int):Decidable (hits x V S):=by unfold hits;infer_instance
def datum (x:Wr) (S:Int):Sec:=x.2.2.getD (S - x.2.1).toNat zsec
def look (l:List Wr) (V S:Int):Option Sec:=l.foldl (fun r x=>if hits x V S then some (datum x S) else r) none
theorem look_snoc (l:List Wr) (x:Wr) (V S:Int):look (l++[x]) V S=if hits x V S then some (datum x S) else look l V S:=by simp [look]
theorem look_nil (V S:Int):look [] V S=none:=rfl
theorem look_append (a b:List Wr) (V S:Int):look (a++b) V S=(look b V S).or (look a V S):=by
 induction b using snocRec with
 | h0=>simp [look_nil]
 | h1 l x ih =>
   rw [← List.append_assoc,look_snoc,look_snoc,ih]
   split <;> simp
theorem look_none (l:List Wr) (V S:Int) (h:∀ x∈l,¬ hits x V S):look l V S=none:=by
 induction l using snocRec with
 | h0=>rfl
 | h1 l x ih=>rw [look_snoc,if_neg (h x (by simp))];exact ih (fun y hy=>h y (by simp [hy]))

def runStep (out:List Ext) (x:Int):List Ext :=
 match out.getLast? with
 | some (s,c)=>if s+c=x then out.dropLast++[(s,c+1)] else out++[(x,1)]
 | none=>[(x,1)]
def runsL (xs:List Int):List Ext:=xs.foldl runStep []
theorem runsL_snoc (xs:List Int) (x:Int):runsL (xs++[x])=runStep (runsL xs) x:=by simp [runsL]
theorem runsL_bound (B:Int) (xs:List Int) (h:∀ x∈xs,0≤x∧x<B):(∀ e∈runsL xs,0≤e.1∧0<e.2∧e.1+e.2≤B)∧(runsL xs).length≤xs.length:=by
 induction xs using snocRec with
 | h0=>simp [runsL]
 | h1 xs x ih =>
   obtain⟨ih1,ih2⟩:=ih (fun y hy=>h y (by simp [hy]))
   have hx:=h x (by simp)
   rw [runsL_snoc,runStep]
   split
   ·rename_i s c hg
    have hsc:=ih1 (s,c) (List.mem_of_getLast? hg)
    simp only at hsc
    split
    ·refine⟨fun e he => ?_, ?_⟩
     ·rcases List.mem_append.1 he with h' | h'
      ·exact ih1 e ((List.dropLast_sublist _).subset h')
      ·rw [List.mem_singleton.1 h'];simp only;omega
     ·simp;omega
    ·refine⟨fun e he => ?_,by simp;omega⟩
     rcases List.mem_append.1 he with h' | h'
     ·exact ih1 e h'
     ·rw [List.mem_singleton.1 h'];simp only;omega
   ·refine⟨fun e he => ?_,by simp⟩
    rw [List.mem_singleton.1 he];simp only;omega
theorem runStep_new {out:List Ext} {x:Int} (h:∀ s c,out.getLast? = some (s,c)→s+c≠x):runStep out x=out++[(x,1)]:=by
 unfold runStep
 split
 ·rename_i s c hg
  rw [if_neg (h s c hg)]
 ·rename_i hg
  rw [List.getLast?_eq_none_iff.1 hg];rfl
def canonStep (out:List Wr) (x:Pl × Sec):List Wr :=
 match out.getLast? with
 | some (v,s,d)=>if (v,s+d.length)=x.1 then out.dropLast++[(v,s,d++[x.2])] else out++[(x.1.1,x.1.2,[x.2])]
 | none=>[(x.1.1,x.1.2,[x.2])]
def canonL (m:Eff):List Wr:=m.foldl canonStep []
theorem canonL_snoc (m:Eff) (x:Pl × Sec):canonL (m++[x])=canonStep (canonL m) x:=by simp [canonL]
def secsOf (l:List Wr) (v:Int):List Int:=((List.range 4096).filter fun (s:Nat)=>(look l v s).isSome).map Int.ofNat
theorem secsOf_mem (l:List Wr) (v:Int):∀ x∈secsOf l v,0≤x∧x<4096:=by
 intro x hx
 obtain⟨i,hi,rfl⟩:=List.mem_map.1 hx
 have:=List.mem_range.1 (List.mem_filter.1 hi).1
 exact⟨Int.natCast_nonneg i,by show (i:Int)<4096;omega⟩
theorem secsOf_len (l:List Wr) (v:Int):(secsOf l v).length≤4096:=by
 unfold secsOf
 rw [List.length_map]
 refine Nat.le_trans (List.length_filter_le _ _) (Nat.le_of_eq (List.length_range ..))
def assocV (l:List Wr) (v:Int):Eff:=(secsOf l v).map fun s=>((v,s),(look l v s).getD zsec)
def assoc (l:List Wr):Eff:=(List.range 8).flatMap fun (v:Nat)=>assocV l v
def foldS (l:List Wr):List Wr:=canonL (assoc l)
theorem canonL_len (m:Eff):(canonL m).length≤m.length∧∀ x∈canonL m,x.2.2.length≤m.length:=by
 induction m using snocRec with
 | h0=>simp [canonL]
 | h1 m z ih =>
   obtain⟨ih1,ih2⟩:=ih
   rw [canonL_snoc,canonStep]
   split
   ·rename_i v s d hg
    have hd:=ih2 _ (List.mem_of_getLast? hg)
    simp only at hd
    split
    ·refine⟨by simp;omega,fun x hx => ?_⟩
     rcases List.mem_append.1 hx with h | h
     ·have:=ih2 x ((List.dropLast_sublist _).subset h);simp;omega
     ·rw [List.mem_singleton.1 h];simp;omega
    ·refine⟨by simp;omega,fun x hx => ?_⟩
     rcases List.mem_append.1 hx with h | h
     ·have:=ih2 x h;simp;omega
     ·rw [List.mem_singleton.1 h];simp
   ·refine⟨by simp,fun x hx => ?_⟩
    rw [List.mem_singleton.1 hx];simp
end Go.Proofs.YtgndgkjefgjamaaGreat
namespace Go.Proofs.YtgndgkjefgjamaaGreat
open Go.RowKit

theorem heap_new2 (w:World) (o1 o2:Obj):((w.alloc o1).alloc o2).heap[w.heap.size+1]? = some o2:=by
 have:=heap_alloc_new (w.alloc o1) o2
 simpa using this
theorem heap_new3 (w:World) (o1 o2 o3:Obj):(((w.alloc o1).alloc o2).alloc o3).heap[w.heap.size+1+1]? = some o3:=by
 have:=heap_alloc_new ((w.alloc o1).alloc o2) o3
 simpa using this
theorem grown_below {a w w':World} {row:Option Nat} (h:a.grownBy w row) (hb:Below w.heap.size w w'):a.grownBy w' row :=
 ⟨hb.os.trans h.os,hb.tape.trans h.tape,hb.output.trans h.output,Nat.le_trans h.size hb.size,fun i hi hne=>(hb.block i (Nat.lt_of_lt_of_le hi h.size)).trans (h.block i hi hne)⟩
theorem grown_alloc {a w:World} {row:Option Nat} (h:a.grownBy w row) (o:Obj):a.grownBy (w.alloc o) row:=grown_below h ((Below.refl _ _).alloc (Nat.le_refl _) o)
theorem grown_setNew {a w:World} {row:Option Nat} (h:a.grownBy w row) {p:Addr} (hp:a.heap.size≤p.block) (u:Value):a.grownBy (w.setCell p u) row :=
 ⟨h.os,h.tape,h.output,by simpa [World.setCell] using h.size,fun i hi hne=>(Below.heap_setCell w p u i (by omega)).trans (h.block i hi hne)⟩
structure SliceTy (P:Program) (t e:TypeId) (size bytes:Nat):Prop where
 und:P.underlying t=some (.slice e)
 info:∃ i z,P.info? e=some i∧i.zero=some z∧i.size=size∧i.bytes=bytes∧z.cells.size=size
 pos:0<size
theorem sliceTy_mk {P:Program} {t e:TypeId} {z:Value} {size bytes:Nat} (hu:P.underlying t=some (.slice e)) (h:(P.info? e).map (fun i=>(i.zero,i.size,i.bytes))=some (some z,size,bytes)) (hz:z.cells.size=size) (hp:0<size):SliceTy P t e size bytes:=by
 obtain⟨i,h1,h2,h3,h4⟩:=info_parts h
 exact⟨hu,⟨i,z,h1,h2,h3,h4,hz⟩,hp⟩

section
variable {α:Type} {E:Enc α} {w w':World} {base:Nat} {e:TypeId} {S S':Nat→Prop} {v v':Value} {l:List α}
theorem Own.form (h:Own E w base e S v l):∃ A c,v = .slice A l.length c:=by
 obtain⟨css,⟨_,h2⟩,_⟩:=h
 rcases h2 with ⟨rfl,h0⟩ | ⟨g,cap,cur,rfl,_⟩
 ·exact⟨none,0,by rw [h0]⟩
 ·exact⟨_,_,rfl⟩
theorem Own.rd (h:Own E w base e S v l) (hS:∀ b,S b→Nw base w.heap.size b):(encSl E).rd w (Nw base w.heap.size) [v] l:=h.reads hS (fun g hg=>h.lt g hg)
theorem Own.below (h:Own E w base e S v l) (hb:Below w.heap.size w w') (hS:∀ b,S b→b<w.heap.size):Own E w' base e S v l :=
 h.blk fun b hb'=>hb.block b (by
  rcases hb' with hb' | hb'
  ·exact hS b hb'
  ·exact (h.lt b hb').2)
theorem Own.alloc (h:Own E w base e S v l) (hS:∀ b,S b→b<w.heap.size) (o:Obj):Own E (w.alloc o) base e S v l:=h.below ((Below.refl _ _).alloc (Nat.le_refl _) o) hS
end

theorem flatten_set {α:Type} (size:Nat):∀ (l:List (List α)) (i j:Nat) (x:List α) (v:α),(∀ x∈l,x.length=size)→l[i]? = some x→j<size→l.flatten.set (i * size+j) v=(l.set i (x.set j v)).flatten
 | [],_,_,_,_,_,h,_=>by simp at h
 | y :: l,0,j,x,v,hs,h,hj=>by
   simp at h;subst h
   have hy:=hs y (by simp)
   simp [List.set_append,hy,hj]
 | y :: l,i+1,j,x,v,hs,h,hj=>by
   have hy:=hs y (by simp)
   have ih:=flatten_set size l i j x v (fun z hz=>hs z (by simp [hz])) (by simpa using h) hj
   rw [List.flatten_cons,List.set_append_right _ _ (by rw [hy,Nat.succ_mul];omega),List.set_cons_succ,List.flatten_cons, ← ih,hy]
   congr 2
   rw [Nat.succ_mul];omega
section
variable {α:Type} {E:Enc α} {w:World} {base g n c:Nat} {e:TypeId} {S:Nat→Prop} {l:List α}
theorem Own.elem {A:Option Addr} (h:Own E w base e S (.slice A n c) l) {i:Nat} (hi:i<l.length) :
  ∃ g cs,A=some ⟨g,0,none⟩∧base≤g∧g<w.heap.size∧¬ S g∧(∀ j v,cs[j]? = some v→w.cell? ⟨g,i * E.size+j,none⟩=some v)∧(∀ j,w.frozen? ⟨g,j,none⟩=false)∧E.rd w S cs l[i]:=by
 have hrow:=h
 obtain⟨css,h1,h2,h3⟩:=h
 obtain⟨cs,hc1,hc2⟩:=h2.get (i:=i) (b:=l[i]) (List.getElem?_eq_getElem hi)
 rcases h1.2 with ⟨he,h0⟩ | ⟨g,cap,cur,he,hb,hg,hnc,hcm,hcs,htake⟩
 ·omega
 ·injection he with e1 e2 e3
  subst e1 e2 e3
  refine⟨g,cs,rfl,hb,(Array.getElem?_eq_some_iff.1 hg).1,h3 g rfl,fun j u hu => ?_,fun j=>by simp [World.frozen?,hg],hc2⟩
  have:=h1.cells (g:=g) rfl (i * E.size+j) u (flatten_at _ _ _ _ _ _ h2.sizes hc1 hu)
  have hadd:(⟨g,0,none⟩:Addr).add (i * E.size+j)=⟨g,i * E.size+j,none⟩:=by unfold Addr.add;split <;> simp_all
  rw [hadd] at this
  exact this
theorem Own.stored (h:Own E w base e S (.slice (some ⟨g,0,none⟩) n c) l) {i j:Nat} (hi:i<l.length) (hj:j<E.size) (u:Value) (y:α) (hr:∀ cs,E.rd w S cs l[i]→E.rd w S (cs.set j u) y) :
  Own E (w.setCell ⟨g,i * E.size+j,none⟩ u) base e S (.slice (some ⟨g,0,none⟩) n c) (l.set i y):=by
 obtain⟨css,h1,h2,h3⟩:=h
 have hg:¬ S g:=h3 g rfl
 obtain⟨cs,hc1,hc2⟩:=h2.get (i:=i) (b:=l[i]) (List.getElem?_eq_getElem hi)
 have hn:n=l.length:=by
  rcases h1.2 with ⟨he,_⟩ | ⟨g',cap,cur,he,_⟩
  ·cases he
  ·injection he
 subst hn
 have hk:∀ b,S b→(w.setCell ⟨g,i * E.size+j,none⟩ u).heap[b]? = w.heap[b]? := fun b hb=>Below.heap_setCell _ _ _ _ (fun e=>hg (by rw [show g=b from e.symm];exact hb))
 refine⟨css.set i (cs.set j u), ?_,(h2.set (hr cs hc2)).mono (fun _ _ hx=>Enc.blk hx hk),h3⟩
 rw [← flatten_set E.size css i j cs u h2.sizes hc1 hj,List.length_set]
 exact (h1.stored _ u).1
end
def OwnW {α:Type} (E:Enc α) (w:World) (base lo:Nat) (e:TypeId) (v:Value) (l:List α):Prop:=Own E w base e (fun b=>Nw lo w.heap.size b∧v.ownBlock≠some b) v l
section
variable {α:Type} {E:Enc α} {w w':World} {base lo:Nat} {e:TypeId} {v v':Value} {l l':List α}
theorem OwnW.nil_:OwnW E w base lo e (.slice none 0 0) []:=Own.nil_
theorem OwnW.below (h:OwnW E w base lo e v l) (hb:Below w.heap.size w w'):OwnW E w' base lo e v l :=
 (Own.below h hb (fun _ h=>h.1.2)).more (fun _ h=>⟨h.1.mono (Nat.le_refl _) hb.size,h.2⟩) (fun _ hg h=>h.2 hg)
theorem OwnW.rd (h:OwnW E w base base e v l):(encSl E).rd w (Nw base w.heap.size) [v] l:=Own.rd h (fun _ h=>h.1)
theorem OwnW.lt (h:OwnW E w base lo e v l):∀ g,v.ownBlock=some g→base≤g∧g<w.heap.size:=Own.lt h
theorem OwnW.app (h:Own E w' base e (fun b=>Nw lo w.heap.size b∧v.ownBlock≠some b) v' l') (hg:w.grownBy w' v.ownBlock) (hat:v'.ownBlock=v.ownBlock∨v'.ownBlock=some w.heap.size):OwnW E w' base lo e v' l' :=
 h.more (fun b hb=>⟨hb.1.mono (Nat.le_refl _) hg.size,fun e=>by
  rcases hat with hat | hat
  ·exact hb.2 (by rw [← hat];exact e)
  ·rw [hat] at e
   injection e with e
   have:=hb.1.2
   omega⟩) (fun _ hg h=>h.2 hg)
theorem OwnW.form (h:OwnW E w base lo e v l):∃ A c,v = .slice A l.length c:=Own.form h
theorem OwnW.parts {A:Option Addr} {n c:Nat} (h:OwnW E w base base e (.slice A n c) l):n=l.length∧l.length≤c∧c≤maxLen∧SlAt E w (Nw base w.heap.size) A l:=by
 obtain⟨A',c',he,h1,h2,h3⟩:=h.rd
 simp only [List.cons.injEq,Value.slice.injEq,and_true] at he
 obtain⟨rfl,rfl,rfl⟩:=he
 exact⟨rfl,h1,h2,h3⟩
theorem OwnW.since {β:Type} {F:Enc β} {A:Option Addr} {m:List β} {B:Nat} (h:SlAt F w (Nw B w.heap.size) A m) (hlo:lo≤B) (hv:∀ g,v.ownBlock=some g→g<B):SlAt F w (fun b=>Nw lo w.heap.size b∧v.ownBlock≠some b) A m :=
 h.more fun b hb=>⟨hb.mono hlo (Nat.le_refl _),fun e=>by have:=hv b e;have:=hb.1;omega⟩
end
section
variable {P:Program} {w:World} {α:Type} {E:Enc α} {t e:TypeId} {bytes:Nat} {ops:Array Oper} {rest:List Oper} {o:Oper} {a:Act} {Q:Exit→Act→World→Prop}
theorem run_app (hT:SliceTy P t e E.size bytes) (ty:TypeId) {base:Nat} {S:Nat→Prop} {v:Value} {l:List α} (hown:Own E w base e S v l) {ad:Option Addr} {c m:Nat} {news:List α} {css:List (List Value)}
  (hm:m=news.length) (hcs:All2 (E.rd w S) css news) (hnews:news≠[]→∃ x,ad=some x∧∀ j u,css.flatten[j]? = some u→w.cell? (x.add j)=some u) (hS:∀ b,S b→b<w.heap.size) (hbase:base≤w.heap.size)
  (h63:l.length+m≤maxLen) (hbytes:(l.length+m) * bytes≤140737488355328) :
  ∃ A c' w',(Builtin.append_ #[t,t] ty #[v,.slice ad m c]).run P w = .ok (.slice A (l.length+m) c') w'∧Own E w' base e S (.slice A (l.length+m) c') (l++news)∧w.grownBy w' v.ownBlock ∧
    ((Value.slice A (l.length+m) c').ownBlock=v.ownBlock∨(Value.slice A (l.length+m) c').ownBlock=some w.heap.size):=by
 obtain⟨i,z,hi,hz,hsz,hby,hzs⟩:=hT.info
 have hpos:=hT.pos
 subst hm
 have fin:∀ (v':Value) (w':World) (xs:List Value),w.ownsRow base e E.size v l.length xs→w'.ownsRow base e E.size v' (l.length+news.length) (xs++css.flatten)→w.grownBy w' v.ownBlock→(v'.ownBlock=v.ownBlock∨v'.ownBlock=some w.heap.size)→Own E w' base e S v' (l++news):=by
  intro v' w' xs hx h2 h3 h5
  refine hown.appended hcs h3 hS h5 (fun xs' h' => ?_)
  have hxs:xs'=xs:=by
   rcases h'.2 with ⟨rfl,hl0⟩ | ⟨g,cap,cur,rfl,_,hh,_,_,_,ht⟩
   ·have e1:=h'.1
    have e2:=hx.1
    rw [hl0,Nat.zero_mul] at e1 e2
    rw [List.eq_nil_of_length_eq_zero e1,List.eq_nil_of_length_eq_zero e2]
   ·rcases hx.2 with ⟨he,_⟩ | ⟨g',cap',cur',he,_,hh',_,_,_,ht'⟩
    ·cases he
    ·injection he with e1 e2 e3
     injection e1 with e1
     injection e1 with e1
     subst e1
     rw [hh] at hh'
     injection hh' with hh'
     injection hh' with e4
     subst e4
     exact ht.symm.trans ht'
  rw [hxs]
  exact h2
 obtain⟨css0,h0,h1,h2⟩:=hown
 by_cases hn:news=[]
 ·subst hn
  have hc:css=[]:=List.eq_nil_of_length_eq_zero (by simpa using hcs.length)
  subst hc
  have hrun:(Builtin.append_ #[t,t] ty #[v,.slice ad 0 c]).run P w = .ok v w:=by
   rcases h0.2 with ⟨rfl,hl0⟩ | ⟨g,cap,cur,rfl,_,_,hnc,_⟩
   ·cases ad with
    | none=>simp [Builtin.append_,run_underlying hT.und,sizeOf,typeInfo,hi,Builtin.lenOf,Builtin.firstCells]
    | some x=>simp [Builtin.append_,run_underlying hT.und,sizeOf,typeInfo,hi,Builtin.lenOf,Builtin.firstCells,loadCells,loadCellsFrom]
   ·cases ad with
    | none=>simp [Builtin.append_,run_underlying hT.und,sizeOf,typeInfo,hi,Builtin.lenOf,Builtin.firstCells,hnc,storeCells]
    | some x=>simp [Builtin.append_,run_underlying hT.und,sizeOf,typeInfo,hi,Builtin.lenOf,Builtin.firstCells,loadCells,loadCellsFrom,hnc,storeCells]
  obtain⟨A,c',rfl⟩:∃ A c',v = .slice A l.length c':=by
   rcases h0.2 with ⟨rfl,hl0⟩ | ⟨g,cap,cur,rfl,_⟩
   ·exact⟨none,0,by rw [hl0]⟩
   ·exact⟨_,_,rfl⟩
  exact⟨A,c',w,hrun,fin _ _ _ h0 (by simpa using h0) (World.grownBy.refl w _) (.inl rfl),World.grownBy.refl w _,.inl rfl⟩
 ·obtain⟨x,rfl,hcells⟩:=hnews hn
  have hl:css.flatten.length=news.length * E.size:=by rw [flatten_len E.size css hcs.sizes,hcs.length]
  have hone:∀ u∈css.flatten,u.oneCell'=true:=by
   intro u hu
   obtain⟨cs,hc1,hc2⟩:=List.mem_flatten.1 hu
   obtain⟨k,hk,rfl⟩:=List.mem_iff_getElem.1 hc1
   obtain⟨cs',hcs',hr⟩:=hcs.get (i:=k) (b:=news[k]'(by rw [← hcs.length];exact hk)) (List.getElem?_eq_getElem _)
   rw [List.getElem?_eq_getElem hk,Option.some.injEq] at hcs'
   subst hcs'
   exact E.one hr u hc2
  obtain⟨v',w',hrun,h3,h4,_,h6⟩:=run_append_own_at (P:=P) w base t ty e i z E.size bytes hT.und hi hz hsz hby hzs hpos v l.length css0.flatten h0 x news.length c css.flatten hl hcells hone h63 hbytes hbase
  obtain⟨g,cap,rfl,_,_⟩:=h3.form (by have:0<news.length:=List.length_pos_iff.2 hn;omega)
  exact⟨_,cap,w',hrun,fin _ _ _ h0 h3 h4 h6,h4,h6⟩
theorem wpList_app (hT:SliceTy P t e E.size bytes) (hgd:o.guard=none) (s x:Operand) (ho:o.op = .call { callee := .builtin .append,args := #[s,x],argTypes := #[t,t] })
  {base:Nat} {S:Nat→Prop} {v:Value} {l:List α} (hs:a.eval s=v) (hown:Own E w base e S v l) {ad:Option Addr} {c m:Nat} {news:List α} {css:List (List Value)} (hx:a.eval x = .slice ad m c)
  (hm:m=news.length) (hcs:All2 (E.rd w S) css news) (hnews:news≠[]→∃ x,ad=some x∧∀ j u,css.flatten[j]? = some u→w.cell? (x.add j)=some u) (hS:∀ b,S b→b<w.heap.size) (hbase:base≤w.heap.size)
  (h63:l.length+m≤maxLen) (hbytes:(l.length+m) * bytes≤140737488355328)
  (h:∀ A c' w',Own E w' base e S (.slice A (l.length+m) c') (l++news)→w.grownBy w' v.ownBlock→((Value.slice A (l.length+m) c').ownBlock=v.ownBlock∨(Value.slice A (l.length+m) c').ownBlock=some w.heap.size)→wpList P ops Q rest (a.put o.dst (.slice A (l.length+m) c')) w') :
  wpList P ops Q (o :: rest) a w:=by
 refine wpList_plain hgd fun K hK => ?_
 obtain⟨A,c',w',hr,h2,h3,h4⟩:=run_app (P:=P) (c:=c) hT o.type hown hm hcs hnews hS hbase h63 hbytes
 unfold Oper.wp execOp
 simp only [ho,resolve,invoke,builtin,Sem.run_bind,Sem.run_pure,Result.andThen_ok,List.map_toArray,List.map_cons,List.map_nil,hs,hx,hr]
 exact hK _ _ (h A c' w' h2 h3 h4)
theorem step_app1 {K:Act→World→Prop} {X:Prop} (hT:SliceTy P t e E.size bytes) (hgd:o.guard=none) (s x:Operand) (ho:o.op = .call { callee := .builtin .append,args := #[s,x],argTypes := #[t,t] })
  {base:Nat} {S:Nat→Prop} {v:Value} {l:List α} (hs:a.eval s=v) (hown:Own E w base e S v l) {b c:Nat} (y:α) (cs:List Value) (hx:a.eval x = .slice (some ⟨b,0,none⟩) 1 c)
  (hcs:E.rd w S cs y) (hnews:w.heap[b]? = some (.cells cs.toArray e (0,0))) (hS:∀ b,S b→b<w.heap.size) (hbase:base≤w.heap.size)
  (h63:l.length+1≤maxLen) (hbytes:(l.length+1) * bytes≤140737488355328)
  (h:∀ A c' w',Own E w' base e S (.slice A (l.length+1) c') (l++[y])→w.grownBy w' v.ownBlock→((Value.slice A (l.length+1) c').ownBlock=v.ownBlock∨(Value.slice A (l.length+1) c').ownBlock=some w.heap.size)→K (a.put o.dst (.slice A (l.length+1) c')) w') :
  if Region.wanted o (yielded ops a.tmps)=true then Oper.wp P o a w K Q else X:=by
 have hw:Region.wanted o (yielded ops a.tmps)=true:=by simp [Region.wanted,hgd]
 rw [if_pos hw]
 obtain⟨A,c',w',hr,h2,h3,h4⟩:=run_app (P:=P) (c:=c) (m:=1) (news:=[y]) (css:=[cs]) (ad:=some ⟨b,0,none⟩) hT o.type hown rfl ⟨hcs,trivial⟩ (fun _=>⟨_,rfl,fun j u hu=>by
  have hadd:(⟨b,0,none⟩:Addr).add j=⟨b,j,none⟩:=by unfold Addr.add;split <;> simp_all
  rw [hadd,cell_of_row w b j _ e (0,0) hnews]
  simpa using hu⟩) hS hbase h63 hbytes
 unfold Oper.wp execOp
 simp only [ho,resolve,invoke,builtin,Sem.run_bind,Sem.run_pure,Result.andThen_ok,List.map_toArray,List.map_cons,List.map_nil,hs,hx,hr]
 exact h A c' w' h2 h3 h4
theorem wpList_app1 (hT:SliceTy P t e E.size bytes) (hgd:o.guard=none) (s x:Operand) (ho:o.op = .call { callee := .builtin .append,args := #[s,x],argTypes := #[t,t] })
  {base:Nat} {S:Nat→Prop} {v:Value} {l:List α} (hs:a.eval s=v) (hown:Own E w base e S v l) {b c:Nat} (y:α) (cs:List Value) (hx:a.eval x = .slice (some ⟨b,0,none⟩) 1 c)
  (hcs:E.rd w S cs y) (hnews:w.heap[b]? = some (.cells cs.toArray e (0,0))) (hS:∀ b,S b→b<w.heap.size) (hbase:base≤w.heap.size)
  (h63:l.length+1≤maxLen) (hbytes:(l.length+1) * bytes≤140737488355328)
  (h:∀ A c' w',Own E w' base e S (.slice A (l.length+1) c') (l++[y])→w.grownBy w' v.ownBlock→((Value.slice A (l.length+1) c').ownBlock=v.ownBlock∨(Value.slice A (l.length+1) c').ownBlock=some w.heap.size)→wpList P ops Q rest (a.put o.dst (.slice A (l.length+1) c')) w') :
  wpList P ops Q (o :: rest) a w:=by
 refine wpList_app hT hgd s x ho hs hown (news:=[y]) (css:=[cs]) hx rfl ⟨hcs,trivial⟩ (fun _=>⟨_,rfl,fun j u hu => ?_⟩) hS hbase h63 hbytes h
 have hadd:(⟨b,0,none⟩:Addr).add j=⟨b,j,none⟩:=by unfold Addr.add;split <;> simp_all
 rw [hadd,cell_of_row w b j _ e (0,0) hnews]
 simpa using hu
theorem wpList_appAll (hT:SliceTy P t e E.size bytes) (hgd:o.guard=none) (s x:Operand) (ho:o.op = .call { callee := .builtin .append,args := #[s,x],argTypes := #[t,t] })
  {base:Nat} {S:Nat→Prop} {v:Value} {l:List α} (hs:a.eval s=v) (hown:Own E w base e S v l) {ad:Option Addr} {c m:Nat} {news:List α} (hx:a.eval x = .slice ad m c)
  (hm:m=news.length) (hr:SlAt E w S ad news) (hS:∀ b,S b→b<w.heap.size) (hbase:base≤w.heap.size)
  (h63:l.length+m≤maxLen) (hbytes:(l.length+m) * bytes≤140737488355328)
  (h:∀ A c' w',Own E w' base e S (.slice A (l.length+m) c') (l++news)→w.grownBy w' v.ownBlock→((Value.slice A (l.length+m) c').ownBlock=v.ownBlock∨(Value.slice A (l.length+m) c').ownBlock=some w.heap.size)→wpList P ops Q rest (a.put o.dst (.slice A (l.length+m) c')) w') :
  wpList P ops Q (o :: rest) a w:=by
 by_cases hn:news=[]
 ·subst hn
  exact wpList_app hT hgd s x ho hs hown (news:=[]) (css:=[]) hx hm trivial (fun h=>absurd rfl h) hS hbase h63 hbytes h
 ·obtain⟨b,off,rfl,_⟩:=hr.some_ hn
  obtain⟨css,h1,h2,h3,h4⟩:=hr.row
  exact wpList_app hT hgd s x ho hs hown (news:=news) (css:=css) hx hm h3 (fun _=>⟨_,rfl,h4⟩) hS hbase h63 hbytes h
end
end Go.Proofs.YtgndgkjefgjamaaGreat

namespace Go.Proofs.YtgndgkjefgjamaaGreat
open Go.RowKit

theorem OwnW_new {α:Type} {E:Enc α} {w':World} {base lo n m:Nat} {e:TypeId} {v v':Value} {l:List α} {S:Nat→Prop} (h:Own E w' base e S v' l) (hat:v'.ownBlock=v.ownBlock∨v'.ownBlock=some m) (hv:∀ g,v.ownBlock=some g→g<n) (hnm:n≤m):∀ g,v'.ownBlock=some g→¬ (Nw lo m g∧v.ownBlock≠some g):=by
 rintro g hg ⟨h1,h2⟩
 rcases hat with hat | hat
 ·exact h2 (by rw [← hat];exact hg)
 ·rw [hat] at hg
  injection hg with hg
  have:=h1.2
  omega
theorem Own.make0 {α:Type} {E:Enc α} {w:World} {base:Nat} {e:TypeId} {S:Nat→Prop} {cur:Array Value} {cap:Nat} (hb:base≤w.heap.size) (hm:cap≤maxLen) (hs:cur.size=cap * E.size) (hS:¬ S w.heap.size) :
  Own E (w.alloc (.cells cur e)) base e S (.slice (some ⟨w.heap.size,0,none⟩) 0 cap) [] :=
 ⟨[],World.ownsRow_made w cur cap hb hm hs,trivial,fun g hg=>by
  have:w.heap.size=g:=by simpa [Value.ownBlock] using hg
  rw [← this];exact hS⟩
theorem Own.flat {α:Type} {E:Enc α} {w:World} {base:Nat} {e:TypeId} {S:Nat→Prop} {v:Value} {l:List α} (h:Own E w base e S v l) (hf:∀ {cs x},E.rd w S cs x→E.rd w (fun _=>False) cs x):Own E w base e (fun _=>False) v l:=by
 obtain⟨css,h1,h2,_⟩:=h
 exact⟨css,h1,h2.mono (fun _ _ hr=>hf hr),fun _ _ h=>h⟩
end Go.Proofs.YtgndgkjefgjamaaGreat

namespace Go.Proofs.YtgndgkjefgjamaaGreat
open Go.RowKit

def ItObj (own:TypeId→Prop) (o:Obj):Prop:=o.isWalk=true∨∃ cs ty fr,o = .cells cs ty fr∧own ty
def AbidesT {β:Type} (own:TypeId→Prop) (B:Nat) (J:β→World→Prop):Prop :=
 ∀ s W W' row,J s W→W.grownBy W' row→(∀ r,row=some r→B≤r∧∃ o:Obj,W.heap[r]? = some o∧ItObj own o)→J s W'
def SeqStopsT {α:Type} (own:TypeId→Prop) (F:Fence) (n:Nat) (P:Program) (g:Nat) (lb:Array Value) (encs:α→Array Value) (Kp:World→World→Prop) (S Sp:List α→Prop) (N:Nat) (w:World):Prop :=
 ∀ (l:Nat) (J Jx:List α→World→Prop) (W:World),Below w.heap.size w W→AbidesT own W.heap.size J→AbidesT own W.heap.size Jx →
   (∀ pre x W1,J pre W1→pre.length<N→YieldAt F (n - 1) P l (encs x) W1 fun e W' =>
    (e = .returned (.bool true)∧J (pre++[x]) W'∧Kp W1 W')∨(e = .returned (.bool false)∧Jx (pre++[x]) W')) →
   J [] W →
   CallsIn F n P g (#[.func (.yield l) #[] #[]]++lb) W fun e W'=>(∃ v,e = .returned v)∧((∃ xs,S xs∧J xs W')∨(∃ pre,Sp pre∧Jx pre W'))
theorem AbidesT.from {β:Type} {own:TypeId→Prop} {B:Nat} {J:β→World→Prop} (h:AbidesT own B J):AbidesFrom B J :=
 fun s W W' row hs hg hr=>h s W W' row hs hg (fun r e=>by obtain⟨h1,o,h2,h3⟩:=hr r e;exact⟨h1,o,h2,Or.inl h3⟩)
def OwnT {β:Type} (own:TypeId→Prop) (B:Nat) (I:β→World→Prop):Prop :=
 ∀ s W W' row,I s W→W.grownBy W' row→(∀ r,row=some r→B≤r∧∃ o:Obj,W.heap[r]? = some o∧(o.isCells=false∨ItObj own o))→I s W'
section
variable {β:Type} {own:TypeId→Prop} {B:Nat} {I I':β→World→Prop}
theorem OwnT.putObj (h:OwnT own B I) {s:β} {W:World} {l:Nat} {o:Obj} (o':Obj) (hs:I s W) (hB:B≤l) (hl:W.heap[l]? = some o) (ho:o.isCells=false):I s (W.putObj l o') :=
 h s W _ (some l) hs (grownBy_putObj' W l o') (fun r e=>by cases e;exact⟨hB,o,hl,Or.inl ho⟩)
theorem OwnT.alloc (h:OwnT own B I) {s:β} {W:World} (o:Obj) (hs:I s W):I s (W.alloc o) :=
 h s W _ none hs (World.grownBy_alloc W o none) (fun r e=>by cases e)
theorem OwnT.and (h:OwnT own B I) (h':OwnT own B I'):OwnT own B (fun s W=>I s W∧I' s W):=fun s W W' row hs hg hr=>⟨h s W W' row hs.1 hg hr,h' s W W' row hs.2 hg hr⟩
theorem ownT_below {n₀:Nat} {w₀:World} (hn:n₀≤w₀.heap.size) (hB:n₀≤B):OwnT own B (fun (_:β) W=>Below n₀ w₀ W) :=
 fun _ _ _ _ hs hg hr=>hs.grown hg (Nat.le_trans hn hs.size) (fun k e=>Nat.le_trans hB (hr k e).1)
end
theorem grownBy_keepsT {own:TypeId→Prop} {W W':World} {row:Option Nat} (hg:W.grownBy W' row) (hrow:∀ r,row=some r→∃ o:Obj,W.heap[r]? = some o∧ItObj own o)
  {k:Nat} {o:Obj} (hk:W.heap[k]? = some o) (hw:¬ ItObj own o):W'.heap[k]? = W.heap[k]? := by
 refine hg.block k (Array.getElem?_eq_some_iff.1 hk).1 ?_
 intro e
 obtain⟨o',ho',hw'⟩:=hrow k e.symm
 rw [hk] at ho';cases ho';exact hw hw'
variable {F:Fence} {n:Nat} {P:Program}
theorem wpIn_rangeFunc_ownT {α:Type} {own:TypeId→Prop} {g:Operand} {ps:Array Tmp} {assign body:Code} {Q:Exit→Act→World→Prop} {a:Act} {w:World}
  (hro:F.round=none) (h1:1≤n) {gf:Nat} {lb:Array Value} (hg:a.eval g = .func (.func gf) #[] lb) (hFg:F.fn gf) (eg:∀ args w,(callFunc gf args).run P w = .ok (.enter gf args) w)
  {encs:α→Array Value} {Kp:World→World→Prop} {S Sp:List α→Prop} {N:Nat} {w0:World} (hseq:SeqStopsT own F (n - 1) P gf lb encs Kp S Sp N w0)
  (hKt:∀ {A B C:World},Kp A B→Kp B C→Kp A C) (hKb:∀ (W:World) (l:Nat) (o o':Obj),w.heap.size≤l→W.heap[l]? = some o→o.isCells=false→o.isWalk=false→Kp W (W.putObj l o')) (hb0:Below w0.heap.size w0 w) (hps:∀ x,(encs x).size=ps.size)
  (I:List α→World→Prop) (Ix:Code→List α→World→Prop) (hI:OwnT own w.heap.size I) (hIx:∀ c,OwnT own w.heap.size (Ix c)) (h0:I [] w) (Ax:α→Act→World→Prop) (hAx:∀ x a',OwnFrom w.heap.size (fun (_:Unit) W=>Ax x a' W))
  (hassign:∀ (l:Nat) (pre:List α) (x:α) (W:World) (K:Act→World→Prop),I pre W→(∀ a' W',KeepsFrom w.heap.size W W'→Kp W W'→I pre W'→Ax x a' W'→K a' W') →
   assign.wpIn (F.inRound l) (n - 1 - 1) P (Exit.then K (fun _ _ _=>False)) { tmps:=(ps.zip (encs x)).foldl (fun t (p,v)=>t.setIfInBounds p v) a.tmps,defers:=[] } W)
  (hbody:∀ (l:Nat) (pre:List α) (x:α) (a':Act) (W:World),w.heap.size≤l→(∃ r,W.heap[l]? = some (.loop r))→I pre W→Ax x a' W→pre.length<N→body.wpIn (F.inRound l) (n - 1 - 1) P (ownPostG w.heap.size Kp I Ix (pre++[x]) W) a' W)
  (hdone:∀ (D:Nat) (xs:List α) (W:World),w.heap.size≤D→S xs→I xs W→W.heap[D]? = some (.deferred (some []))→Q .normal { a with defers:={ target := .collected D,args := #[] } :: a.defers } W)
  (hstop:∀ (D:Nat) (c:Code) (pre:List α) (W:World),w.heap.size≤D→Sp pre→Ix c pre W→W.heap[D]? = some (.deferred (some []))→c.wpIn F n P Q { a with defers:={ target := .collected D,args := #[] } :: a.defers } W) :
  (Code.rangeFunc g ps assign body).wpIn F n P Q a w:=by
 refine wpIn_rangeFunc ?_
 intro fn hfn
 rw [hro]
 obtain⟨rec,hrec⟩:∃ rec:LoopState→Option Code→Loop,rec=fun st pe=>{ state:=st,pending:=pe,fn,tmps:=a.tmps,params:=ps,assign,body,defers:=w.heap.size }:=⟨_,rfl⟩
 obtain⟨W1,hW1⟩:∃ W1,(w.alloc (.deferred (some []))).alloc (.loop (rec .ready none))=W1:=⟨_,rfl⟩
 have hL1:W1.heap[w.heap.size+1]? = some (.loop (rec .ready none)):=by
  rw [← hW1];have:=World.alloc_heap_new (w.alloc (.deferred (some []))) (.loop (rec .ready none));rwa [World.size_alloc] at this
 have hK1:W1.heap[w.heap.size]? = some (.deferred (some [])):=by
  rw [← hW1];exact (Below.heap_alloc _ _ _ (by simp)).trans (World.alloc_heap_new w _)
 have hI1:I [] W1:=by rw [← hW1];exact hI.alloc _ (hI.alloc _ h0)
 have hb1:Below w0.heap.size w0 W1:=by
  rw [← hW1];exact hb0.trans ((((Below.refl _ w).alloc (Nat.le_refl _) _).alloc (by simp) _).mono hb0.size)
 refine⟨w.heap.size+1,[{ target := .collected w.heap.size,args := #[] }],W1,{ target := .fn (.func gf) lb,args := #[.func (.yield (w.heap.size+1)) #[] #[]] },W1,gf,
  #[.func (.yield (w.heap.size+1)) #[] #[]]++lb,W1, ?_, ?_, ?_, ?_,fun _=>h1, ?_⟩
 ·rw [← hW1,hrec];exact run_enterLoop_outer _ _ _ _ _
 ·simp only [resolve,hg]
  simp [go_sem]
 ·intro f' hf';simp [Target.leads] at hf';subst hf';exact hFg
 ·simp [invoke,go_sem,eg]
 ·-- THE ITERATOR's CONTRACT, AT THE CALLER's INVARIANT WITH THE TWO FACTS OF BOOK-KEEPING BESIDE IT
  have hnw:∀ {A B:World} {row:Option Nat},(∀ r,row=some r→W1.heap.size≤r∧∃ o:Obj,A.heap[r]? = some o∧ItObj own o)→(∀ r,row=some r→w.heap.size≤r∧∃ o:Obj,A.heap[r]? = some o∧(o.isCells=false∨ItObj own o)) :=
   fun hr r e=>by obtain⟨hB,o,ho,hw⟩:=hr r e;exact⟨by rw [← hW1] at hB;simp at hB;omega,o,ho,Or.inr hw⟩
  refine (hseq (w.heap.size+1)
   (fun pre W=>I pre W∧W.heap[w.heap.size+1]? = some (.loop (rec .ready none))∧W.heap[w.heap.size]? = some (.deferred (some [])))
   (fun pre W=>∃ c,Ix c pre W∧W.heap[w.heap.size+1]? = some (.loop (rec .done (some c)))∧W.heap[w.heap.size]? = some (.deferred (some [])))
   W1 hb1
   (fun s A B row hs hg' hr=>⟨hI s A B row hs.1 hg' (hnw (B:=B) hr),(grownBy_keepsT hg' (fun r e=>(hr r e).2) hs.2.1 (by rintro (h | ⟨_,_,_,h,_⟩) <;> cases h)).trans hs.2.1,(grownBy_keepsT hg' (fun r e=>(hr r e).2) hs.2.2 (by rintro (h | ⟨_,_,_,h,_⟩) <;> cases h)).trans hs.2.2⟩)
   (fun s A B row hs hg' hr=>by
    obtain⟨c,hc,hl,hk⟩:=hs
    exact⟨c,hIx c s A B row hc hg' (hnw (B:=B) hr),(grownBy_keepsT hg' (fun r e=>(hr r e).2) hl (by rintro (h | ⟨_,_,_,h,_⟩) <;> cases h)).trans hl,(grownBy_keepsT hg' (fun r e=>(hr r e).2) hk (by rintro (h | ⟨_,_,_,h,_⟩) <;> cases h)).trans hk⟩)
   ?_ ⟨hI1,hL1,hK1⟩).mono ?_
  ·-- ONE ROUND
   rintro pre x W ⟨hi,hl,hk⟩ hlen
   have hlt:w.heap.size+1<W.heap.size:=(Array.getElem?_eq_some_iff.1 hl).1
   have hy:=run_yield (P:=P) (args:=encs x) hl (by rw [hrec];exact hps x)
   rw [hrec] at hy
   refine⟨fn,_,assign,body,hy,roundIn_of_wpIn hfn (hassign _ pre x W _ hi ?_)⟩
   clear hy
   intro a' Wa hkfa hkpa hia hax
   -- THE ASSIGN CODE MAY HAVE LAID BLOCKS (a loop variable that an inner function captures is boxed): the two blocks of book-keeping lie as they lay
   replace hl:=hkfa.same _ _ (by omega) hl rfl
   replace hk:=hkfa.same _ _ (Nat.le_refl _) hk rfl
   replace hlt:w.heap.size+1<Wa.heap.size:=(Array.getElem?_eq_some_iff.1 hl).1
   replace hi:=hia
   clear hia
   revert hkpa hkfa
   generalize W=Wb
   intro hkfa hkpa
   obtain⟨W,rfl⟩:∃ W,W=Wa:=⟨_,rfl⟩
   refine⟨_,run_beginRound hl (by rw [hrec]), ?_⟩
   have hl2:(W.putObj (w.heap.size+1) (.loop { rec .ready none with state := .busy })).heap[w.heap.size+1]? = some (.loop { rec .ready none with state := .busy }):=World.putObj_heap_same hlt
   have hk2:(W.putObj (w.heap.size+1) (.loop { rec .ready none with state := .busy })).heap[w.heap.size]? = some (.deferred (some [])):=(World.putObj_heap_other (by omega)).trans hk
   have hw2:Kp W (W.putObj (w.heap.size+1) (.loop { rec .ready none with state := .busy })):=hKb _ _ _ _ (by omega) hl rfl rfl
   refine wpIn_mono (hbody _ pre x a' _ (by omega) ⟨_,hl2⟩ (hI.putObj _ hi (by omega) hl rfl) ((hAx x a').putObj (s:=()) _ hax (by omega) hl rfl) hlen) ?_
   have fin:∀ (jump:Option Code) (W3:World),KeepsFrom w.heap.size (W.putObj (w.heap.size+1) (.loop { rec .ready none with state := .busy })) W3 →
     (Instr.endRound (w.heap.size+1) jump).run P W3 = .ok (.bool jump.isNone) (W3.putObj (w.heap.size+1) (.loop (rec (if jump.isNone then .ready else .done) jump))) ∧
     W3.heap[w.heap.size+1]? = some (.loop { rec .ready none with state := .busy }) ∧
     (W3.putObj (w.heap.size+1) (.loop (rec (if jump.isNone then .ready else .done) jump))).heap[w.heap.size+1]? = some (.loop (rec (if jump.isNone then .ready else .done) jump)) ∧
     (W3.putObj (w.heap.size+1) (.loop (rec (if jump.isNone then .ready else .done) jump))).heap[w.heap.size]? = some (.deferred (some [])):=fun jump W3 hk3=>by
    have hl3:=hk3.same _ _ (by omega) hl2 rfl
    have:=run_endRound (P:=P) jump hl3
    rw [hrec] at this ⊢
    exact⟨this,by rw [hrec] at hl3;exact hl3,World.putObj_heap_same (Array.getElem?_eq_some_iff.1 hl3).1,(World.putObj_heap_other (by omega)).trans (hk3.same _ _ (Nat.le_refl _) hk2 rfl)⟩
   rintro e a3 W3 hp
   cases e with
   | normal =>
     obtain⟨hk3,hkp3,hi3⟩:=hp
     obtain⟨hr,hl3,hl4,hk4⟩:=fin none W3 hk3
     exact⟨_,_,hr,.inl ⟨rfl,⟨hI.putObj _ hi3 (by omega) hl3 rfl,hl4,hk4⟩,hKt hkpa (hKt (hKt hw2 hkp3) (hKb _ _ _ _ (by omega) hl3 rfl rfl))⟩⟩
   | ret =>
     obtain⟨hk3,hi3⟩:=hp
     obtain⟨hr,hl3,hl4,hk4⟩:=fin (some .ret) W3 hk3
     exact⟨_,_,hr,.inr ⟨rfl,.ret,(hIx _).putObj _ hi3 (by omega) hl3 rfl,hl4,hk4⟩⟩
   | exit id =>
     obtain⟨hk3,hi3⟩:=hp
     obtain⟨hr,hl3,hl4,hk4⟩:=fin (some (.exit id)) W3 hk3
     exact⟨_,_,hr,.inr ⟨rfl,.exit id,(hIx _).putObj _ hi3 (by omega) hl3 rfl,hl4,hk4⟩⟩
   | goto t =>
     obtain⟨hk3,hi3⟩:=hp
     obtain⟨hr,hl3,hl4,hk4⟩:=fin (some (.goto t)) W3 hk3
     exact⟨_,_,hr,.inr ⟨rfl,.goto t,(hIx _).putObj _ hi3 (by omega) hl3 rfl,hl4,hk4⟩⟩
   | panic ch=>exact hp.elim
   | outgrown=>exact hp.elim
  ·-- BEHIND THE ITERATOR
   rintro e W2 ⟨⟨v,rfl⟩,(⟨xs,hS,hi,hl,hk⟩ | ⟨pre,hSp,c,hi,hl,hk⟩)⟩
   ·exact⟨none,_,by have:=run_endLoop (P:=P) hl (by rw [hrec];simp);rw [hrec] at this;exact this,hdone _ xs _ (Nat.le_refl _) hS (hI.putObj _ hi (by omega) hl rfl) ((World.putObj_heap_other (by omega)).trans hk)⟩
   ·exact⟨some c,_,by have:=run_endLoop (P:=P) hl (by rw [hrec];simp);rw [hrec] at this;exact this,hstop _ c pre _ (Nat.le_refl _) hSp ((hIx c).putObj _ hi (by omega) hl rfl) ((World.putObj_heap_other (by omega)).trans hk)⟩
section
variable {w:World} {α:Type} {E:Enc α} {t e:TypeId} {bytes:Nat} {ops:Array Oper} {rest:List Oper} {o:Oper} {a:Act} {Q:Exit→Act→World→Prop}
theorem wpListIn_app1 (hT:SliceTy P t e E.size bytes) (hgd:o.guard=none) (s x:Operand) (ho:o.op = .call { callee := .builtin .append,args := #[s,x],argTypes := #[t,t] })
  {base:Nat} {S:Nat→Prop} {v:Value} {l:List α} (hs:a.eval s=v) (hown:Own E w base e S v l) {b c:Nat} (y:α) (cs:List Value) (hx:a.eval x = .slice (some ⟨b,0,none⟩) 1 c)
  (hcs:E.rd w S cs y) (hnews:w.heap[b]? = some (.cells cs.toArray e (0,0))) (hS:∀ b,S b→b<w.heap.size) (hbase:base≤w.heap.size)
  (h63:l.length+1≤maxLen) (hbytes:(l.length+1) * bytes≤140737488355328)
  (h:∀ A c' w',Own E w' base e S (.slice A (l.length+1) c') (l++[y])→w.grownBy w' v.ownBlock→((Value.slice A (l.length+1) c').ownBlock=v.ownBlock∨(Value.slice A (l.length+1) c').ownBlock=some w.heap.size)→wpListIn F n P ops Q rest (a.put o.dst (.slice A (l.length+1) c')) w') :
  wpListIn F n P ops Q (o :: rest) a w:=by
 refine wpListIn_plain hgd fun K hK => ?_
 obtain⟨A,c',w',hr,h2,h3,h4⟩:=run_app (P:=P) (c:=c) (m:=1) (news:=[y]) (css:=[cs]) (ad:=some ⟨b,0,none⟩) hT o.type hown rfl ⟨hcs,trivial⟩ (fun _=>⟨_,rfl,fun j u hu=>by
  have hadd:(⟨b,0,none⟩:Addr).add j=⟨b,j,none⟩:=by unfold Addr.add;split <;> simp_all
  rw [hadd,cell_of_row w b j _ e (0,0) hnews]
  simpa using hu⟩) hS hbase h63 hbytes
 unfold Oper.wpIn
 refine⟨?_, ?_⟩
 ·simp [Oper.about,ho,resolve,Target.leads,Sem.run_pure]
 ·rw [Oper.semAt_plain F _ _ (by rw [ho];intro c hc';cases hc')]
  simp only [execOp,ho,resolve,invoke,builtin,Sem.run_bind,Sem.run_pure,Result.andThen_ok,List.map_toArray,List.map_cons,List.map_nil,hs,hx,hr]
  exact hK _ _ (h A c' w' h2 h3 h4)
end
def KpT (own:TypeId→Prop) (n₀:Nat) (W W':World):Prop:=Below n₀ W W'∧W.heap.size≤W'.heap.size∧∀ (i:Nat) (cs:Array Value) (T:TypeId) (fr:Nat × Nat),W.heap[i]? = some (.cells cs T fr)→own T→W'.heap[i]? = W.heap[i]?
section
variable {own:TypeId→Prop} {n₀:Nat} {A B C:World}
theorem KpT.trans (h:KpT own n₀ A B) (k:KpT own n₀ B C):KpT own n₀ A C :=
 ⟨h.1.trans k.1,Nat.le_trans h.2.1 k.2.1,fun i cs T fr hi hT=>by
  have h1:=h.2.2 i cs T fr hi hT
  exact (k.2.2 i cs T fr (h1.trans hi) hT).trans h1⟩
theorem KpT.putObj (W:World) (l:Nat) (o o':Obj) (hn:n₀≤l) (h:W.heap[l]? = some o) (ho:o.isCells=false) (hs:n₀≤W.heap.size):KpT own n₀ W (W.putObj l o') :=
 ⟨(Below.refl n₀ W).grown (grownBy_putObj' W l o') hs (fun k e=>by cases e;exact hn),by simp,fun i cs T fr hi hT=>World.putObj_heap_other (fun e=>by subst e;rw [h] at hi;cases hi;cases ho)⟩
theorem KpT.grown {W W':World} {row:Option Nat} (hg:W.grownBy W' row) (hs:n₀≤W.heap.size) (hr:∀ k,row=some k→n₀≤k∧∃ cs T fr,W.heap[k]? = some (.cells cs T fr)∧¬ own T):KpT own n₀ W W' :=
 ⟨(Below.refl n₀ W).grown hg hs (fun k e=>(hr k e).1),hg.size,fun i cs T fr hi hT=>hg.block i (Array.getElem?_eq_some_iff.1 hi).1 (fun e=>by
  obtain⟨_,cs',T',fr',h1,h2⟩:=hr i e.symm
  rw [hi] at h1;cases h1;exact h2 hT)⟩
theorem KpT.alloc (W:World) (o:Obj) (hs:n₀≤W.heap.size):KpT own n₀ W (W.alloc o):=KpT.grown (World.grownBy_alloc W o none) hs (fun k e=>by cases e)
theorem KpT.refl (W:World):KpT own n₀ W W:=⟨Below.refl _ _,Nat.le_refl _,fun _ _ _ _ _ _=>rfl⟩
end
theorem Own.cellsOf {α:Type} {E:Enc α} {w:World} {base:Nat} {e:TypeId} {S:Nat→Prop} {v:Value} {l:List α} (h:Own E w base e S v l):∀ g,v.ownBlock=some g→base≤g∧∃ cs fr,w.heap[g]? = some (.cells cs e fr):=by
 obtain⟨css,h1,h2,h3⟩:=h
 intro g hg
 rcases h1.2 with ⟨rfl,_⟩ | ⟨g',cap,cur,rfl,hb,hh,_⟩
 ·simp [Value.ownBlock] at hg
 ·have:g'=g:=by simpa [Value.ownBlock] using hg
  subst this
  exact⟨hb,_,_,hh⟩
def BoxOwn {α:Type} (E:Enc α) (n₀:Nat) (b:Nat) (t e:TypeId) (l:List α) (W:World):Prop:=∃ v,Boxed W b t v∧Own E W n₀ e (fun _=>False) v l
theorem boxOwn_ownT {α β:Type} {E:Enc α} {n₀ b B:Nat} {t e:TypeId} {own:TypeId→Prop} (f:β→List α) (ht:¬ own t) (he:¬ own e):OwnT own B (fun s W=>BoxOwn E n₀ b t e (f s) W):=by
 rintro s X Y row ⟨v,hv,hr⟩ hg hrow
 have key:∀ (k:Nat) (cs:Array Value) (T:TypeId) (fr:Nat × Nat),X.heap[k]? = some (.cells cs T fr)→¬ own T→Y.heap[k]? = X.heap[k]? := fun k cs T fr hk hT =>
  hg.block k (Array.getElem?_eq_some_iff.1 hk).1 (fun e'=>by
   obtain⟨_,o,ho,hc⟩:=hrow k e'.symm
   rw [hk] at ho;cases ho
   rcases hc with hc | (hc | ⟨_,_,_,hc,hw⟩)
   ·cases hc
   ·cases hc
   ·cases hc;exact hT hw)
 refine⟨v,(key b _ _ _ hv ht).trans hv,hr.blk (fun g hg' => ?_)⟩
 rcases hg' with hg' | hg'
 ·exact hg'.elim
 ·obtain⟨_,cs,fr,h1⟩:=hr.cellsOf g hg'
  exact key g cs e fr h1 he
theorem BoxOwn.kept {α:Type} {E:Enc α} {W W':World} {row:Option Nat} {n₀ b:Nat} {t e:TypeId} {l:List α} (h:BoxOwn E n₀ b t e l W) (hg:W.grownBy W' row) (hr:∀ k,row=some k→∃ o:Obj,W.heap[k]? = some o∧o.isCells=false):BoxOwn E n₀ b t e l W' :=
 boxOwn_ownT (B:=0) (own:=fun _=>False) (fun _:Unit=>l) (fun h=>h) (fun h=>h) () W W' row h hg (fun r e=>by obtain⟨o,h1,h2⟩:=hr r e;exact⟨Nat.zero_le _,o,h1,Or.inl h2⟩)
theorem BoxOwn.alloc {α:Type} {E:Enc α} {W:World} {n₀ b:Nat} {t e:TypeId} {l:List α} (h:BoxOwn E n₀ b t e l W) (o:Obj):BoxOwn E n₀ b t e l (W.alloc o):=h.kept (World.grownBy_alloc W o none) (fun k e=>by cases e)
theorem BoxOwn.appended {α:Type} {E:Enc α} {W w1:World} {n₀ b:Nat} {t e:TypeId} {own:TypeId→Prop} {l l':List α} {v v':Value} {tmp:Obj} (hv:Boxed W b t v) (hte:t≠e) (ht:¬ own t) (he:¬ own e) (hrow:Own E W n₀ e (fun _=>False) v l) (hn₀:n₀≤W.heap.size) (hb:n₀≤b)
  (hown:Own E w1 n₀ e (fun _=>False) v' l') (hgrow:(W.alloc tmp).grownBy w1 v.ownBlock) :
  Boxed w1 b t v∧BoxOwn E n₀ b t e l' (w1.setCell ⟨b,0,none⟩ v')∧KeepsOthers W (w1.setCell ⟨b,0,none⟩ v')∧KpT own n₀ W (w1.setCell ⟨b,0,none⟩ v'):=by
 have hne:some b≠v.ownBlock:=fun e'=>by
  obtain⟨_,cs,fr,h1⟩:=hrow.cellsOf b e'.symm
  rw [show W.heap[b]? = _ from hv] at h1;cases h1;exact hte rfl
 have hv1:Boxed w1 b t v:=(hv.alloc tmp).kept hgrow hne
 have hne':v'.ownBlock≠some b:=fun e'=>by
  obtain⟨_,cs,fr,h1⟩:=hown.cellsOf b e'
  rw [show w1.heap[b]? = _ from hv1] at h1;cases h1;exact hte rfl
 have hw:Own E (W.alloc tmp) n₀ e (fun _=>False) v l:=hrow.alloc (fun _ h=>h.elim) tmp
 refine⟨hv1,⟨v',hv1.set v',hown.blk (fun g hg => ?_)⟩, ?_, ?_⟩
 ·rcases hg with hg | hg
  ·exact hg.elim
  ·exact Below.heap_setCell _ _ _ _ (fun e'=>hne' (by rw [hg,e']))
 ·refine ((KeepsOthers.alloc W tmp).trans (KeepsOthers.of_grownBy hgrow fun j o ej hj => ?_)).trans (KeepsOthers.setCell _ _ _)
  obtain⟨_,cs,fr,h1⟩:=hw.cellsOf j ej
  rw [h1] at hj;cases hj;rfl
 ·refine KpT.trans (KpT.trans (KpT.grown (World.grownBy_alloc W tmp none) hn₀ (fun k e=>by cases e)) (KpT.grown hgrow (by simp;omega) (fun k ek => ?_))) (KpT.grown (grownBy_setCell' w1 b v') (by have:=hgrow.size;simp at this;omega) (fun k ek => ?_))
  ·obtain⟨h0,cs,fr,h1⟩:=hw.cellsOf k ek
   exact⟨h0,cs,e,fr,h1,he⟩
  ·cases ek
   exact⟨hb,_,_,_,hv1,ht⟩
theorem bUn {B:Nat} {w w1:World} (h:Below B w.drew w1):Below B w w1:=⟨h.os,h.tape,h.output,h.size,h.block⟩
def RetSl {α:Type} (E:Enc α) (l:List α) (w:World) (e:Ending) (w':World):Prop :=
 ∃ A c,e = .returned (.slice A l.length c)∧l.length≤c∧c≤maxLen∧SlAt E w' (Nw w.heap.size w'.heap.size) A l∧Below w.heap.size w w'
theorem Ret.sl {α:Type} {E:Enc α} {l:List α} {w:World} {e:Ending} {w':World} (h:Ret (encSl E) l w e w'):RetSl E l w e w':=by
 obtain⟨v,rfl,⟨A,c,he,h1,h2,h3⟩,hb⟩:=h
 simp only [List.cons.injEq,and_true] at he
 subst he
 exact⟨A,c,rfl,h1,h2,h3,hb⟩
def RetSlN {α:Type} (E:Enc α) (l:List α) (n:Int) (w:World) (e:Ending) (w':World):Prop :=
 ∃ A c,e = .returned (.tuple #[.slice A l.length c,.int .i64 n])∧l.length≤c∧c≤maxLen∧SlAt E w' (Nw w.heap.size w'.heap.size) A l∧Below w.heap.size w w'
end Go.Proofs.YtgndgkjefgjamaaGreat
namespace Go.Proofs.YtgndgkjefgjamaaGreat
open Go.RowKit

theorem flatten_take {α:Type} (size:Nat):∀ (l:List (List α)) (k:Nat),(∀ x∈l,x.length=size)→l.flatten.take (k * size)=(l.take k).flatten
 | [],k,_=>by simp
 | x :: l,0,_=>by simp
 | x :: l,k+1,h=>by
   have hx:=h x (by simp)
   rw [List.flatten_cons,List.take_succ_cons,List.flatten_cons,Nat.succ_mul,List.take_append,hx,List.take_of_length_le (by omega)]
   congr 1
   rw [show k * size+size - size=k * size from by omega]
   exact flatten_take size l k (fun y hy=>h y (by simp [hy]))
theorem flatten_drop {α:Type} (size:Nat):∀ (l:List (List α)) (k:Nat),(∀ x∈l,x.length=size)→l.flatten.drop (k * size)=(l.drop k).flatten
 | [],k,_=>by simp
 | x :: l,0,_=>by simp
 | x :: l,k+1,h=>by
   have hx:=h x (by simp)
   rw [List.flatten_cons,List.drop_succ_cons,Nat.succ_mul,List.drop_append,hx,List.drop_eq_nil_of_le (by omega),List.nil_append]
   rw [show k * size+size - size=k * size from by omega]
   exact flatten_drop size l k (fun y hy=>h y (by simp [hy]))
def over {α:Type} (row:List α) (s:Nat) (d:List α):List α:=row.take s++d++row.drop (s+d.length)
theorem over_len {α:Type} {row:List α} {s:Nat} {d:List α} (h:s+d.length≤row.length):(over row s d).length=row.length:=by
 unfold over;simp;omega
theorem All2.drop {α β:Type} {R:α→β→Prop}:∀ {l:List α} {m:List β} (k:Nat),All2 R l m→All2 R (l.drop k) (m.drop k)
 | [],[],k,_=>by simp [All2]
 | x :: l,y :: m,0,h=>h
 | x :: l,y :: m,k+1,h=>All2.drop k h.2
section
variable {P:Program} {w:World} {α:Type} {E:Enc α} {t e:TypeId} {bytes:Nat}
theorem run_copyE (hT:SliceTy P t e E.size bytes) (ty:TypeId) {base g n c s m sc:Nat} {S S':Nat→Prop} {row news:List α} {ad:Option Addr} (hown:Own E w base e S (.slice (some ⟨g,0,none⟩) n c) row) (hm:m=news.length) (hfit:s+m≤row.length) (hsrc:SlAt E w S' ad news) (hflat:∀ {cs:List Value} {x:α},E.rd w S' cs x→E.rd w S cs x) :
  ∃ w',(Builtin.copy_ #[t,t] ty #[.slice (some ⟨g,s * E.size,none⟩) (n - s) (c - s),.slice ad m sc]).run P w = .ok (goInt m) w'∧Own E w' base e S (.slice (some ⟨g,0,none⟩) n c) (over row s news)∧w.grownBy w' (some g):=by
 obtain⟨i,z,hi,hz,hsz,hby,hzs⟩:=hT.info
 obtain⟨css,h1,h2,h3⟩:=hown
 have hgS:¬ S g:=h3 g rfl
 rcases h1.2 with ⟨he,_⟩ | ⟨g',cap,cur,he,hb,hg,hnc,hcm,hcs,htake⟩
 ·cases he
 ·injection he with e1 e2 e3
  injection e1 with e1
  injection e1 with e1
  subst e1 e2 e3
  have hlen:css.length=row.length:=h2.length
  by_cases hn:news=[]
  ·subst hn
   subst hm
   refine⟨w, ?_, ?_,World.grownBy.refl w _⟩
   ·cases ad with
    | none=>simp [Builtin.copy_,run_underlying hT.und,Builtin.lenOf,Builtin.firstCells,sizeOf,typeInfo,hi,storeCells]
    | some x=>simp [Builtin.copy_,run_underlying hT.und,Builtin.lenOf,Builtin.firstCells,sizeOf,typeInfo,hi,storeCells,loadCells,loadCellsFrom]
   ·have:over row s ([]:List α)=row:=by unfold over;simp
    rw [this]
    exact⟨css,h1,h2,h3⟩
  ·obtain⟨b,off,rfl,hSb⟩:=hsrc.some_ hn
   obtain⟨css',k1,k2,k3',k4⟩:=hsrc.row
   have k3:All2 (E.rd w S) css' news:=k3'.mono fun _ _ hr=>hflat hr
   have hfl:css'.flatten.length=m * E.size:=by rw [flatten_len E.size css' k2,k1,hm]
   have hmin:Nat.min m (row.length - s)=m:=Nat.min_eq_left (by omega)
   have hone:∀ v∈css'.flatten,v.oneCell'=true:=by
    intro u hu
    obtain⟨cs,hc1,hc2⟩:=List.mem_flatten.1 hu
    obtain⟨k,hk,rfl⟩:=List.mem_iff_getElem.1 hc1
    obtain⟨cs',hcs',hr⟩:=k3.get (i:=k) (b:=news[k]'(by rw [← k1];exact hk)) (List.getElem?_eq_getElem _)
    rw [List.getElem?_eq_getElem hk,Option.some.injEq] at hcs'
    subst hcs'
    exact E.one hr u hc2
   have hsm:s * E.size+m * E.size≤row.length * E.size:=by rw [← Nat.add_mul];exact Nat.mul_le_mul_right _ hfit
   have hrc:row.length * E.size≤c * E.size:=Nat.mul_le_mul_right _ hnc
   have hl:=run_loadCells_list (P:=P) w ⟨b,off,none⟩ css'.flatten k4
   have hst:=run_storeCells_at P g (s * E.size) e css'.flatten 0 cur w hg (by rw [hfl,hcs];omega) hone
   obtain⟨nw,hnw⟩:∃ nw:Array Value,nw=(cur.toList.take (s * E.size+0)++css'.flatten++cur.toList.drop (s * E.size+0+css'.flatten.length)).toArray:=⟨_,rfl⟩
   rw [← hnw] at hst
   refine⟨w.setRow g nw, ?_,⟨css.take s++css'++css.drop (s+m),⟨?_,Or.inr ⟨g,c,nw, ?_,hb,setRow_heap w g cur nw e (0,0) hg, ?_,hcm, ?_, ?_⟩⟩, ?_,h3⟩, ?_⟩
   ·rw [hfl] at hl
    simp [Builtin.copy_,run_underlying hT.und,Builtin.lenOf,Builtin.firstCells,sizeOf,typeInfo,hi,hsz,hmin,hl,hst]
   ·simp only [List.flatten_append,List.length_append]
    rw [← flatten_take E.size css s h2.sizes, ← flatten_drop E.size css (s+m) h2.sizes,List.length_take,List.length_drop,hfl,flatten_len E.size css h2.sizes,hlen,over_len (by omega),Nat.add_mul]
    omega
   ·rw [over_len (by omega)]
   ·rw [over_len (by omega)];exact hnc
   ·rw [hnw]
    simp only [List.size_toArray,List.length_append,List.length_take,List.length_drop,Array.length_toList,hfl,hcs]
    omega
   ·rw [over_len (by omega)]
    have hcl:cur.toList.length=c * E.size:=by simp [hcs]
    have hA:cur.toList.take (s * E.size)=(css.take s).flatten:=by
     rw [← flatten_take E.size css s h2.sizes, ← htake,List.take_take,Nat.min_eq_left (by omega)]
    have hD:(cur.toList.drop (s * E.size+m * E.size)).take (row.length * E.size - (s * E.size+m * E.size))=(css.drop (s+m)).flatten:=by
     rw [← flatten_drop E.size css (s+m) h2.sizes, ← htake,List.drop_take,Nat.add_mul]
    rw [hnw]
    simp only [Nat.add_zero,hfl,List.flatten_append]
    rw [List.take_append,List.take_of_length_le (by simp only [List.length_append,List.length_take,hfl,hcl];omega),hA, ← hD]
    congr 2
    simp only [List.length_append,hfl]
    rw [← hA,List.length_take,hcl]
    omega
   ·have hk':∀ b',S b'→(w.setRow g nw).heap[b']? = w.heap[b']? := fun b' hb'=>setRow_other w g b' _ (fun e=>hgS (by rw [← e];exact hb'))
    unfold over
    rw [hm]
    exact All2.append (All2.append ((h2.take s).mono fun _ _ hr=>Enc.blk hr hk') (k3.mono fun _ _ hr=>Enc.blk hr hk')) ((h2.drop _).mono fun _ _ hr=>Enc.blk hr hk')
   ·exact⟨rfl,rfl,rfl,by simp [World.setRow],fun k _ hk=>setRow_other w g k _ (fun e=>hk (by rw [e]))⟩
theorem step_copyE {ops:Array Oper} {o:Oper} {a:Act} {K:Act→World→Prop} {Q:Exit→Act→World→Prop} {X:Prop} (hT:SliceTy P t e E.size bytes) (hgd:o.guard=none) (d x:Operand) (ho:o.op = .call { callee := .builtin .copy,args := #[d,x],argTypes := #[t,t] })
  {base g n c s m sc:Nat} {S S':Nat→Prop} {row news:List α} {ad:Option Addr} (hd:a.eval d = .slice (some ⟨g,s * E.size,none⟩) (n - s) (c - s)) (hx:a.eval x = .slice ad m sc) (hown:Own E w base e S (.slice (some ⟨g,0,none⟩) n c) row) (hm:m=news.length) (hfit:s+m≤row.length) (hsrc:SlAt E w S' ad news) (hflat:∀ {cs:List Value} {x:α},E.rd w S' cs x→E.rd w S cs x)
  (h:∀ w',Own E w' base e S (.slice (some ⟨g,0,none⟩) n c) (over row s news)→w.grownBy w' (some g)→K (a.put o.dst (goInt m)) w') :
  if Region.wanted o (yielded ops a.tmps)=true then Oper.wp P o a w K Q else X:=by
 have hw:Region.wanted o (yielded ops a.tmps)=true:=by simp [Region.wanted,hgd]
 rw [if_pos hw]
 obtain⟨w',hr,h2,h3⟩:=run_copyE (P:=P) (sc:=sc) hT o.type hown hm hfit hsrc hflat
 unfold Oper.wp execOp
 simp only [ho,resolve,invoke,builtin,Sem.run_bind,Sem.run_pure,Result.andThen_ok,List.map_toArray,List.map_cons,List.map_nil,hd,hx,hr]
 exact h w' h2 h3
end
end Go.Proofs.YtgndgkjefgjamaaGreat
namespace Go.Proofs.YtgndgkjefgjamaaGreat
open Go.RowKit

theorem infoU8:(Tryz.prog.info? 5).isSome=true:=by kernel_rfl
theorem cellsU8:Tryz.prog.cellsOf 5=1:=by kernel_rfl
theorem aggU8 (w:World):(isAgg 5).run Tryz.prog w = .ok false w:=by kernel_rfl
theorem undU8:Tryz.prog.underlying 5=some (.int .u8):=by kernel_rfl
theorem undSec:Tryz.prog.underlying 95=some (.array 8 5):=by kernel_rfl

theorem run_eq_sec (w:World) (x0 x1 x2 x3 x4 x5 x6 x7 y0 y1 y2 y3 y4 y5 y6 y7:Int) :
  (Op.equalIn 10000 95 (.agg #[.int .u8 x0,.int .u8 x1,.int .u8 x2,.int .u8 x3,.int .u8 x4,.int .u8 x5,.int .u8 x6,.int .u8 x7]) (.agg #[.int .u8 y0,.int .u8 y1,.int .u8 y2,.int .u8 y3,.int .u8 y4,.int .u8 y5,.int .u8 y6,.int .u8 y7])).run Tryz.prog w
   = .ok ([x0,x1,x2,x3,x4,x5,x6,x7]==[y0,y1,y2,y3,y4,y5,y6,y7]) w:=by
 obtain⟨i,hi⟩:=Option.isSome_iff_exists.1 infoU8
 rw [run_equalIn_array w 9999 _ _ undSec hi,cellsU8]
 have h:List.range 8=[0,1,2,3,4,5,6,7]:=rfl
 rw [h]
 simp only [Op.eqItems,part,Sem.run_bind,aggU8,Result.andThen_ok,Sem.run_ite,Bool.false_eq_true,if_false]
 simp [run_equalIn_int w _ _ _ _ _ _ undU8]
 by_cases h0:x0=y0
 ·by_cases h1:x1=y1
  ·by_cases h2:x2=y2
   ·by_cases h3:x3=y3
    ·by_cases h4:x4=y4
     ·by_cases h5:x5=y5
      ·by_cases h6:x6=y6
       ·by_cases h7:x7=y7 <;> simp [*]
       ·simp [*]
      ·simp [*]
     ·simp [*]
    ·simp [*]
   ·simp [*]
  ·simp [*]
 ·simp [*]
theorem take_succ_eq {α:Type} (l m:List α) (k:Nat) (h1:k<l.length) (h2:k<m.length) (h:l.take k=m.take k) (he:l[k]=m[k]):l.take (k+1)=m.take (k+1):=by
 rw [List.take_succ_eq_append_getElem h1,List.take_succ_eq_append_getElem h2,h,he]
theorem cell_new (w:World) (vs:Array Value) (T:TypeId):∀ j u,vs.toList[j]? = some u→(w.alloc (.cells vs T)).cell? (Addr.add ⟨w.heap.size,0,none⟩ j)=some u:=by
 intro j u h
 have hadd:(⟨w.heap.size,0,none⟩:Addr).add j=⟨w.heap.size,j,none⟩:=by unfold Addr.add;split <;> simp_all
 rw [hadd,cell_of_row _ _ j vs T (0,0) (heap_alloc_new w _)]
 simpa using h
def cmpI (a b:Int):Int:=if a<b then -1 else if b<a then 1 else 0
theorem compare_any (a b:Int) (w:World) :
  Calls Tryz.prog 171 #[.int .i64 a,.int .i64 b] w fun e w'=>e = .returned (.int .i64 (cmpI a b))∧w'=w:=by
 go_enter Tryz.func171,Tryz.ntmps171
 go_wp2
 all_goals go_ret
 all_goals refine⟨ret_int ?_,rfl⟩
 all_goals (simp only [cmpI];simp_all;try omega)

theorem blk2 {w:World} {b:Nat} {T:TypeId} {c0 c1:Value} (h:w.heap[b]? = some (.cells #[c0,c1] T (0,0))) :
  w.cell? ⟨b,0,none⟩=some c0∧w.cell? ⟨b,1,none⟩=some c1∧∀ j,w.frozen? ⟨b,j,none⟩=false :=
 ⟨cell_of_row w b 0 _ T _ h,cell_of_row w b 1 _ T _ h,fun j=>by simp [World.frozen?,h]⟩
theorem blk2_set {w:World} {b:Nat} {T:TypeId} {c0 c1:Value} (h:w.heap[b]? = some (.cells #[c0,c1] T (0,0))) (u v:Value):((w.setCell ⟨b,0,none⟩ u).setCell ⟨b,1,none⟩ v).heap[b]? = some (.cells #[u,v] T (0,0)):=by
 simp [World.setCell,Array.getElem?_modify,h]
theorem blk3 {w:World} {b:Nat} {T:TypeId} {c0 c1 c2:Value} (h:w.heap[b]? = some (.cells #[c0,c1,c2] T (0,0))) :
  w.cell? ⟨b,0,none⟩=some c0∧w.cell? ⟨b,1,none⟩=some c1∧w.cell? ⟨b,2,none⟩=some c2∧∀ j,w.frozen? ⟨b,j,none⟩=false :=
 ⟨cell_of_row w b 0 _ T _ h,cell_of_row w b 1 _ T _ h,cell_of_row w b 2 _ T _ h,fun j=>by simp [World.frozen?,h]⟩
theorem blk3_set {w:World} {b:Nat} {T:TypeId} {c0 c1 c2:Value} (h:w.heap[b]? = some (.cells #[c0,c1,c2] T (0,0))) (u:Value):(w.setCell ⟨b,2,none⟩ u).heap[b]? = some (.cells #[c0,c1,u] T (0,0)):=by
 simp [World.setCell,Array.getElem?_modify,h]
theorem zsec_ok:OkSec zsec:=⟨rfl,by simp [zsec]⟩
end Go.Proofs.YtgndgkjefgjamaaGreat

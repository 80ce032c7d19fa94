/-
  The plain law of the sweep: sorted ends of extents, swept, give the runs of the sectors that satisfy a condition. No program in sight.; The walks of extent.within and extent.Contains.; Arguments that read as data read as plain data (Enc), type by type; the last step of a law's proof. No program in sight.; The walks of Sectors and Same.; The walks of the reference's Sizes, Check, Merge.; The walks of the laws CoalesceFolds and CoalesceMerges.; The walks of Clone, Equal at sectors, of EqualFunc and Same at images, copied, and of the reference's Few and Same.
-/
import Derived.OpenShut
import Derived.Carry
import Derived.ProofKit
import Derived.ChangeSame
import GoSem.Claim
import GoSem.ClaimJoined
import GoSem.ClaimMapViews
import Derived.JoinedTies
import Derived.KernelRfl
import Derived.Laws.MakeOwn
import Derived.BigQuiet
import Derived.Test.YtgndgkjefgjamaaGreatV01
import Derived.Test.YtgndgkjefgjamaaGreatV02
import Derived.Test.YtgndgkjefgjamaaGreatV03
set_option linter.unusedVariables false
set_option linter.unusedSimpArgs false
set_option linter.unusedSectionVars false
set_option linter.unnecessarySimpa false
namespace Go.Proofs.YtgndgkjefgjamaaGreat

def inExt (x:Int) (e:Ext):Bool:=decide (0≤x∧x<4096∧e.1≤x∧x<e.1+e.2)
abbrev End:=Int × Int × Int
def clipF (e:Ext):Int:=if e.1<0 then 0 else e.1
def clipT (e:Ext):Int:=if e.1+e.2<4096 then e.1+e.2 else 4096
def endsL (i:Int) (l:List Ext):List End:=l.flatMap fun e=>if clipF e<clipT e then [(clipF e,i,1),(clipT e,i, -1)] else []
def endsOf (a b:List Ext):List End:=endsL 0 a++endsL 1 b
def dsum (i p:Int) (s:List End):Int:=s.foldr (fun e r=>(if e.2.1=i∧e.1≤p then e.2.2 else 0)+r) 0
theorem dsum_cons (i p:Int) (e:End) (s:List End):dsum i p (e :: s)=(if e.2.1=i∧e.1≤p then e.2.2 else 0)+dsum i p s:=rfl
theorem dsum_append (i p:Int) (s t:List End):dsum i p (s++t)=dsum i p s+dsum i p t:=by
 induction s with
 | nil=>simp [dsum]
 | cons e s ih=>rw [List.cons_append,dsum_cons,dsum_cons,ih];omega
theorem dsum_perm {i p:Int} {s t:List End} (h:s.Perm t):dsum i p s=dsum i p t:=by
 induction h with
 | nil=>rfl
 | cons e _ ih=>rw [dsum_cons,dsum_cons,ih]
 | swap e f l=>simp only [dsum_cons];omega
 | trans _ _ ih1 ih2=>exact ih1.trans ih2
def dtot (i:Int) (s:List End):Int:=s.foldr (fun e r=>(if e.2.1=i then e.2.2 else 0)+r) 0
theorem dtot_cons (i:Int) (e:End) (s:List End):dtot i (e :: s)=(if e.2.1=i then e.2.2 else 0)+dtot i s:=rfl
theorem dtot_snoc (i:Int) (s:List End) (e:End):dtot i (s++[e])=dtot i s+(if e.2.1=i then e.2.2 else 0):=by
 induction s with
 | nil=>simp [dtot]
 | cons f s ih=>rw [List.cons_append,dtot_cons,dtot_cons,ih];omega
theorem dsum_le {i p:Int} {s:List End} (h:∀ e∈s,e.1≤p):dsum i p s=dtot i s:=by
 induction s with
 | nil=>rfl
 | cons e s ih =>
   have h1:=h e (by simp)
   rw [dsum_cons,dtot_cons,ih (fun f hf=>h f (by simp [hf]))]
   by_cases hi:e.2.1=i <;> simp [hi,h1]
theorem dsum_gt {i p:Int} {s:List End} (h:∀ e∈s,p<e.1):dsum i p s=0:=by
 induction s with
 | nil=>rfl
 | cons e s ih =>
   have h1:=h e (by simp)
   rw [dsum_cons,ih (fun f hf=>h f (by simp [hf])),if_neg (by omega)];rfl
theorem endsL_other {i j p:Int} (h:i≠j) (l:List Ext):dsum j p (endsL i l)=0:=by
 induction l with
 | nil=>rfl
 | cons e l ih =>
   have:endsL i (e :: l)=(if clipF e<clipT e then [(clipF e,i,1),(clipT e,i, -1)] else [])++endsL i l:=rfl
   rw [this,dsum_append,ih]
   split
   ·simp [dsum,h]
   ·simp [dsum]
def cover (p:Int) (l:List Ext):Int:=l.foldr (fun e r=>(if clipF e≤p∧p<clipT e then 1 else 0)+r) 0
theorem endsL_same (i p:Int) (l:List Ext):dsum i p (endsL i l)=cover p l:=by
 induction l with
 | nil=>rfl
 | cons e l ih =>
   have h1:endsL i (e :: l)=(if clipF e<clipT e then [(clipF e,i,1),(clipT e,i, -1)] else [])++endsL i l:=rfl
   have h2:cover p (e :: l)=(if clipF e≤p∧p<clipT e then 1 else 0)+cover p l:=rfl
   rw [h1,dsum_append,ih,h2]
   congr 1
   by_cases hc:clipF e<clipT e
   ·rw [if_pos hc]
    simp only [dsum,List.foldr_cons,List.foldr_nil,true_and]
    by_cases a1:clipF e≤p
    ·by_cases a2:clipT e≤p
     ·rw [if_pos a1,if_pos a2,if_neg (by omega)];rfl
     ·rw [if_pos a1,if_neg a2,if_pos (by omega)];rfl
    ·rw [if_neg a1,if_neg (by omega),if_neg (by omega)];rfl
   ·rw [if_neg hc,if_neg (by omega)];rfl
theorem cover_nonneg (p:Int) (l:List Ext):0≤cover p l:=by
 induction l with
 | nil=>exact Int.le_refl _
 | cons e l ih =>
   have h2:cover p (e :: l)=(if clipF e≤p∧p<clipT e then 1 else 0)+cover p l:=rfl
   rw [h2];split <;> omega
theorem cover_any {p:Int} (h0:0≤p) (h1:p<4096) (l:List Ext):decide (0<cover p l)=l.any (inExt p):=by
 induction l with
 | nil=>rfl
 | cons e l ih =>
   have h2:cover p (e :: l)=(if clipF e≤p∧p<clipT e then 1 else 0)+cover p l:=rfl
   have hn:=cover_nonneg p l
   rw [h2,List.any_cons, ← ih]
   have hiff:(clipF e≤p∧p<clipT e)↔(0≤p∧p<4096∧e.1≤p∧p<e.1+e.2):=by
    unfold clipF clipT;split <;> split <;> omega
   unfold inExt
   by_cases hc:clipF e≤p∧p<clipT e
   ·rw [if_pos hc,decide_eq_true (hiff.1 hc),decide_eq_true (by omega)];rfl
   ·rw [if_neg hc,decide_eq_false (fun h=>hc (hiff.2 h))];simp
theorem ends_range {a b:List Ext}:∀ e∈endsOf a b,0≤e.1∧e.1≤4096∧(e.2.1=0∨e.2.1=1)∧(e.2.2=1∨e.2.2 = -1):=by
 have key:∀ (i:Int) (l:List Ext),(i=0∨i=1)→∀ e∈endsL i l,0≤e.1∧e.1≤4096∧(e.2.1=0∨e.2.1=1)∧(e.2.2=1∨e.2.2 = -1):=by
  intro i l hi e he
  obtain⟨x,_,hx⟩:=List.mem_flatMap.1 he
  split at hx
  ·rename_i hc
   have hF:0≤clipF x:=by unfold clipF;split <;> omega
   have hT:clipT x≤4096:=by unfold clipT;split <;> omega
   simp only [List.mem_cons,List.not_mem_nil,or_false] at hx
   rcases hx with rfl | rfl
   ·exact⟨hF,by simp only;omega,hi,Or.inl rfl⟩
   ·exact⟨by simp only;omega,hT,hi,Or.inr rfl⟩
  ·simp at hx
 intro e he
 rcases List.mem_append.1 he with he | he
 ·exact key 0 a (Or.inl rfl) e he
 ·exact key 1 b (Or.inr rfl) e he

structure Sw where
 dA:Int
 dB:Int
 start:Int
 inside:Bool
 out:List Ext
def swIn (keep:Bool→Bool→Bool) (dA dB:Int):Bool:=keep (decide (0<dA)) (decide (0<dB))
def swStep (keep:Bool→Bool→Bool) (st:Sw) (x:End) (last:Bool):Sw :=
 let dA:=if x.2.1=0 then st.dA+x.2.2 else st.dA
 let dB:=if x.2.1=0 then st.dB else st.dB+x.2.2
 if last=false then { st with dA:=dA,dB:=dB } else
  let now:=swIn keep dA dB
  { dA:=dA,dB:=dB,start:=if now && !st.inside then x.1 else st.start,inside:=now,out:=if !now && st.inside then st.out++[(st.start,x.1 - st.start)] else st.out }
def lastAt (x:End) (rest:List End):Bool:=match rest with | []=>true | y :: _=>decide (y.1≠x.1)
def sweepL (keep:Bool→Bool→Bool):List End→Sw→Sw
 | [],st=>st
 | x :: rest,st=>sweepL keep rest (swStep keep st x (lastAt x rest))
def below (P:Int→Bool) (q:Nat):List Int:=((List.range q).filter fun (x:Nat)=>P x).map Int.ofNat
theorem below_succ (P:Int→Bool) (q:Nat):below P (q+1)=below P q++(if P q then [(q:Int)] else []):=by
 unfold below
 rw [List.range_succ,List.filter_append,List.map_append]
 congr 1
 by_cases h:P q <;> simp [h]
theorem below_lt (P:Int→Bool) (q:Nat):∀ x∈below P q,0≤x∧x<q:=by
 intro x hx
 obtain⟨i,hi,rfl⟩:=List.mem_map.1 hx
 have:=List.mem_range.1 (List.mem_filter.1 hi).1
 exact⟨Int.natCast_nonneg i,Int.ofNat_lt.2 this⟩
theorem runs_off {P:Int→Bool} {a q:Nat} (h:a≤q) (hp:∀ x:Nat,a≤x→x<q→P x=false):runsL (below P q)=runsL (below P a):=by
 induction q with
 | zero => have:a=0:=by omega
           subst this;rfl
 | succ q ih =>
   by_cases e:a=q+1
   ·rw [e]
   ·rw [below_succ,if_neg (by rw [hp q (by omega) (by omega)];simp),List.append_nil]
    exact ih (by omega) (fun x h1 h2=>hp x h1 (by omega))
theorem runs_on {P:Int→Bool} {a q:Nat} {out:List Ext} (h:a<q) (h0:runsL (below P a)=out) (hg:∀ s c,out.getLast? = some (s,c)→s+c<a) (hp:∀ x:Nat,a≤x→x<q→P x=true):runsL (below P q)=out++[((a:Int),(q:Int) - a)]:=by
 induction q with
 | zero=>omega
 | succ q ih =>
   rw [below_succ,if_pos (hp q (by omega) (by omega)),runsL_snoc]
   by_cases e:a=q
   ·subst e
    rw [h0,runStep_new (fun s c hl=>by have:=hg s c hl;omega)]
    congr 3
    omega
   ·rw [ih (by omega) (fun x h1 h2=>hp x h1 (by omega))]
    unfold runStep
    rw [List.getLast?_concat]
    simp only
    rw [if_pos (by omega),List.dropLast_concat]
    congr 3
    omega
end Go.Proofs.YtgndgkjefgjamaaGreat

namespace Go.Proofs.YtgndgkjefgjamaaGreat

def SwInv (P:Int→Bool) (a:Nat) (st:Sw):Prop :=
 if st.inside=true then ∃ s0:Nat,st.start=s0∧s0≤a∧runsL (below P s0)=st.out∧(∀ s c,st.out.getLast? = some (s,c)→s+c<s0)∧∀ x:Nat,s0≤x→x<a→P x=true
 else runsL (below P a)=st.out∧∀ s c,st.out.getLast? = some (s,c)→s+c≤a
theorem SwInv.on {P:Int→Bool} {a c:Nat} {st:Sw} (h:SwInv P a st) (hac:a≤c) (hp:∀ x:Nat,a≤x→x<c→P x=st.inside):SwInv P c st:=by
 unfold SwInv at h ⊢
 cases hi:st.inside with
 | true =>
   rw [hi] at h hp
   simp only [if_true] at h ⊢
   obtain⟨s0,h1,h2,h3,h4,h5⟩:=h
   refine⟨s0,h1,by omega,h3,h4,fun x hx hxc => ?_⟩
   by_cases e:x<a
   ·exact h5 x hx e
   ·exact hp x (by omega) hxc
 | false =>
   rw [hi] at h hp
   simp only [Bool.false_eq_true,if_false] at h ⊢
   refine⟨(runs_off hac hp).trans h.1,fun s c' hl => ?_⟩
   have:=h.2 s c' hl
   omega
theorem SwInv.turn {P:Int→Bool} {c:Nat} {st:Sw} (h:SwInv P c st) (keep:Bool→Bool→Bool) (x:End) (hx:x.1=c) (hgap:st.inside=false→∀ s c',st.out.getLast? = some (s,c')→s+c'<c) (hin:st.inside=true→∃ s0:Nat,st.start=s0∧s0<c) :
  SwInv P c (swStep keep st x true):=by
 have hs:swStep keep st x true={ dA:=if x.2.1=0 then st.dA+x.2.2 else st.dA,dB:=if x.2.1=0 then st.dB else st.dB+x.2.2,start:=if swIn keep (if x.2.1=0 then st.dA+x.2.2 else st.dA) (if x.2.1=0 then st.dB else st.dB+x.2.2) && !st.inside then x.1 else st.start,inside:=swIn keep (if x.2.1=0 then st.dA+x.2.2 else st.dA) (if x.2.1=0 then st.dB else st.dB+x.2.2),out:=if !(swIn keep (if x.2.1=0 then st.dA+x.2.2 else st.dA) (if x.2.1=0 then st.dB else st.dB+x.2.2)) && st.inside then st.out++[(st.start,x.1 - st.start)] else st.out }:=rfl
 rw [hs]
 generalize swIn keep (if x.2.1=0 then st.dA+x.2.2 else st.dA) (if x.2.1=0 then st.dB else st.dB+x.2.2)=now
 unfold SwInv at h ⊢
 simp only
 cases now with
 | true =>
   cases hi:st.inside with
   | true =>
     rw [hi] at h
     simpa using h
   | false =>
     rw [hi] at h
     simp only [Bool.false_eq_true,if_false] at h
     simp only [Bool.not_false,Bool.and_self,if_true,Bool.not_true,Bool.false_and,Bool.false_eq_true,if_false]
     exact⟨c,hx,Nat.le_refl _,h.1,hgap hi,fun y h1 h2=>by omega⟩
 | false =>
   cases hi:st.inside with
   | true =>
     rw [hi] at h
     simp only [if_true] at h
     obtain⟨s0,h1,h2,h3,h4,h5⟩:=h
     obtain⟨s1,h6,h7⟩:=hin hi
     have:s0=s1:=by have:=h1.symm.trans h6;omega
     subst this
     simp only [Bool.false_eq_true,if_false,Bool.not_false,Bool.and_self,if_true]
     rw [h1,hx]
     refine⟨runs_on h7 h3 h4 h5,fun s c' hl => ?_⟩
     rw [List.getLast?_concat] at hl
     injection hl with hl
     injection hl with e1 e2
     omega
   | false =>
     rw [hi] at h
     simpa using h
def PofL (keep:Bool→Bool→Bool) (s:List End) (p:Int):Bool:=swIn keep (dsum 0 p s) (dsum 1 p s)
theorem sweep_inv (keep:Bool→Bool→Bool) (s:List End) (hs:s.Pairwise (fun x y=>x.1≤y.1)) (hr:∀ e∈s,0≤e.1∧e.1≤4096∧(e.2.1=0∨e.2.1=1)) :
  ∀ (rest pre:List End) (st:Sw) (a:Nat),s=pre++rest→st.dA=dtot 0 pre→st.dB=dtot 1 pre→a≤4096→SwInv (PofL keep s) a st→(∀ y∈rest,(a:Int)≤y.1) →
    (∀ y∈rest,(a:Int)<y.1∨(st.out=[]∧st.inside=false))→(∀ x:Nat,a≤x→(∀ y∈rest,(x:Int)<y.1)→PofL keep s x=st.inside) →
    ∃ a':Nat,a'≤4096∧SwInv (PofL keep s) a' (sweepL keep rest st)∧∀ x:Nat,a'≤x→PofL keep s x=(sweepL keep rest st).inside:=by
 intro rest
 induction rest with
 | nil =>
   intro pre st a _ _ _ ha hinv _ _ hp
   exact⟨a,ha,hinv,fun x hx=>hp x hx (by simp)⟩
 | cons x rest ih =>
   intro pre st a he hA hB ha hinv hle hlt hp
   have hxs:x∈s:=by rw [he];simp
   obtain⟨x0,x1,x2⟩:=hr x hxs
   have hs':=hs
   rw [he,List.pairwise_append] at hs'
   obtain⟨_,hs2,hs3⟩:=hs'
   rw [List.pairwise_cons] at hs2
   obtain⟨c,hc⟩:=Int.eq_ofNat_of_zero_le x0
   have hac:a≤c:=by have:=hle x (by simp);omega
   have he':s=(pre++[x])++rest:=by rw [he];simp
   have hA':(if x.2.1=0 then st.dA+x.2.2 else st.dA)=dtot 0 (pre++[x]):=by
    rw [dtot_snoc,hA];split <;> simp
   have hB':(if x.2.1=0 then st.dB else st.dB+x.2.2)=dtot 1 (pre++[x]):=by
    rw [dtot_snoc,hB]
    rcases x2 with h | h
    ·rw [if_pos h,if_neg (by omega)];simp
    ·rw [if_neg (by omega),if_pos h]
   show ∃ a':Nat,a'≤4096∧SwInv (PofL keep s) a' (sweepL keep rest (swStep keep st x (lastAt x rest)))∧∀ y:Nat,a'≤y→PofL keep s y=(sweepL keep rest (swStep keep st x (lastAt x rest))).inside
   cases hl:lastAt x rest with
   | false =>
     have hy:∃ y r,rest=y :: r∧y.1=x.1:=by
      unfold lastAt at hl
      split at hl
      ·cases hl
      ·rename_i y r
       exact⟨y,r,rfl,by simpa using hl⟩
     obtain⟨y,r,hy1,hy2⟩:=hy
     have hst:swStep keep st x false={ st with dA:=if x.2.1=0 then st.dA+x.2.2 else st.dA,dB:=if x.2.1=0 then st.dB else st.dB+x.2.2 }:=rfl
     rw [hst]
     refine ih (pre++[x]) _ a he' hA' hB' ha hinv (fun z hz=>hle z (by simp [hz])) (fun z hz=>hlt z (by simp [hz])) (fun z hz h=>hp z hz (fun w hw => ?_))
     rcases List.mem_cons.1 hw with rfl | hw
     ·have:=h y (by rw [hy1];simp);omega
     ·exact h w hw
   | true =>
     have hrest:∀ y∈rest,(c:Int)<y.1:=by
      intro y hy
      have h1:=hs2.1 y hy
      unfold lastAt at hl
      split at hl
      ·simp at hy
      ·rename_i z r
       have hz:z.1≠x.1:=by simpa using hl
       have hz1:=hs2.1 z (by simp)
       rcases List.mem_cons.1 hy with rfl | hy'
       ·omega
       ·have:=(List.pairwise_cons.1 hs2.2).1 y hy'
        omega
     have hon:SwInv (PofL keep s) c st:=hinv.on hac (fun z h1 h2=>hp z h1 (fun w hw=>by
      rcases List.mem_cons.1 hw with rfl | hw
      ·omega
      ·have:=hrest w hw;omega))
     have hnew:=hon.turn keep x hc (fun hin s' c' hl'=>by
      rcases hlt x (by simp) with h | ⟨h,_⟩
      ·unfold SwInv at hinv
       rw [hin] at hinv
       simp only [Bool.false_eq_true,if_false] at hinv
       have:=hinv.2 s' c' hl'
       omega
      ·rw [h] at hl';simp at hl') (fun hin=>by
      rcases hlt x (by simp) with h | ⟨_,h⟩
      ·unfold SwInv at hinv
       rw [if_pos hin] at hinv
       obtain⟨s0,h1,h2,_⟩:=hinv
       exact⟨s0,h1,by omega⟩
      ·rw [h] at hin;cases hin)
     have hd:(swStep keep st x true).dA=dtot 0 (pre++[x]):=hA'
     have hd2:(swStep keep st x true).dB=dtot 1 (pre++[x]):=hB'
     have hin2:(swStep keep st x true).inside=swIn keep (dtot 0 (pre++[x])) (dtot 1 (pre++[x])):=by rw [← hA', ← hB'];rfl
     refine ih (pre++[x]) _ c he' hd hd2 (by omega) hnew (fun z hz=>by have:=hrest z hz;omega) (fun z hz=>Or.inl (hrest z hz)) (fun z hz h => ?_)
     rw [hin2]
     unfold PofL
     have hpre:∀ e∈pre++[x],e.1≤(z:Int):=by
      intro e hem
      rcases List.mem_append.1 hem with h1 | h1
      ·have:=hs3 e h1 x (by simp);omega
      ·rw [List.mem_singleton.1 h1];omega
     rw [he',dsum_append 0 z (pre++[x]) rest,dsum_append 1 z (pre++[x]) rest,dsum_le hpre,dsum_le hpre,dsum_gt h,dsum_gt h,Int.add_zero,Int.add_zero]
theorem cover_far (l:List Ext):cover 4096 l=0:=by
 induction l with
 | nil=>rfl
 | cons e l ih =>
   have h2:cover 4096 (e :: l)=(if clipF e≤4096∧(4096:Int)<clipT e then 1 else 0)+cover 4096 l:=rfl
   have hT:clipT e≤4096:=by unfold clipT;split <;> omega
   rw [h2,ih,if_neg (by omega)];rfl
def opL (keep:Bool→Bool→Bool) (a b:List Ext):List Ext:=runsL (below (fun x=>keep (a.any (inExt x)) (b.any (inExt x))) 4096)
def sw0:Sw:={ dA:=0,dB:=0,start:=0,inside:=false,out:=[] }
theorem below_congr (P Q:Int→Bool) (q:Nat) (h:∀ x:Nat,x<q→P x=Q x):below P q=below Q q:=by
 unfold below
 refine congrArg _ (List.filter_congr fun x hx => ?_)
 exact h x (List.mem_range.1 hx)
theorem sweep_law (keep:Bool→Bool→Bool) (hk:keep false false=false) (a b:List Ext) (s:List End) (hp:s.Perm (endsOf a b)) (hs:s.Pairwise (fun x y=>x.1≤y.1)):(sweepL keep s sw0).out=opL keep a b:=by
 have hr:∀ e∈s,0≤e.1∧e.1≤4096∧(e.2.1=0∨e.2.1=1):=fun e he=>by
  obtain⟨h1,h2,h3,_⟩:=ends_range e (hp.mem_iff.1 he)
  exact⟨h1,h2,h3⟩
 have hP:∀ p:Int,PofL keep s p=swIn keep (cover p a) (cover p b):=by
  intro p
  unfold PofL
  rw [dsum_perm hp,dsum_perm hp]
  unfold endsOf
  rw [dsum_append,dsum_append,endsL_same,endsL_other (by decide),endsL_other (by decide),endsL_same]
  simp
 have h0:PofL keep []=fun _=>false:=by
  funext p;simp [PofL,swIn,dsum,hk]
 obtain⟨a',ha',hinv,hfar⟩:=sweep_inv keep s hs hr s [] sw0 0 (by simp) rfl rfl (by omega) (by
  unfold SwInv
  simp [sw0,below,runsL]) (fun y hy=>by have:=(hr y hy).1;omega) (fun y hy=>Or.inr ⟨rfl,rfl⟩) (fun x _ h=>by
  show PofL keep s x=false
  unfold PofL
  rw [dsum_gt h,dsum_gt h]
  simp [swIn,hk])
 have hin:(sweepL keep s sw0).inside=false:=by
  rw [← hfar 4096 ha',hP]
  have h1:=cover_far a
  have h2:=cover_far b
  show swIn keep (cover ((4096:Nat):Int) a) (cover ((4096:Nat):Int) b)=false
  rw [show ((4096:Nat):Int)=4096 from rfl,h1,h2]
  simp [swIn,hk]
 unfold SwInv at hinv
 rw [hin] at hinv hfar
 simp only [Bool.false_eq_true,if_false] at hinv
 rw [← hinv.1, ← runs_off ha' (fun x h1 _=>hfar x h1)]
 unfold opL
 refine congrArg _ (below_congr _ _ 4096 fun x hx => ?_)
 rw [hP]
 unfold swIn
 rw [cover_any (by omega) (by omega),cover_any (by omega) (by omega)]
end Go.Proofs.YtgndgkjefgjamaaGreat

namespace Go.Proofs.YtgndgkjefgjamaaGreat

def swN (keep:Bool→Bool→Bool) (s:List End):Nat→Sw
 | 0=>sw0
 | k+1=>match s[k]? with
   | some x=>swStep keep (swN keep s k) x (lastAt x (s.drop (k+1)))
   | none=>swN keep s k
theorem swN_succ {keep:Bool→Bool→Bool} {s:List End} {k:Nat} (hk:k<s.length):swN keep s (k+1)=swStep keep (swN keep s k) s[k] (lastAt s[k] (s.drop (k+1))):=by
 show (match s[k]? with | some x=>swStep keep (swN keep s k) x (lastAt x (s.drop (k+1))) | none=>swN keep s k)=_
 rw [List.getElem?_eq_getElem hk]
theorem sweepL_drop (keep:Bool→Bool→Bool) (s:List End):∀ m k,k+m=s.length→sweepL keep (s.drop k) (swN keep s k)=swN keep s s.length:=by
 intro m
 induction m with
 | zero =>
   intro k hk
   have:k=s.length:=by omega
   subst this
   rw [List.drop_length];rfl
 | succ m ih =>
   intro k hk
   have hlt:k<s.length:=by omega
   rw [List.drop_eq_getElem_cons hlt]
   show sweepL keep (s.drop (k+1)) (swStep keep (swN keep s k) s[k] (lastAt s[k] (s.drop (k+1))))=_
   rw [← swN_succ hlt]
   exact ih (k+1) (by omega)
theorem sweepL_swN (keep:Bool→Bool→Bool) (s:List End):sweepL keep s sw0=swN keep s s.length:=by
 have:=sweepL_drop keep s s.length 0 (by omega)
 rw [List.drop_zero] at this
 exact this
theorem swStep_true (keep:Bool→Bool→Bool) (st:Sw) (x:End):∃ now:Bool,swStep keep st x true={ dA:=if x.2.1=0 then st.dA+x.2.2 else st.dA,dB:=if x.2.1=0 then st.dB else st.dB+x.2.2,start:=if now && !st.inside then x.1 else st.start,inside:=now,out:=if !now && st.inside then st.out++[(st.start,x.1 - st.start)] else st.out }:=⟨_,rfl⟩
theorem swStep_false (keep:Bool→Bool→Bool) (st:Sw) (x:End):swStep keep st x false={ st with dA:=if x.2.1=0 then st.dA+x.2.2 else st.dA,dB:=if x.2.1=0 then st.dB else st.dB+x.2.2 }:=rfl
theorem swStep_out (keep:Bool→Bool→Bool) (st:Sw) (x:End) (q:Bool):st.out <+: (swStep keep st x q).out:=by
 cases q with
 | false=>exact List.prefix_rfl
 | true =>
   obtain⟨now,h⟩:=swStep_true keep st x
   rw [h]
   simp only
   split
   ·exact List.prefix_append _ _
   ·exact List.prefix_rfl
theorem swN_mono (keep:Bool→Bool→Bool) (s:List End):∀ m k,(swN keep s k).out <+: (swN keep s (k+m)).out:=by
 intro m
 induction m with
 | zero=>exact fun k=>List.prefix_rfl
 | succ m ih =>
   intro k
   refine (ih k).trans ?_
   show (swN keep s (k+m)).out <+: (swN keep s (k+m+1)).out
   by_cases h:k+m<s.length
   ·rw [swN_succ h];exact swStep_out _ _ _ _
   ·have:swN keep s (k+m+1)=swN keep s (k+m):=by
     show (match s[k+m]? with | some x=>swStep keep (swN keep s (k+m)) x (lastAt x (s.drop (k+m+1))) | none=>swN keep s (k+m))=_
     rw [List.getElem?_eq_none (by omega)]
    rw [this];exact List.prefix_rfl
theorem swN_prefix (keep:Bool→Bool→Bool) (s:List End) {k:Nat} (hk:k≤s.length):(swN keep s k).out <+: (swN keep s s.length).out:=by
 have:=swN_mono keep s (s.length - k) k
 rwa [show k+(s.length - k)=s.length from by omega] at this
def SwOk (k:Nat) (st:Sw):Prop := -(k:Int)≤st.dA∧st.dA≤k ∧ -(k:Int)≤st.dB∧st.dB≤k∧0≤st.start∧st.start≤4096∧(∀ e∈st.out,0≤e.1∧e.1≤4096 ∧ -4096≤e.2∧e.2≤4096)∧st.out.length≤k
theorem swN_ok (keep:Bool→Bool→Bool) (s:List End) (hr:∀ e∈s,0≤e.1∧e.1≤4096∧(e.2.1=0∨e.2.1=1)∧(e.2.2=1∨e.2.2 = -1)):∀ k,k≤s.length→SwOk k (swN keep s k):=by
 intro k
 induction k with
 | zero=>exact fun _=>⟨by simp [swN,sw0],by simp [swN,sw0],by simp [swN,sw0],by simp [swN,sw0],by simp [swN,sw0],by simp [swN,sw0],by simp [swN,sw0],by simp [swN,sw0]⟩
 | succ k ih =>
   intro hk
   obtain⟨i1,i2,i3,i4,i5,i6,i7,i8⟩:=ih (by omega)
   have hlt:k<s.length:=by omega
   obtain⟨r1,r2,_,r4⟩:=hr s[k] (List.getElem_mem hlt)
   rw [swN_succ hlt]
   generalize swN keep s k=st at i1 i2 i3 i4 i5 i6 i7 i8 ⊢
   generalize s[k]=x at r1 r2 r4 ⊢
   generalize lastAt x (s.drop (k+1))=q
   have hd:∀ d:Int, -(k:Int)≤d→d≤k → -((k+1:Nat):Int)≤d+x.2.2∧d+x.2.2≤((k+1:Nat):Int):=fun d h1 h2=>by
    rcases r4 with r | r <;> (rw [r];omega)
   have hA:=hd _ i1 i2
   have hB:=hd _ i3 i4
   have hA' : -((k+1:Nat):Int)≤(if x.2.1=0 then st.dA+x.2.2 else st.dA)∧(if x.2.1=0 then st.dA+x.2.2 else st.dA)≤((k+1:Nat):Int):=by
    split
    ·exact hA
    ·omega
   have hB' : -((k+1:Nat):Int)≤(if x.2.1=0 then st.dB else st.dB+x.2.2)∧(if x.2.1=0 then st.dB else st.dB+x.2.2)≤((k+1:Nat):Int):=by
    split
    ·omega
    ·exact hB
   cases q with
   | false =>
     rw [swStep_false]
     exact⟨hA'.1,hA'.2,hB'.1,hB'.2,i5,i6,i7,by simp only;omega⟩
   | true =>
     obtain⟨now,h⟩:=swStep_true keep st x
     rw [h]
     refine⟨hA'.1,hA'.2,hB'.1,hB'.2, ?_, ?_, ?_, ?_⟩
     ·simp only;split <;> assumption
     ·simp only;split <;> assumption
     ·simp only
      split
      ·intro e he
       rcases List.mem_append.1 he with h | h
       ·exact i7 e h
       ·rw [List.mem_singleton.1 h];simp only;omega
      ·exact i7
     ·simp only
      split
      ·rw [List.length_append,List.length_singleton];omega
      ·omega
theorem runStep_any {out:List Ext} {x:Int} (hx:0≤x∧x<4096) (hc:∀ e∈out,0<e.2) (y:Int):(runStep out x).any (inExt y)=(out.any (inExt y) || decide (y=x)):=by
 have h1:inExt y (x,1)=decide (y=x):=by
  unfold inExt
  rw [decide_eq_decide]
  simp only
  omega
 unfold runStep
 split
 ·rename_i s c hg
  split
  ·rename_i he
   obtain⟨init,hi⟩:=List.getLast?_eq_some_iff.1 hg
   have hcc:=hc (s,c) (List.mem_of_getLast? hg)
   simp only at hcc
   rw [hi,List.dropLast_concat,List.any_append,List.any_append,Bool.or_assoc]
   refine congrArg _ ?_
   simp only [List.any_cons,List.any_nil,Bool.or_false]
   rw [Bool.eq_iff_iff]
   simp only [inExt,Bool.or_eq_true,decide_eq_true_eq]
   omega
  ·rw [List.any_append]
   simp [h1]
 ·rename_i hg
  rw [List.getLast?_eq_none_iff.1 hg]
  simp [h1]
theorem runs_any (P:Int→Bool) (q:Nat) (hq:q≤4096) (y:Int):(runsL (below P q)).any (inExt y)=(decide (0≤y∧y<q) && P y):=by
 induction q with
 | zero =>
   have:¬ (0≤y∧y<((0:Nat):Int)):=by omega
   rw [decide_eq_false this];rfl
 | succ q ih =>
   have ih:=ih (by omega)
   rw [below_succ]
   by_cases hp:P q=true
   ·rw [if_pos hp,runsL_snoc,runStep_any (by omega) (fun e he=>((runsL_bound 4096 (below P q) (fun x hx=>by have:=below_lt P q x hx;omega)).1 e he).2.1),ih]
    by_cases hy:y=(q:Int)
    ·subst hy
     rw [hp]
     simp;omega
    ·rw [decide_eq_false hy,Bool.or_false]
     refine congrArg (fun b=>b && P y) ?_
     rw [decide_eq_decide]
     omega
   ·rw [if_neg hp,List.append_nil,ih]
    by_cases hy:y=(q:Int)
    ·subst hy
     have:P q=false:=by simpa using hp
     rw [this,Bool.and_false,Bool.and_false]
    ·refine congrArg (fun b=>b && P y) ?_
     rw [decide_eq_decide]
     omega
theorem opL_bound (keep:Bool→Bool→Bool) (a b:List Ext):(∀ e∈opL keep a b,0≤e.1∧0<e.2∧e.1+e.2≤4096)∧(opL keep a b).length≤4096:=by
 have h:=runsL_bound 4096 (below (fun x=>keep (a.any (inExt x)) (b.any (inExt x))) 4096) (fun x hx=>by have:=below_lt _ _ x hx;omega)
 refine⟨h.1,Nat.le_trans h.2 ?_⟩
 unfold below
 rw [List.length_map]
 exact Nat.le_trans (List.length_filter_le _ _) (by rw [List.length_range];exact Nat.le_refl _)
end Go.Proofs.YtgndgkjefgjamaaGreat
namespace Go.Proofs.YtgndgkjefgjamaaGreat
open Go.RowKit

def WithinRet (e0:Ext) (w:World) (e:Ending) (w':World):Prop :=
 ∃ f t q,e = .returned (.tuple #[.int .i64 f,.int .i64 t,.bool q])∧(q=true↔f<t)∧0≤f∧t≤4096∧(q=true→∀ x:Int,(f≤x∧x<t)↔(0≤x∧x<4096∧e0.1≤x∧x<e0.1+e0.2))∧(q=false→∀ x:Int,¬ (0≤x∧x<4096∧e0.1≤x∧x<e0.1+e0.2))∧Below w.heap.size w w'
theorem WithinRet.mk {s n f t:Int} {q:Bool} {w w':World} (hq:q=decide (f<t)) (hf:0≤f) (ht:t≤4096) (h:∀ x:Int,(f≤x∧x<t)↔(0≤x∧x<4096∧s≤x∧x<s+n)) (hb:Below w.heap.size w w') :
  WithinRet (s,n) w (.returned (.tuple #[.int .i64 f,.int .i64 t,.bool q])) w':=by
 subst hq
 refine⟨f,t,_,rfl,by simp,hf,ht,fun _=>h,fun hq x hx => ?_,hb⟩
 have:=(h x).2 hx
 have h2:¬ f<t:=by simpa using hq
 omega
theorem within_any (s n:Int) (w:World) (hs:I64 s) (hn:I64 n):Calls Tryz.prog 190 #[.agg #[.int .i64 s,.int .i64 n]] w (WithinRet (s,n) w):=by
 obtain⟨hs1,hs2⟩:=hs
 obtain⟨hn1,hn2⟩:=hn
 have hb1:Hid (∀ o,Below w.heap.size w (w.alloc o)):=fun o=>(Below.refl _ _).alloc (Nat.le_refl _) o
 by_cases c1:n≤0
 ·go_enter Tryz.func190,Tryz.ntmps190
  go_wp2
  go_ret3
  exact WithinRet.mk (by simp) (by omega) (by omega) (fun x=>by omega) (hb1.out _)
 ·by_cases c2:s<0
  ·by_cases c3:s+n≤4096
   ·go_enter Tryz.func190,Tryz.ntmps190
    go_wp2
    go_ret3
    exact WithinRet.mk rfl (by omega) (by omega) (fun x=>by omega) (hb1.out _)
   ·go_enter Tryz.func190,Tryz.ntmps190
    go_wp2
    go_ret3
    exact WithinRet.mk rfl (by omega) (by omega) (fun x=>by omega) (hb1.out _)
  ·by_cases c3:n<4096 - s
   ·go_enter Tryz.func190,Tryz.ntmps190
    go_wp2
    all_goals go_ret3
    all_goals exact WithinRet.mk rfl (by omega) (by omega) (fun x=>by omega) (hb1.out _)
   ·go_enter Tryz.func190,Tryz.ntmps190
    go_wp2
    all_goals go_ret3
    all_goals exact WithinRet.mk rfl (by omega) (by omega) (fun x=>by omega) (hb1.out _)
end Go.Proofs.YtgndgkjefgjamaaGreat
namespace Go.Proofs.YtgndgkjefgjamaaGreat
open Go.RowKit Go.ChangeShapes Go.WideShapes Go.ChangeAt

def Opens {α:Type} (P:Program) (t:TypeId) (E:Enc α):Prop :=
 P.cellsOf t=E.size∧∀ (H:Type) (enc:TypeId × Value→H) (w:World) (base:Nat) (spare:Nat→Bool) (held:Bool) (fuel:Nat) (cs:List Value) (x:DataW H × List MemPlace),
  DataW.trod enc P w base spare held fuel t cs=some x→∃ y:α,E.rd w (Bl w.heap.size) cs y
section
variable {P:Program} {t e:TypeId} {α β:Type} {E:Enc α} {F:Enc β}
theorem opens_int (ht:P.underlying t=some (.int .i64)) (hc:P.cellsOf t=1):Opens P t encInt:=by
 refine⟨hc,fun H enc w base spare held fuel cs x h => ?_⟩
 obtain⟨n,rfl,_,hw⟩:=DataW.trod_int ht h
 exact⟨n,rfl,by simp [Lit.wf,IntKind.min,IntKind.max,IntKind.signed,IntKind.bits] at hw;unfold I64;omega⟩
theorem opens_u8 (ht:P.underlying t=some (.int .u8)) (hc:P.cellsOf t=1):Opens P t encU8:=by
 refine⟨hc,fun H enc w base spare held fuel cs x h => ?_⟩
 obtain⟨n,rfl,_,hw⟩:=DataW.trod_int ht h
 exact⟨n,rfl,by simp [Lit.wf,IntKind.min,IntKind.max,IntKind.signed,IntKind.bits] at hw;omega⟩
theorem opens_sec (ht:P.underlying t=some (.array 8 e)) (hc:P.cellsOf t=8) (he:P.underlying e=some (.int .u8)) (hce:P.cellsOf e=1):Opens P t encSec:=by
 refine⟨hc,fun H enc w base spare held fuel cs x h => ?_⟩
 obtain⟨xs,m,_,_,hl,hxl,hx⟩:=DataW.trod_array ht h
 rw [hc] at hl
 rw [hce] at hx
 have key:∀ i,i<8→∃ n:Int,cs[i]? = some (.int .u8 n)∧0≤n∧n<256:=by
  intro i hi
  have h1:=hx i hi
  rw [Nat.mul_one,List.getElem?_eq_getElem (by omega)] at h1
  obtain⟨n,hn,_,hw⟩:=DataW.trod_int he h1
  refine⟨n,cell_of_cut hn,by simp [Lit.wf,IntKind.min,IntKind.max,IntKind.signed,IntKind.bits] at hw;omega⟩
 obtain⟨x0,a0,b0⟩:=key 0 (by omega)
 obtain⟨x1,a1,b1⟩:=key 1 (by omega)
 obtain⟨x2,a2,b2⟩:=key 2 (by omega)
 obtain⟨x3,a3,b3⟩:=key 3 (by omega)
 obtain⟨x4,a4,b4⟩:=key 4 (by omega)
 obtain⟨x5,a5,b5⟩:=key 5 (by omega)
 obtain⟨x6,a6,b6⟩:=key 6 (by omega)
 obtain⟨x7,a7,b7⟩:=key 7 (by omega)
 refine⟨[x0,x1,x2,x3,x4,x5,x6,x7], ?_,rfl, ?_⟩
 ·have h8:∀ l:List Value,l.length=8→∃ c0 c1 c2 c3 c4 c5 c6 c7,l=[c0,c1,c2,c3,c4,c5,c6,c7]:=fun l h=>by
   match l,h with
   | [c0,c1,c2,c3,c4,c5,c6,c7],_=>exact⟨_,_,_,_,_,_,_,_,rfl⟩
  obtain⟨c0,c1,c2,c3,c4,c5,c6,c7,rfl⟩:=h8 cs hl
  simp at a0 a1 a2 a3 a4 a5 a6 a7
  simp [secV,a0,a1,a2,a3,a4,a5,a6,a7]
 ·intro x hx
  simp at hx
  rcases hx with rfl | rfl | rfl | rfl | rfl | rfl | rfl | rfl <;> assumption
def OpensF (P:Program) (fs:List Field) (off total:Nat) (E:Enc α):Prop :=
 off+E.size=total∧∀ (H:Type) (enc:TypeId × Value→H) (w:World) (base:Nat) (spare:Nat→Bool) (held:Bool) (cs:List Value),cs.length=total →
  (∀ f∈fs,∃ (fuel:Nat) (x:DataW H × List MemPlace),DataW.trod enc P w base spare held fuel f.type ((cs.drop f.offset).take (P.cellsOf f.type))=some x)→∃ y:α,E.rd w (Bl w.heap.size) (cs.drop off) y
theorem opensF_one {f:Field} {off total:Nat} (ho:f.offset=off) (he:Opens P f.type E) (ht:off+E.size=total):OpensF P [f] off total E:=by
 refine⟨ht,fun H enc w base spare held cs hl hf => ?_⟩
 obtain⟨fuel,x,hx⟩:=hf f (by simp)
 obtain⟨y,hy⟩:=he.2 H enc w base spare held fuel _ x hx
 rw [ho,he.1,List.take_of_length_le (by rw [List.length_drop];omega)] at hy
 exact⟨y,hy⟩
theorem opensF_cons {f:Field} {fs:List Field} {off total:Nat} (ho:f.offset=off) (he:Opens P f.type E) (hfs:OpensF P fs (off+E.size) total F):OpensF P (f :: fs) off total (encPair E F):=by
 refine⟨by have:=hfs.1;simp only [encPair];omega,fun H enc w base spare held cs hl hf => ?_⟩
 obtain⟨fuel,x,hx⟩:=hf f (by simp)
 obtain⟨y,hy⟩:=he.2 H enc w base spare held fuel _ x hx
 obtain⟨z,hz⟩:=hfs.2 H enc w base spare held cs hl (fun g hg=>hf g (by simp [hg]))
 rw [ho,he.1] at hy
 refine⟨(y,z),_,_, ?_,hy,hz⟩
 rw [← List.drop_drop,List.take_append_drop]
theorem opens_struct {fs:Array Field} (ht:P.underlying t=some (.struct fs)) (hf:OpensF P fs.toList 0 (P.cellsOf t) E):Opens P t E:=by
 refine⟨by have:=hf.1;omega,fun H enc w base spare held fuel cs x h => ?_⟩
 obtain⟨xs,n,_,_,hl,hxl,hx⟩:=DataW.trod_struct ht h
 have:=hf.2 H enc w base spare held cs hl (fun f hfm=>by
  obtain⟨i,hi,rfl⟩:=List.mem_iff_getElem.1 hfm
  have h1:=hx i fs[i] (by simp at hi;simp [hi])
  rw [List.getElem?_eq_getElem (by simp at hi;omega)] at h1
  exact⟨n,_,by simpa using h1⟩)
 simpa using this
theorem opens_slice (ht:P.underlying t=some (.slice e)) (hc:P.cellsOf t=1) (he:Opens P e E) (hp:0<E.size):Opens P t (encSl E):=by
 refine⟨hc,fun H enc w base spare held fuel cs x h => ?_⟩
 rcases DataW.trod_slice ht h with ⟨rfl,_⟩ | ⟨a,len,cap,elems,rest,n,rfl,rfl,_,_,hl,hm,hlen,hel,_⟩
 ·exact⟨[],none,0,rfl,by simp,by simp,SlAt.nil_⟩
 ·have key:∀ i,i<len→∃ (y:α) (cs':List Value),(∀ j v,cs'[j]? = some v→w.cell? ((a.add (i * E.size)).add j)=some v)∧E.rd w (Bl w.heap.size) cs' y:=by
   intro i hi
   have h1:=hel i hi
   rw [he.1,List.getElem?_eq_getElem (by omega)] at h1
   obtain⟨cs',hc1,hc2⟩:=Option.bind_eq_some_iff.1 h1
   obtain⟨_,hcl,hat⟩:=World.cells?_some hc1
   obtain⟨y,hy⟩:=he.2 H enc w base spare held n _ _ hc2
   refine⟨y,cs',fun j v hv => ?_,hy⟩
   have hj:j<cs'.length:=(List.getElem?_eq_some_iff.1 hv).1
   exact (hat j (by omega)).trans hv
  have hlist:∃ ys:List α,ys.length=len∧∀ i y,ys[i]? = some y→∃ cs':List Value,(∀ j v,cs'[j]? = some v→w.cell? ((a.add (i * E.size)).add j)=some v)∧E.rd w (Bl w.heap.size) cs' y:=by
   refine⟨List.ofFn (fun i:Fin len=>Classical.choose (key i.1 i.2)),by simp,fun i y hy => ?_⟩
   rw [List.getElem?_ofFn] at hy
   split at hy
   ·rename_i hi
    injection hy with hy
    subst hy
    exact Classical.choose_spec (key i hi)
   ·cases hy
  obtain⟨ys,hyl,hys⟩:=hlist
  refine⟨ys,some a,cap,by rw [hyl],by omega,hm,fun hne => ?_⟩
  have h0:0<ys.length:=List.length_pos_iff.2 hne
  obtain⟨cs0,hc0,hr0⟩:=hys 0 ys[0] (List.getElem?_eq_getElem h0)
  have hl0:0<cs0.length:=by rw [E.len hr0];exact hp
  have hcell:=hc0 0 _ (List.getElem?_eq_getElem hl0)
  rw [Nat.zero_mul] at hcell
  have e0:(a.add 0).add 0=a:=by simp [Addr.add]
  rw [e0] at hcell
  have hsp:=World.cell?_spot hcell
  have hlt:=World.block_lt_of_cell? w a hcell
  obtain⟨b,off,spot⟩:=a
  simp only at hsp
  subst hsp
  refine⟨b,off,rfl,hlt,fun i x hx => ?_⟩
  obtain⟨cs',h1,h2⟩:=hys i x hx
  refine⟨cs',fun j v hv => ?_,h2⟩
  have:=h1 j v hv
  rw [add_plain,add_plain] at this
  exact this
end
section
variable {P:Program} {t e:TypeId} {α:Type} {E:Enc α} {H:Type} {enc:TypeId × Value→H} {W:World} {base b0:Nat} {spare:Nat→Bool} {held:Bool} {r:Reach} {v:Value} {d:DataW H} {p:List MemPlace}
theorem arg_slice (ht:P.underlying t=some (.slice e)) (ho:Opens P t (encSl E)) (hv:Value.okWide P W r b0 t v) (h:DataW.Trod enc P W base spare held t v d p) :
  ∃ A c l,v = .slice A l.length c∧l.length≤c∧c≤maxLen∧SlAt E W (Bl W.heap.size) A l:=by
 obtain⟨A,n,c,rfl⟩:=okWide_slice ht hv
 obtain⟨fuel,hf⟩:=h
 obtain⟨l,A',c',he,h1,h2,h3⟩:=ho.2 _ _ _ _ _ _ _ _ _ hf
 simp [Value.cells] at he
 obtain⟨rfl,rfl,rfl⟩:=he
 exact⟨A,c,l,rfl,h1,h2,h3⟩
theorem arg_int {k:IntKind} (ht:P.underlying t=some (.int k)) (hv:Value.okWide P W r b0 t v) (h:DataW.Trod enc P W base spare held t v d p):∃ n,v = .int k n∧(Lit.int k n).wf=true:=by
 obtain⟨n,rfl,_,_,hw⟩:=open_int ht hv h
 exact⟨n,rfl,hw⟩
theorem trodAll_stays {W':World} {sp:Nat→Bool} (hl:laidOutB P=true) (hb:Below W.heap.size W W') :
  ∀ {ts:List TypeId} {vs:List Value} {ds:List (DataW H)} {ps:List MemPlace},(∀ t∈ts,P.readableRec t=true∧t<P.types.size)→(∀ x∈ps,x.block<W.heap.size∧sp x.block=true) →
    DataW.TrodAll enc P W 0 (fun _=>true) true ts vs ds ps→DataW.TrodAll enc P W' 0 sp true ts vs ds ps
 | [],_,_,_,_,_,h=>by
   obtain⟨rfl,rfl,rfl⟩:=trodAll_nil h
   exact trodAll_mk0
 | t :: _,_,_,_,hr,hx,h=>by
   obtain⟨v,vs,d,ds,p,q,rfl,rfl,rfl,h1,h2⟩:=trodAll_cons h
   refine trodAll_cons_mk (WideElems.Trod_stays hl (hr t (by simp)).1 (hr t (by simp)).2 h1 (fun x hxp=>hb.same (hx x (by simp [hxp])).1) (fun x hxp=>(hx x (by simp [hxp])).2)) ?_
   exact trodAll_stays hl hb (fun t ht=>hr t (by simp [ht])) (fun x hxq=>hx x (by simp [hxq])) h2
end
theorem trodAll_len {H:Type} {enc:TypeId × Value→H} {P:Program} {w:World} {base:Nat} {spare:Nat→Bool} {held:Bool}:∀ {ts:List TypeId} {vs:List Value} {ds:List (DataW H)} {ps:List MemPlace},DataW.TrodAll enc P w base spare held ts vs ds ps→ds.length=ts.length
 | [],_,_,_,h=>by
   obtain⟨rfl,rfl,_⟩:=trodAll_nil h
   rfl
 | _ :: _,_,_,_,h=>by
   obtain⟨v,vs1,d,ds1,a,b,rfl,rfl,rfl,_,h2⟩:=trodAll_cons h
   simp [trodAll_len h2]
def LawRet (w:World) (e:Ending) (w':World):Prop:=e = .returned (.bool true)∧Below w.heap.size w w'
section
variable {H:Type} {enc:TypeId × Value→H} {P:Program}
theorem post_of_below {f:Func} {s:ChangeSpec} {apart fresh handsOn again:Bool} {W W':World} {args:Array Value} {v:Value} {ds gs:List (DataW H)} {before pa pv:List MemPlace}
  (hW:DataW.Whole enc P f.params.toList s.vars apart W args.toList ds gs before)
  (hres:∀ (b:Nat) (sp:Nat→Bool) (hd:Bool),DataW.TrodAll enc P W' b sp hd f.resultTypes.toList (v.resultList f.resultTypes.size) (s.fn H (ds++gs)).results [])
  (hargs:∀ sp:Nat→Bool,(∀ p∈before,sp p.block=true)→DataW.TrodAll enc P W' 0 sp true f.params.toList args.toList (s.fn H (ds++gs)).args pa)
  (hvars:∀ sp:Nat→Bool,(∀ p∈before,sp p.block=true)→DataW.TrodVars enc P W' sp s.vars (s.fn H (ds++gs)).vars pv)
  (hps:before=pa++pv) (hb:Below W.heap.size W W')
  (hok:∀ (j:Nat) (t:TypeId) (r:Value),f.resultTypes[j]? = some t→(v.resultList f.resultTypes.size)[j]? = some r→Value.okWide P W' .any 0 t r) :
  s.post enc P f apart fresh handsOn again W args v W':=by
 have hlt:∀ p∈before,p.block<W.heap.size:=fun p hp=>hW.lt p hp
 have hold:∀ p∈before,(fun b=>decide (b<W.heap.size)) p.block=true:=fun p hp=>by simpa using hlt p hp
 refine⟨ds,gs,before,[],pa,pv,hW,hres _ _ _,hargs _ hold,hvars _ hold,World.keptBut_mono (fun p hp=>⟨hp, ?_⟩) (hb.frame (· ∈ before)),fun _ => ?_⟩
 ·rw [hps,List.mem_append] at hp
  exact Or.inr hp
 ·obtain⟨_,_,_,_,_,hz,hn⟩:=hW
  refine⟨hok,_,_,([]++pa)++pv,⟨[]++pa,pv,trodAll_append (hargs _ (fun _ _=>rfl)) (hres _ _ _),hvars _ (fun _ _=>rfl),rfl, ?_, ?_⟩, ?_⟩
  ·intro b off hp
   have hin:MemPlace.cell b off∈before:=by rw [hps];simpa using hp
   rw [hb.frozen (hlt _ hin)]
   exact hz b off hin
  ·intro ha
   have:=hn ha
   rw [hps] at this
   simpa using this
  ·intro p hp _
   rw [hps]
   simpa using hp
end
theorem law_lifted {C:Checked} {f:FuncId} {fn:Func} {s:ChangeSpec} {conds:List PathCond} {apart fresh handsOn again:Bool} {tb:TypeId} {os:Os} {H:Type} {enc:TypeId × Value→H}
  (own:ownKnob C.prog.godebug=none) (started:os.Started) (noInit:C.prog.inits.idxOf? f=none) (hfn:C.prog.funcs[f]? = some fn) (hl:laidOutB C.prog=true)
  (hv:s.vars=[]) (hspec:∀ ds:List (DataW H),ds.length=fn.params.size→s.fn H ds={ results:=[.lit (.bool true)],args:=ds })
  (hread:∀ t∈fn.params.toList,C.prog.readableRec t=true∧t<C.prog.types.size) (hrt:fn.resultTypes = #[tb]) (htb:C.prog.underlying tb=some .bool)
  (witness:∃ (w:World) (tape:Tape) (i:Input),w.os=os∧(w.forCall tape i).Shaped C.prog∧i.vars=[]∧Input.okWide C.prog (w.forCall tape i) .any w.heap.size f i ∧
   s.pre6 enc C.prog fn conds apart (w.forCall tape i).memory i.args∧({}:Assume).holds C.prog (lone (Frame.enter C.prog f i.args .normal) [] (w.forCall tape i)))
  (hcalls:∀ (W:World) (args:Array Value) (ds:List (DataW H)) (p:List MemPlace) (base:Nat),(∀ (j:Nat) t v,fn.params[j]? = some t→args[j]? = some v→Value.okWide C.prog W .any base t v) →
   DataW.TrodAll enc C.prog W 0 (fun _=>true) true fn.params.toList args.toList ds p→Calls C.prog f args W (LawRet W)) :
  ReturnsInHanded {} C os f .any (s.pre6 enc C.prog fn conds apart) (s.post enc C.prog fn apart fresh handsOn again):=by
 refine returnsInHanded_of_change (C:=C) own started noInit hfn witness ?_
 intro W base args ds gs before hval hW _ _
 have hW':=hW
 obtain⟨p,q,hA,hV,rfl,hfz,hnd⟩:=hW
 rw [hv] at hV
 obtain⟨rfl,rfl⟩:=trodVars_none hV
 have hlen:ds.length=fn.params.size:=by have:=trodAll_len hA;simpa using this
 refine (hcalls W args ds p base hval hA).mono fun e W' ⟨he,hb⟩ => ?_
 subst he
 refine⟨_,rfl,post_of_below (pa:=p) (pv:=[]) hW' (fun _ _ _ => ?_) (fun sp hsp => ?_) (fun _ _ => ?_) rfl hb ?_⟩
 ·rw [List.append_nil,hspec ds hlen,hrt]
  exact trodAll_mk1 (shut_bool htb _)
 ·rw [List.append_nil,hspec ds hlen]
  refine trodAll_stays hl hb hread (fun x hx=>⟨?_,hsp x (by simp [hx])⟩) hA
  exact hW'.lt x (by simp [hx])
 ·rw [List.append_nil,hspec ds hlen,hv]
  exact rfl
 ·exact ok_one hrt rfl (okWide_bool_mk htb _)
end Go.Proofs.YtgndgkjefgjamaaGreat
namespace Go.Proofs.YtgndgkjefgjamaaGreat
open Go.RowKit Go.ChangeMaps

end Go.Proofs.YtgndgkjefgjamaaGreat

namespace Go.Proofs.YtgndgkjefgjamaaGreat
open Go.RowKit Go.ChangeMaps

end Go.Proofs.YtgndgkjefgjamaaGreat

namespace Go.Proofs.YtgndgkjefgjamaaGreat
open Go.RowKit Go.ChangeMaps

end Go.Proofs.YtgndgkjefgjamaaGreat

namespace Go.Proofs.YtgndgkjefgjamaaGreat
open Go.RowKit Go.ChangeMaps

end Go.Proofs.YtgndgkjefgjamaaGreat

namespace Go.Proofs.YtgndgkjefgjamaaGreat
open Go.RowKit Go.ChangeMaps

end Go.Proofs.YtgndgkjefgjamaaGreat

namespace Go.Proofs.YtgndgkjefgjamaaGreat
open Go.RowKit Go.ChangeMaps

end Go.Proofs.YtgndgkjefgjamaaGreat

namespace Go.Proofs.YtgndgkjefgjamaaGreat
open Go.RowKit Go.ChangeMaps

theorem foldX (A:Option Addr) (c n:Nat) (l r:List Wr) (hn:l.length=n) (hr:foldL l=r) (he:errOf placedN l=0) (w:World) (h1:SlAt encWr w (Bl w.heap.size) A l) (hs:n≤9223372036854775807) :
  Calls Tryz.prog 63 #[.slice A n c] w (RetSlN encWr r 0 w):=by
 subst hn hr
 have:=fold_any A c l w h1 hs
 rw [he] at this
 exact this
structure WrOk (v s:Int) (D:Option Addr) (n c:Nat) (w:World) (d:List Sec):Prop where
 rd:encWr.rd w (Bl w.heap.size) [.int .i64 v,.int .i64 s,.slice D n c] (v,s,d)
theorem WrOk.fwd {v s:Int} {D:Option Addr} {n c:Nat} {w w':World} {d:List Sec} (h:WrOk v s D n c w d) (hb:Below w.heap.size w w'):WrOk v s D n c w' d:=⟨Enc.fwd h.rd hb⟩
theorem WrOk.len {v s:Int} {D:Option Addr} {n c:Nat} {w:World} {d:List Sec} (h:WrOk v s D n c w d):d.length=n:=by
 obtain⟨D',c',he,_⟩:=wr_cs h.rd
 simp at he
 exact he.2.1.symm
section
variable {w:World} {T:TypeId} {v1 s1 v2 s2 v3 s3:Int} {D1 D2 D3:Option Addr} {n1 c1 n2 c2 n3 c3:Nat} {d1 d2 d3:List Sec}
end
end Go.Proofs.YtgndgkjefgjamaaGreat

namespace Go.Proofs.YtgndgkjefgjamaaGreat

end Go.Proofs.YtgndgkjefgjamaaGreat

namespace Go.Proofs.YtgndgkjefgjamaaGreat
open Go.RowKit Go.ChangeMaps

end Go.Proofs.YtgndgkjefgjamaaGreat
namespace Go.Proofs.YtgndgkjefgjamaaGreat
open Go.RowKit

def badSz (n:Int):Bool:=decide (n<1) || decide (4096<n)
def sizesN (sz:List Int):Int:=if sz.length<1∨8<sz.length then 6 else if sz.any badSz=true then 2 else 0
theorem fits_ok {sz:List Int} {x:Wr} (hz:sizesN sz=0) (h:fitsN sz x=0):0≤x.1∧x.1<8∧0<x.2.2.length∧0≤x.2.1∧x.2.1+x.2.2.length≤4096:=by
 unfold sizesN at hz
 split at hz
 ·cases hz
 ·split at hz
  ·cases hz
  ·rename_i h1 h2
   unfold fitsN at h
   split at h
   ·cases h
   ·split at h
    ·cases h
    ·split at h
     ·cases h
     ·rename_i k1 k2 k3
      have hlt:x.1.toNat<sz.length:=by omega
      have hm:sz.getD x.1.toNat 0∈sz:=by
       rw [List.getD_eq_getElem?_getD,List.getElem?_eq_getElem hlt];exact List.getElem_mem hlt
      have hb:badSz (sz.getD x.1.toNat 0)=false:=by
       have:=h2
       rw [List.any_eq_true] at this
       cases hq:badSz (sz.getD x.1.toNat 0) with
       | false=>rfl
       | true=>exact absurd ⟨_,hm,hq⟩ this
      simp only [badSz,Bool.or_eq_false_iff,decide_eq_false_iff_not] at hb
      omega
theorem sizes_any (A:Option Addr) (c:Nat) (S:Nat→Prop) (sz:List Int) (w:World) (h1:SlAt encInt w S A sz) (hs:sz.length≤9223372036854775807) :
  Calls Tryz.prog 115 #[.slice A sz.length c] w fun e w'=>e = .returned (.int .i64 (sizesN sz))∧w'=w:=by
 by_cases c1:sz.length<1
 ·have c1':decide ((sz.length:Int)<1)=true:=by simp;omega
  go_enter Tryz.func115,Tryz.ntmps115
  go_wp2
  go_ret
  exact⟨ret_int (if_pos (Or.inl c1)).symm,rfl⟩
 ·by_cases c2:8<sz.length
  ·go_enter Tryz.func115,Tryz.ntmps115
   go_wp2
   go_ret
   exact⟨ret_int (if_pos (Or.inr c2)).symm,rfl⟩
  ·go_enter Tryz.func115,Tryz.ntmps115
   go_wp2
   go_loopw [3] (fun i wr=>wr=w∧∃ k:Nat,k≤sz.length∧i = .int .i64 k∧Hid (∀ x∈sz.take k,badSz x=false)) (fun i _=>sz.length - (intOf i).toNat)
   case atStart=>exact⟨rfl,0,by omega,rfl,by simp [Hid]⟩
   case round =>
    obtain⟨rfl,k,hk,rfl,hp⟩:=hrel
    by_cases hlt:k<sz.length
    ·obtain⟨b,off,rfl,hb,g0,hi1,hi2⟩:=h1.int hlt
     have hnn:(0:Int)≤k:=by omega
     have hki:(k:Int)<sz.length:=by omega
     by_cases d1:sz[k]<1
     ·go_wp2
      go_ret
      refine⟨ret_int ?_,rfl⟩
      rw [sizesN,if_neg (by omega),if_pos (List.any_eq_true.2 ⟨sz[k],List.getElem_mem hlt,by simp [badSz,d1]⟩)]
     ·by_cases d2:4096<sz[k]
      ·go_wp2
       go_ret
       refine⟨ret_int ?_,rfl⟩
       rw [sizesN,if_neg (by omega),if_pos (List.any_eq_true.2 ⟨sz[k],List.getElem_mem hlt,by simp [badSz,d2]⟩)]
      ·go_wp2
       go_roundw
       case rel =>
        refine⟨by trivial,k+1,hlt,by go_num, ?_⟩
        intro x hx
        rw [List.take_succ_eq_append_getElem hlt] at hx
        rcases List.mem_append.1 hx with hx | hx
        ·exact hp.out x hx
        ·rw [List.mem_singleton.1 hx];simp [badSz];omega
       case measure=>simp [intOf];omega
    ·have hkk:k=sz.length:=by omega
     have HK:=Lib.hid hkk;clear hkk
     have hki:¬ ((k:Int)<sz.length):=by omega
     go_wp2
     go_ret
     refine⟨ret_int ?_,rfl⟩
     have h3:=hp.out
     rw [HK.out,List.take_length] at h3
     rw [sizesN,if_neg (by omega),if_neg]
     rw [List.any_eq_true]
     rintro ⟨x,hx,hq⟩
     rw [h3 x hx] at hq
     cases hq
def chkS (l:List Wr) (sz:List Int):Int:=if sizesN sz≠0 then sizesN sz else chkN (fitsN sz) l

end Go.Proofs.YtgndgkjefgjamaaGreat

namespace Go.Proofs.YtgndgkjefgjamaaGreat
open Go.RowKit

end Go.Proofs.YtgndgkjefgjamaaGreat
namespace Go.Proofs.YtgndgkjefgjamaaGreat
open Go.RowKit Go.ChangeMaps

end Go.Proofs.YtgndgkjefgjamaaGreat

namespace Go.Proofs.YtgndgkjefgjamaaGreat
open Go.RowKit Go.ChangeMaps

theorem plOf_len (l:List Wr):(plOf l).length≤32768:=by
 unfold plOf
 rw [List.length_flatMap]
 have h:∀ ns:List Nat,(ns.map fun (v:Nat)=>((secsOf l v).map fun s=>((v:Int),s)).length).sum≤ns.length * 4096:=by
  intro ns
  induction ns with
  | nil=>simp
  | cons n ns ih =>
    have:=secsOf_len l n
    simp only [List.map_cons,List.sum_cons,List.length_map,List.length_cons] at ih ⊢
    omega
 have:=h (List.range 8)
 rw [List.length_range] at this
 omega
theorem foldS_len (l:List Wr):(foldS l).length≤32768:=by
 have h1:=(canonL_len (assoc l)).1
 have h2:(assoc l).length=(plOf l).length:=by rw [← assoc_places,List.length_map]
 have:=plOf_len l
 unfold foldS
 omega
end Go.Proofs.YtgndgkjefgjamaaGreat

namespace Go.Proofs.YtgndgkjefgjamaaGreat
open Go.RowKit

theorem makeOf {t e:TypeId} {size bytes:Nat} (hT:SliceTy Tryz.prog t e size bytes) (n:Nat) (hn:n * bytes≤281474976710656) (h63:n≤1000000000000) (w:World):∃ cur:Array Value,cur.size=n * size∧(Instr.makeSlice t (.int .i64 0) (.int .i64 n)).run Tryz.prog w = .ok (.slice (some ⟨w.heap.size,0,none⟩) 0 n) (w.alloc (.cells cur e)):=by
 obtain⟨i,z,hi,hz,hsz,hby,hzs⟩:=hT.info
 have hbi:((i.bytes:Int)) * (n:Int)≤281474976710656:=by
  have h:((i.bytes * n:Nat):Int)≤281474976710656:=by rw [hby,Nat.mul_comm];omega
  rwa [Int.natCast_mul] at h
 have hr:=run_make (P:=Tryz.prog) w t e i z hT.und hi hz .i64 .i64 0 n (by omega) (by omega) hbi (by omega)
 simp only [Int.toNat_natCast,Int.toNat_zero] at hr
 exact⟨_,by rw [size_madeCells,hsz],hr⟩
theorem tySecss:SliceTy Tryz.prog 22 43 1 24:=sliceTy_mk (z := .slice none 0 0) Tryz.underlying22 (by kernel_rfl) rfl (by decide)
theorem makeSecs (n:Nat) (hn:n≤1000000) (w:World):∃ cur:Array Value,cur.size=n * 8∧(∀ j,j<n * 8→cur[j]? = some (.int .u8 0))∧(Instr.makeSlice 43 (.int .i64 n) (.int .i64 n)).run Tryz.prog w = .ok (.slice (some ⟨w.heap.size,0,none⟩) n n) (w.alloc (.cells cur 95)):=by
 have hinfo:(Tryz.prog.info? 95).map (fun i=>(i.zero,i.size,i.bytes))=some (some (.agg #[.int .u8 0,.int .u8 0,.int .u8 0,.int .u8 0,.int .u8 0,.int .u8 0,.int .u8 0,.int .u8 0]),8,8):=by kernel_rfl
 obtain⟨i,hi,hz,hsz,hby⟩:=info_parts hinfo
 have hbi:((i.bytes:Int)) * (n:Int)≤281474976710656:=by rw [hby];omega
 have hr:=run_make (P:=Tryz.prog) w 43 95 i _ Tryz.underlying43 hi hz .i64 .i64 n n (by omega) (by omega) hbi (by omega)
 simp only [Int.toNat_natCast] at hr
 refine⟨_,by rw [size_madeCells,hsz],fun j hj => ?_,hr⟩
 have hz8:∀ m,m<8→(#[Value.int .u8 0,.int .u8 0,.int .u8 0,.int .u8 0,.int .u8 0,.int .u8 0,.int .u8 0,.int .u8 0]:Array Value)[m]! = .int .u8 0:=by
  intro m hm
  match m,hm with
  | 0,_=>rfl
  | 1,_=>rfl
  | 2,_=>rfl
  | 3,_=>rfl
  | 4,_=>rfl
  | 5,_=>rfl
  | 6,_=>rfl
  | 7,_=>rfl
 simp only [madeCells,Value.cells,hsz]
 rw [Array.getElem?_map,Array.getElem?_range,if_pos (by omega)]
 simp only [Option.map_some,Option.some.injEq]
 exact hz8 _ (Nat.mod_lt _ (by decide))
theorem zsec_rd {w:World} {S:Nat→Prop}:encSec.rd w S (List.replicate 8 (.int .u8 0)) zsec:=⟨rfl,zsec_ok⟩
theorem zsecs_at {w:World} {S:Nat→Prop} {b n:Nat} {cur:Array Value} {T:TypeId} (hb:w.heap[b]? = some (.cells cur T (0,0))) (hS:S b) (hc:∀ j,j<n * 8→cur[j]? = some (.int .u8 0)):SlAt encSec w S (some ⟨b,0,none⟩) (List.replicate n zsec):=by
 refine fun _=>⟨b,0,rfl,hS,fun i x hx => ?_⟩
 have hi:i<n:=by have:=(List.getElem?_eq_some_iff.1 hx).1;simpa using this
 have hx':x=zsec:=by
  have:=(List.getElem?_eq_some_iff.1 hx).2
  simpa using this.symm
 subst hx'
 refine⟨List.replicate 8 (.int .u8 0),fun j v hv => ?_,zsec_rd⟩
 have hj:j<8:=by have:=(List.getElem?_eq_some_iff.1 hv).1;simpa using this
 have hv':v = .int .u8 0:=by
  have:=List.mem_of_getElem? hv
  exact (List.mem_replicate.1 this).2
 subst hv'
 rw [cell_of_row w b _ _ T _ hb]
 have h8:encSec.size=8:=rfl
 rw [h8]
 exact hc _ (by omega)
theorem new1_any (n:Nat) (w:World) (hn:n≤1000000):Calls Tryz.prog 147 #[.int .i64 n] w (RetSl encSec (List.replicate n zsec) w):=by
 obtain⟨cur,hcs,hcz,hmk⟩:=makeSecs n hn w
 have HCZ:=Lib.hid hcz;clear hcz hcs
 go_enter Tryz.func147,Tryz.ntmps147
 go_wp2
 go_ret
 refine⟨some ⟨w.heap.size,0,none⟩,n,by rw [List.length_replicate];rfl,by simp,by unfold maxLen;omega, ?_,ext_alloc (Below.refl _ _)⟩
 exact zsecs_at (heap_alloc_new _ _) ⟨Nat.le_refl _,by simp⟩ HCZ.out
theorem new1X (n:Int) (h0:0≤n) (hn:n≤1000000) (w:World):Calls Tryz.prog 147 #[.int .i64 n] w fun e w'=>∃ A c,e = .returned (.slice A n.toNat c)∧n.toNat≤c∧c≤maxLen∧SlAt encSec w' (Nw w.heap.size w'.heap.size) A (List.replicate n.toNat zsec)∧Below w.heap.size w w':=by
 obtain⟨k,rfl⟩:=Int.eq_ofNat_of_zero_le h0
 refine (new1_any k w (by omega)).mono fun e w' h => ?_
 obtain⟨A,c,he,h1,h2,h3,h4⟩:=h
 rw [List.length_replicate] at he h1
 exact⟨A,c,he,by simpa using h1,h2,by simpa using h3,h4⟩
def zimg (n:Int):List Sec:=List.replicate n.toNat zsec
theorem zimg_len (n:Int):(zimg n).length=n.toNat:=List.length_replicate ..
set_option maxHeartbeats 2000000 in
theorem mappedNew_any (A:Option Addr) (c:Nat) (l:List _) (w:World) (h1:SlAt encInt w (Bl w.heap.size) A l) (hl:l.length≤1000000) (hsz:∀ x∈l,0≤x∧x≤1000000) :
  Calls Tryz.prog 146 #[.slice A l.length c,.func (.func 147) #[] #[]] w (RetSl (encSl encSec) (l.map zimg) w):=by
 have H1:Hid (∀ w',Below w.heap.size w w'→SlAt encInt w' (Bl w.heap.size) A l):=fun w' hb=>h1.below hb
 clear h1
 obtain⟨cur,hcs,hmk⟩:=makeOf tySecss l.length (by omega) (by omega) w
 have HCS:=Lib.hid hcs;clear hcs
 have hO1:=Lib.hid (show OwnW (encSl encSec) (w.alloc (.cells cur 43)) w.heap.size w.heap.size 43 (.slice (some ⟨w.heap.size,0,none⟩) 0 l.length) [] from Own.make0 (cur:=cur) (Nat.le_refl _) (by unfold maxLen;omega) HCS.out (fun h=>h.2 rfl))
 go_enter Tryz.func146,Tryz.ntmps146
 go_wp2
 go_loopw [5,13] (fun v i wr=>∃ (k:Nat) (B:Option Addr) (vc:Nat) (out:List _),k≤l.length∧i = .int .i64 k∧v = .slice B out.length vc∧Below w.heap.size w wr∧Hid (out=(l.take k).map zimg)∧Hid (OwnW (encSl encSec) wr w.heap.size w.heap.size 43 (.slice B out.length vc) out)) (fun _ i _=>l.length - (intOf i).toNat)
 case atStart=>exact⟨0,some ⟨w.heap.size,0,none⟩,l.length,[],by omega,rfl,rfl,ext_alloc (Below.refl _ _),by simp [Hid],hO1.out⟩
 case round =>
  clear hmk
  obtain⟨k,B,vc,out,hk,rfl,rfl,hB,hout,hown⟩:=hrel
  by_cases hlt:k<l.length
  ·have hnn:(0:Int)≤k:=by omega
   have hki:(k:Int)<l.length:=by omega
   have hol:out.length≤k:=by rw [hout.out];simp;omega
   have hszr:=hB.size
   obtain⟨b,off,rfl,hb,g0,hi1,hi2⟩:=(H1.out wr hB).int hlt;obtain⟨hx0,hx1⟩:=hsz _ (List.getElem_mem hlt)
   go_wp2_with fail
   refine (new1X l[k] hx0 hx1 wr).mono ?_
   rintro e w1 ⟨D,dc,rfl,r1,r2,r3,hb1⟩
   have hsz1:=hb1.size
   have hB1:Below w.heap.size w w1:=ext_trans hB hb1
   have HO1:=Lib.hid (hown.out.below hb1)
   have hlt1:∀ g,(Value.slice B out.length vc).ownBlock=some g→g<wr.heap.size:=fun g hg=>(hown.out.lt g hg).2
   have HLT1:=Lib.hid hlt1;clear hlt1
   have HO2:=Lib.hid (Own.alloc HO1.out (fun _ h=>h.1.2) (.cells #[.slice D l[k].toNat dc] 43))
   have HRD:Hid (((encSl encSec)).rd (w1.alloc (.cells #[.slice D l[k].toNat dc] 43)) (fun b=>Nw w.heap.size w1.heap.size b∧(Value.slice B out.length vc).ownBlock≠some b) [.slice D l[k].toNat dc] (zimg l[k])):=⟨D,dc,by rw [zimg_len],by rw [zimg_len];exact r1,r2,SlAt.blk (OwnW.since (v := .slice B out.length vc) (lo:=w.heap.size) r3 hszr (HLT1.out)) (fun g hg=>Below.heap_alloc _ _ _ hg.1.2)⟩
   go_wp2_with (at_builtin;refine Hid.out ?_)
   change wpList _ _ _ _ _ _
   refine wpList_app1 (E:=(encSl encSec)) tySecss rfl _ _ rfl rfl HO2.out (zimg l[k]) [.slice D l[k].toNat dc] rfl HRD.out (heap_alloc_new _ _) (fun _ h=>by simp;have:=h.1.2;omega) (by simp;omega) (by unfold maxLen;omega) (by omega) ?_
   intro A' c' w5 hown5 hg5 hat5
   have hok5:=Lib.hid (OwnW.app (hown5.more (S':=fun b=>Nw w.heap.size (w1.alloc (.cells #[.slice D l[k].toNat dc] 43)).heap.size b∧(Value.slice B out.length vc).ownBlock≠some b) (fun b hb=>⟨hb.1.mono (Nat.le_refl _) (by simp),hb.2⟩) (OwnW_new hown5 hat5 HLT1.out (by simp;omega))) hg5 hat5)
   have hB5:=Lib.hid ((ext_alloc (o := .cells #[.slice D l[k].toNat dc] 43) hB1).grown hg5 (by simp;omega) (fun g h=>(hown.out.lt g h).1))
   clear hown5 hg5 hat5
   go_wp2
   go_roundw
   case rel =>
    refine⟨k+1,A',c',out++[zimg l[k]],hlt,by go_num,by simp,hB5.out, ?_, ?_⟩
    ·rw [List.take_succ_eq_append_getElem hlt,List.map_append, ← hout.out];exact rfl
    ·have:=hok5.out;simpa [Hid] using this
   case measure=>simp [intOf];omega
  ·have hkk:k=l.length:=by omega
   subst hkk
   go_wp2
   go_ret
   have e:=hout.out
   rw [List.take_length] at e
   rw [← e]
   obtain⟨_,p1,p2,p3⟩:=hown.out.parts
   exact⟨B,vc,rfl,p1,p2,p3,hB⟩
end Go.Proofs.YtgndgkjefgjamaaGreat

namespace Go.Proofs.YtgndgkjefgjamaaGreat
open Go.RowKit

def lenI (v:List Sec):Int:=v.length
def lens (im:List (List Sec)):List Int:=im.map lenI
theorem sizes1_any (A:Option Addr) (n c:Nat) (w:World) (hn:n≤9223372036854775807):Calls Tryz.prog 167 #[.slice A n c] w fun e w'=>e = .returned (.int .i64 n)∧Below w.heap.size w w':=by
 go_enter Tryz.func167,Tryz.ntmps167
 go_wp2
 go_ret
 exact⟨rfl,Below.refl _ _⟩
set_option maxHeartbeats 2000000 in
theorem mappedLen_any (A:Option Addr) (c:Nat) (l:List _) (w:World) (h1:SlAt (encSl encSec) w (Bl w.heap.size) A l) (hl:l.length≤1000000) (htt:True) :
  Calls Tryz.prog 166 #[.slice A l.length c,.func (.func 167) #[] #[]] w (RetSl encInt (l.map lenI) w):=by
 have H1:Hid (∀ w',Below w.heap.size w w'→SlAt (encSl encSec) w' (Bl w.heap.size) A l):=fun w' hb=>h1.below hb
 clear h1
 obtain⟨cur,hcs,hmk⟩:=makeOf tyInts l.length (by omega) (by omega) w
 have HCS:=Lib.hid hcs;clear hcs
 have hO1:=Lib.hid (show OwnW encInt (w.alloc (.cells cur 3)) w.heap.size w.heap.size 3 (.slice (some ⟨w.heap.size,0,none⟩) 0 l.length) [] from Own.make0 (cur:=cur) (Nat.le_refl _) (by unfold maxLen;omega) HCS.out (fun h=>h.2 rfl))
 go_enter Tryz.func166,Tryz.ntmps166
 go_wp2
 go_loopw [5,13] (fun v i wr=>∃ (k:Nat) (B:Option Addr) (vc:Nat) (out:List _),k≤l.length∧i = .int .i64 k∧v = .slice B out.length vc∧Below w.heap.size w wr∧Hid (out=(l.take k).map lenI)∧Hid (OwnW encInt wr w.heap.size w.heap.size 3 (.slice B out.length vc) out)) (fun _ i _=>l.length - (intOf i).toNat)
 case atStart=>exact⟨0,some ⟨w.heap.size,0,none⟩,l.length,[],by omega,rfl,rfl,ext_alloc (Below.refl _ _),by simp [Hid],hO1.out⟩
 case round =>
  clear hmk
  obtain⟨k,B,vc,out,hk,rfl,rfl,hB,hout,hown⟩:=hrel
  by_cases hlt:k<l.length
  ·have hnn:(0:Int)≤k:=by omega
   have hki:(k:Int)<l.length:=by omega
   have hol:out.length≤k:=by rw [hout.out];simp;omega
   have hszr:=hB.size
   obtain⟨b,off,D,dc,rfl,hb,g0,hD,hn1,hn2⟩:=(H1.out wr hB).sl hlt;have hn3:=hn2;unfold maxLen at hn3;have hn4:l[k].length≤9223372036854775807:=by omega
   go_wp2_with fail
   refine (sizes1_any D l[k].length dc wr hn4).mono ?_
   rintro e w1 ⟨rfl,hb1⟩
   have hsz1:=hb1.size
   have hB1:Below w.heap.size w w1:=ext_trans hB hb1
   have HO1:=Lib.hid (hown.out.below hb1)
   have hlt1:∀ g,(Value.slice B out.length vc).ownBlock=some g→g<wr.heap.size:=fun g hg=>(hown.out.lt g hg).2
   have HLT1:=Lib.hid hlt1;clear hlt1
   have HO2:=Lib.hid (Own.alloc HO1.out (fun _ h=>h.1.2) (.cells #[.int .i64 (l[k].length:Nat)] 3))
   have HRD:Hid ((encInt).rd (w1.alloc (.cells #[.int .i64 (l[k].length:Nat)] 3)) (fun b=>Nw w.heap.size w1.heap.size b∧(Value.slice B out.length vc).ownBlock≠some b) [.int .i64 (l[k].length:Nat)] (lenI l[k])):=⟨rfl,by unfold lenI I64;omega⟩
   go_wp2_with (at_builtin;refine Hid.out ?_)
   change wpList _ _ _ _ _ _
   refine wpList_app1 (E:=encInt) tyInts rfl _ _ rfl rfl HO2.out (lenI l[k]) [.int .i64 (l[k].length:Nat)] rfl HRD.out (heap_alloc_new _ _) (fun _ h=>by simp;have:=h.1.2;omega) (by simp;omega) (by unfold maxLen;omega) (by omega) ?_
   intro A' c' w5 hown5 hg5 hat5
   have hok5:=Lib.hid (OwnW.app (hown5.more (S':=fun b=>Nw w.heap.size (w1.alloc (.cells #[.int .i64 (l[k].length:Nat)] 3)).heap.size b∧(Value.slice B out.length vc).ownBlock≠some b) (fun b hb=>⟨hb.1.mono (Nat.le_refl _) (by simp),hb.2⟩) (OwnW_new hown5 hat5 HLT1.out (by simp;omega))) hg5 hat5)
   have hB5:=Lib.hid ((ext_alloc (o := .cells #[.int .i64 (l[k].length:Nat)] 3) hB1).grown hg5 (by simp;omega) (fun g h=>(hown.out.lt g h).1))
   clear hown5 hg5 hat5
   go_wp2
   go_roundw
   case rel =>
    refine⟨k+1,A',c',out++[lenI l[k]],hlt,by go_num,by simp,hB5.out, ?_, ?_⟩
    ·rw [List.take_succ_eq_append_getElem hlt,List.map_append, ← hout.out];exact rfl
    ·have:=hok5.out;simpa [Hid] using this
   case measure=>simp [intOf];omega
  ·have hkk:k=l.length:=by omega
   subst hkk
   go_wp2
   go_ret
   have e:=hout.out
   rw [List.take_length] at e
   rw [← e]
   obtain⟨_,p1,p2,p3⟩:=hown.out.parts
   exact⟨B,vc,rfl,p1,p2,p3,hB⟩
theorem imgSizes_any (A:Option Addr) (c:Nat) (im:List (List Sec)) (w:World) (h1:SlAt (encSl encSec) w (Bl w.heap.size) A im) (hl:im.length≤1000000) :
  Calls Tryz.prog 144 #[.slice A im.length c] w (RetSl encInt (lens im) w):=by
 have hc:=Lib.hid (mappedLen_any A c im w h1 hl trivial)
 clear h1
 obtain⟨r,hr⟩:∃ r,Hid (lens im=r):=⟨_,Lib.hid rfl⟩
 have hr2:Hid (im.map lenI=r):=hr
 rw [hr2.out] at hc
 rw [hr.out]
 go_enter Tryz.func144,Tryz.ntmps144
 go_wp2_with fail
 refine hc.out.mono ?_
 rintro e w1 ⟨A1,c1,rfl,r1,r2,r3,hb1⟩
 have HR:=Lib.hid (And.intro r1 (And.intro r2 r3));clear r1 r2 r3
 go_wp2
 go_ret
 exact⟨A1,c1,rfl,HR.out.1,HR.out.2.1,HR.out.2.2,hb1⟩
theorem badSz_any (n:Int) (w:World) (q:Bool) (hq:badSz n=q):Calls Tryz.prog 165 #[.int .i64 n] w fun e w'=>e = .returned (.bool q)∧Below w.heap.size w w':=by
 by_cases c1:n<1
 ·have c1':decide (n<1)=true:=by simp [c1]
  go_enter Tryz.func165,Tryz.ntmps165
  go_wp2
  go_ret
  exact⟨ret_bool (by rw [← hq];simp [badSz,c1]),Below.refl _ _⟩
 ·have c1':decide (n<1)=false:=by simp;omega
  by_cases c2:4096<n
  ·go_enter Tryz.func165,Tryz.ntmps165
   go_wp2
   go_ret
   exact⟨ret_bool (by rw [← hq];simp [badSz,c1,c2]),Below.refl _ _⟩
  ·go_enter Tryz.func165,Tryz.ntmps165
   go_wp2
   go_ret
   exact⟨ret_bool (by rw [← hq];simp [badSz,c1,c2]),Below.refl _ _⟩
set_option maxHeartbeats 1000000 in
theorem indexBad_any (A:Option Addr) (c:Nat) (l:List _) (w:World) (h1:SlAt encInt w (Bl w.heap.size) A l) (hl:l.length≤9223372036854775807) (htt:True) :
  Calls Tryz.prog 178 #[.slice A l.length c,.func (.func 165) #[] #[]] w fun e w'=>(∃ i:Int,e = .returned (.int .i64 i)∧(decide (0≤i)=l.any badSz))∧Below w.heap.size w w':=by
 have H1:Hid (∀ w',Below w.heap.size w w'→SlAt encInt w' (Bl w.heap.size) A l):=fun w' hb=>h1.below hb
 clear h1
 go_enter Tryz.func178,Tryz.ntmps178
 go_wp2
 go_loopw [8] (fun i wr=>∃ k:Nat,k≤l.length∧i = .int .i64 k∧Below w.heap.size w wr∧Hid (∀ y∈l.take k,badSz y=false)) (fun i _=>l.length - (intOf i).toNat)
 case atStart=>exact⟨0,by omega,rfl,Below.refl _ _,by simp [Hid]⟩
 case round =>
  obtain⟨k,hk,rfl,hB,hz⟩:=hrel
  by_cases hlt:k<l.length
  ·have hnn:(0:Int)≤k:=by omega
   have hki:(k:Int)<l.length:=by omega
   have hszr:=hB.size
   obtain⟨b,off,rfl,hb,g0,hi1,hi2⟩:=(H1.out wr hB).int hlt
   obtain⟨q,hq⟩:∃ q,Hid (badSz l[k]=q):=⟨badSz l[k],Lib.hid rfl⟩
   go_wp2_with fail
   refine (badSz_any l[k] wr q hq.out).mono ?_
   rintro e w1 ⟨rfl,hb1⟩;clear g0
   have hB1:Below w.heap.size w w1:=ext_trans hB hb1
   cases q with
   | true =>
     go_wp2
     go_ret
     refine⟨⟨k,rfl, ?_⟩,hB1⟩
     rw [decide_eq_true hnn,eq_comm,List.any_eq_true]
     exact⟨l[k],List.getElem_mem hlt,hq.out⟩
   | false =>
     go_wp2
     go_roundw
     case rel =>
      refine⟨k+1,hlt,by go_num,hB1, ?_⟩
      intro y hy
      rw [List.take_succ_eq_append_getElem hlt] at hy
      rcases List.mem_append.1 hy with hy | hy
      ·exact hz.out y hy
      ·rw [List.mem_singleton.1 hy];exact hq.out
     case measure=>simp [intOf];omega
  ·have hkk:k=l.length:=by omega
   subst hkk
   go_wp2
   go_ret
   refine⟨⟨-1,rfl, ?_⟩,hB⟩
   have:=hz.out
   rw [List.take_length] at this
   rw [eq_comm]
   show l.any badSz=false
   rw [List.any_eq_false]
   intro y hy
   simp [this y hy]
theorem containsBad_any (A:Option Addr) (c:Nat) (l:List _) (w:World) (h1:SlAt encInt w (Bl w.heap.size) A l) (hl:l.length≤9223372036854775807) (htt:True) (q:Bool) (hq:l.any badSz=q) :
  Calls Tryz.prog 164 #[.slice A l.length c,.func (.func 165) #[] #[]] w fun e w'=>e = .returned (.bool q)∧Below w.heap.size w w':=by
 have hc:=Lib.hid (indexBad_any A c l w h1 hl trivial)
 clear h1
 rw [hq] at hc
 clear hq
 go_enter Tryz.func164,Tryz.ntmps164
 go_wp2_with fail
 refine hc.out.mono ?_
 rintro e w1 ⟨⟨i,rfl,hi⟩,hb1⟩
 go_wp2
 go_ret
 exact⟨rfl,hb1⟩
theorem checkSizes_any (A:Option Addr) (c n:Nat) (sz:List Int) (w:World) (hsn:sz.length=n) (h1:SlAt encInt w (Bl w.heap.size) A sz) (hl:n≤9223372036854775807) (r:Int) (hr:sizesN sz=r) :
  Calls Tryz.prog 143 #[.slice A n c] w fun e w'=>e = .returned (.int .i64 r)∧Below w.heap.size w w':=by
 subst hsn
 have HR:=Lib.hid hr;clear hr
 obtain⟨q,hq⟩:∃ q,Hid (sz.any badSz=q):=⟨_,Lib.hid rfl⟩
 have hc:=Lib.hid (containsBad_any A c sz w h1 hl trivial q hq.out)
 clear h1
 by_cases c1:sz.length<1
 ·have c1':decide ((sz.length:Int)<1)=true:=by simp;omega
  go_enter Tryz.func143,Tryz.ntmps143
  go_wp2
  go_ret
  exact⟨ret_int (by rw [← HR.out];exact (if_pos (Or.inl c1)).symm),Below.refl _ _⟩
 ·by_cases c2:8<sz.length
  ·go_enter Tryz.func143,Tryz.ntmps143
   go_wp2
   go_ret
   exact⟨ret_int (by rw [← HR.out];exact (if_pos (Or.inr c2)).symm),Below.refl _ _⟩
  ·go_enter Tryz.func143,Tryz.ntmps143
   go_wp2_with fail
   refine hc.out.mono ?_
   rintro e w1 ⟨rfl,hb1⟩
   cases q with
   | true =>
     go_wp2
     go_ret
     exact⟨ret_int (by rw [← HR.out,sizesN,if_neg (by omega),if_pos hq.out]),hb1⟩
   | false =>
     go_wp2
     go_ret
     exact⟨ret_int (by rw [← HR.out,sizesN,if_neg (by omega),if_neg (by rw [hq.out];simp)]),hb1⟩
def newL (sz:List Int):List (List Sec):=if sizesN sz=0 then sz.map zimg else []
theorem sizes_range {sz:List Int} (h:sizesN sz=0):sz.length≤8∧∀ x∈sz,1≤x∧x≤4096:=by
 unfold sizesN at h
 split at h
 ·cases h
 ·split at h
  ·cases h
  ·rename_i h1 h2
   refine⟨by omega,fun x hx => ?_⟩
   have hb:badSz x=false:=by
    cases hq:badSz x with
    | false=>rfl
    | true=>exact absurd (List.any_eq_true.2 ⟨x,hx,hq⟩) h2
   simp only [badSz,Bool.or_eq_false_iff,decide_eq_false_iff_not] at hb
   omega
theorem imgNew_any (A:Option Addr) (c:Nat) (sz:List Int) (w:World) (h1:SlAt encInt w (Bl w.heap.size) A sz) (hl:sz.length≤9223372036854775807) (en:Int) (hen:sizesN sz=en) (im:List (List Sec)) (him:newL sz=im) :
  Calls Tryz.prog 112 #[.slice A sz.length c] w (RetSlN (encSl encSec) im en w):=by
 have HEN:=Lib.hid hen;clear hen
 have HIM:=Lib.hid him;clear him
 have hc:=Lib.hid (checkSizes_any A c sz.length sz w rfl h1 hl en HEN.out)
 by_cases he:en=0
 ·have he1:(en != 0)=false:=by simp [he]
  have HE:=Lib.hid he;clear he
  obtain⟨z1,z2⟩:=sizes_range (HEN.out.trans HE.out)
  have HZ2:=Lib.hid z2;clear z2
  have HI2:Hid (sz.map zimg=im):=by rw [Hid, ← HIM.out,newL,if_pos (HEN.out.trans HE.out)]
  have H1:=Lib.hid h1;clear h1
  go_enter Tryz.func112,Tryz.ntmps112
  go_wp2_with fail
  refine hc.out.mono ?_
  rintro e w1 ⟨rfl,hb1⟩
  have hm:=Lib.hid (mappedNew_any A c sz w1 (H1.out.fwd hb1) (by omega) (fun x hx=>by have:=HZ2.out x hx;omega))
  rw [HI2.out] at hm
  go_wp2_with fail
  refine hm.out.mono ?_
  rintro e w2 ⟨A2,c2,rfl,r1,r2,r3,hb2⟩
  have HR:=Lib.hid (And.intro r1 (And.intro r2 r3));clear r1 r2 r3
  have hs1:=hb1.size
  go_wp2
  go_ret2
  rw [HE.out]
  exact⟨A2,c2,rfl,HR.out.1,HR.out.2.1,HR.out.2.2.more (fun g hg=>hg.mono hs1 (Nat.le_refl _)),ext_trans hb1 hb2⟩
 ·have he1:(en != 0)=true:=by simp [he]
  have HE:=Lib.hid he;clear he
  clear h1
  go_enter Tryz.func112,Tryz.ntmps112
  go_wp2_with fail
  refine hc.out.mono ?_
  rintro e w1 ⟨rfl,hb1⟩
  go_wp2
  go_ret2
  rw [← HIM.out,newL,if_neg (by rw [HEN.out];exact HE.out)]
  exact⟨none,0,rfl,by simp,by simp,SlAt.nil_,hb1⟩
theorem imgCheck_any (A:Option Addr) (c n:Nat) (im:List (List Sec)) (w:World) (hn:im.length=n) (h1:SlAt (encSl encSec) w (Bl w.heap.size) A im) (hl:n≤1000000) (r:Int) (hr:sizesN (lens im)=r) :
  Calls Tryz.prog 107 #[.slice A n c] w fun e w'=>e = .returned (.int .i64 r)∧Below w.heap.size w w':=by
 subst hn
 have hc:=Lib.hid (imgSizes_any A c im w h1 hl)
 have HR:=Lib.hid hr;clear hr h1
 obtain⟨sz,hsz⟩:∃ sz,Hid (lens im=sz):=⟨_,Lib.hid rfl⟩
 have hlz:sz.length=im.length:=by rw [← hsz.out,lens,List.length_map]
 have HLZ:=Lib.hid hlz
 have hlz2:sz.length≤1000000:=by omega
 rw [hsz.out] at hc HR
 clear hlz
 go_enter Tryz.func107,Tryz.ntmps107
 go_wp2_with fail
 refine hc.out.mono ?_
 rintro e w1 ⟨A1,c1,rfl,r1,r2,r3,hb1⟩
 have HR3:=Lib.hid (r3.more (fun _ h=>h.2));clear r1 r2 r3
 go_wp2_with fail
 refine (checkSizes_any A1 c1 _ sz w1 rfl HR3.out (by omega) r HR.out).mono ?_
 rintro e w2 ⟨rfl,hb2⟩
 go_wp2
 go_ret
 exact⟨rfl,ext_trans hb1 hb2⟩
end Go.Proofs.YtgndgkjefgjamaaGreat

namespace Go.Proofs.YtgndgkjefgjamaaGreat
open Go.RowKit

theorem lens_len (im:List (List Sec)):(lens im).length=im.length:=List.length_map _
theorem lens_at {im:List (List Sec)} {k:Nat} (hk:k<im.length):(lens im)[k]'(by rw [lens_len];exact hk)=(im[k].length:Int):=by simp [lens,lenI]
set_option maxHeartbeats 2000000 in
theorem imgFits1_any (A:Option Addr) (c:Nat) (im:List (List Sec)) (v s:Int) (D:Option Addr) (dc:Nat) (data:List Sec) (w:World) (h1:SlAt (encSl encSec) w (Bl w.heap.size) A im) (hl:im.length≤1000000) (hn:data.length≤9223372036854775807) (hv:I64 v) (hs2:I64 s) :
  Calls Tryz.prog 117 #[.slice A im.length c,.agg #[.int .i64 v,.int .i64 s,.slice D data.length dc]] w fun e w'=>e = .returned (.int .i64 (fitsN (lens im) (v,s,data)))∧Below w.heap.size w w':=by
 obtain⟨hv1,hv2⟩:=hv
 obtain⟨hs1,hs2⟩:=hs2
 by_cases c1:v<0∨im.length≤v
 ·have hr:Hid (fitsN (lens im) (v,s,data)=7):=fitsN_7 (by rw [lens_len];exact c1)
  rw [hr.out]
  go_enter Tryz.func117,Tryz.ntmps117
  rcases c1 with c1 | c1
  ·have c1':decide (v<0)=true:=by simp [c1]
   go_wp2
   go_ret
   exact⟨rfl,ext_alloc (Below.refl _ _)⟩
  ·have c0:decide (v<0)=false:=by simp;omega
   go_wp2
   go_ret
   exact⟨rfl,ext_alloc (Below.refl _ _)⟩
 ·have c2:0≤v:=by omega
  have c3:v<im.length:=by omega
  obtain⟨k,rfl⟩:=Int.eq_ofNat_of_zero_le c2
  have hk:k<im.length:=by omega
  have hkz:k<(lens im).length:=by rw [lens_len];exact hk
  have hat:=lens_at hk
  have HAT:=Lib.hid hat;clear hat
  obtain⟨b,off,E,ec,rfl,hb,hcell,hsl,hm1,hm2⟩:=h1.sl hk
  have hlt:b<w.heap.size:=hb
  unfold maxLen at hm2
  have d0:decide ((k:Int)<0)=false:=by simp
  have d0':decide ((im.length:Int)≤(k:Int))=false:=by simp;omega
  clear c1
  by_cases c4:data.length=0
  ·have hr:Hid (fitsN (lens im) ((k:Int),s,data)=1):=fitsN_1 hkz c4
   rw [hr.out]
   have c4':((data.length:Int)==0)=true:=by simp [c4]
   have C4:=Lib.hid c4;clear c4
   go_enter Tryz.func117,Tryz.ntmps117
   go_wp2
   go_ret
   exact⟨rfl,ext_alloc (Below.refl _ _)⟩
  ·have c4':((data.length:Int)==0)=false:=by rw [beq_eq_false_iff_ne];omega
   have c5:0<data.length:=by omega
   have C4:=Lib.hid c4;clear c4
   by_cases d1:s<0
   ·have hr:Hid (fitsN (lens im) ((k:Int),s,data)=2):=fitsN_2 hkz C4.out (Or.inl d1)
    rw [hr.out]
    have d1':decide (s<0)=true:=by simp [d1]
    go_enter Tryz.func117,Tryz.ntmps117
    go_wp2
    go_quiet (fail)
    go_wp2
    go_ret
    exact⟨rfl,bDrew (ext_alloc (Below.refl _ _)) _⟩
   ·have d1':decide (s<0)=false:=by simp;omega
    by_cases d2:(im[k].length:Int) - data.length<s
    ·have hr:Hid (fitsN (lens im) ((k:Int),s,data)=2):=fitsN_2 hkz C4.out (by rw [HAT.out];omega)
     rw [hr.out]
     have d2':decide ((im[k].length:Int) - (data.length:Int)<s)=true:=by simp [d2]
     go_enter Tryz.func117,Tryz.ntmps117
     go_wp2
     go_quiet (fail)
     go_wp2
     go_ret
     exact⟨rfl,bDrew (ext_alloc (Below.refl _ _)) _⟩
    ·have hr:Hid (fitsN (lens im) ((k:Int),s,data)=0):=fitsN_0 hkz C4.out (by rw [HAT.out];omega)
     rw [hr.out]
     have d2':decide ((im[k].length:Int) - (data.length:Int)<s)=false:=by simp;omega
     go_enter Tryz.func117,Tryz.ntmps117
     go_wp2
     go_quiet (fail)
     go_wp2
     go_ret
     exact⟨rfl,bDrew (ext_alloc (Below.refl _ _)) _⟩
theorem imgFits_any (A:Option Addr) (c n:Nat) (im:List (List Sec)) (v s:Int) (D:Option Addr) (dc m:Nat) (data:List Sec) (w:World) (hn:im.length=n) (hm:data.length=m) (h1:SlAt (encSl encSec) w (Bl w.heap.size) A im) (hl:n≤1000000) (hz:sizesN (lens im)=0) (hd:m≤9223372036854775807) (hv:I64 v) (hs2:I64 s) (pn:Int) (hp:fitsN (lens im) (v,s,data)=pn) :
  Calls Tryz.prog 62 #[.slice A n c,.agg #[.int .i64 v,.int .i64 s,.slice D m dc]] w fun e w'=>e = .returned (.int .i64 pn)∧Below w.heap.size w w':=by
 subst hn hm
 have H1:=Lib.hid h1;clear h1
 have hc:=Lib.hid (imgCheck_any A c im.length im (w.alloc (.cells #[.int .i64 v,.int .i64 s,.slice D data.length dc] 45)) rfl (H1.out.fwd (ext_alloc (Below.refl _ _))) hl 0 hz)
 have HP:=Lib.hid hp;have HV:=Lib.hid hv;have HS:=Lib.hid hs2
 clear hp hz hv hs2
 go_enter Tryz.func62,Tryz.ntmps62
 go_wp2_with fail
 refine hc.out.mono ?_
 rintro e w1 ⟨rfl,hb1⟩
 have hB1:Below w.heap.size w w1:=(by repeat (first | exact Below.refl _ _ | assumption | refine ext_alloc ?_ | refine ext_drew ?_ | refine ext_trans ?_ (by assumption)))
 have hbox:=boxAft hb1
 obtain⟨t0,t1,t2,tf⟩:=blk3 hbox
 have hf:=imgFits1_any A c im v s D dc data w1 (H1.out.fwd hB1) hl hd HV.out HS.out
 rw [HP.out] at hf
 have HF:=Lib.hid hf;clear hf hbox
 go_wp2_with fail
 refine HF.out.mono ?_
 rintro e w2 ⟨rfl,hb2⟩
 have hB2:Below w.heap.size w w2:=(by repeat (first | exact Below.refl _ _ | assumption | refine ext_alloc ?_ | refine ext_drew ?_ | refine ext_trans ?_ (by assumption)))
 clear t0 t1 t2 tf
 go_wp2
 go_ret
 exact⟨rfl,hB2⟩
theorem one_box {w:World} {b:Nat} {T:TypeId} {c0:Value} (h:w.heap[b]? = some (.cells #[c0] T (0,0))):w.cell? ⟨b,0,none⟩=some c0∧∀ j,w.frozen? ⟨b,j,none⟩=false :=
 ⟨cell_of_row w b 0 _ T _ h,fun j=>by simp [World.frozen?,h]⟩
theorem checkI1 (v s:Int) (m:Nat) (D:Option Addr) (dc:Nat) (w:World) (hd:m≤9223372036854775807) (data:List Sec) (hm:data.length=m) (A:Option Addr) (c bx:Nat) (im:List (List Sec)) (hbx:w.heap[bx]? = some (.cells #[.slice A im.length c] 23 (0,0))) (h1:SlAt (encSl encSec) w (Bl w.heap.size) A im) (hz:sizesN (lens im)=0) (hv:I64 v) (hs2:I64 s) (pn:Int) (hp:fitsN (lens im) (v,s,data)=pn) :
  Calls Tryz.prog 114 #[.agg #[.int .i64 v,.int .i64 s,.slice D m dc],.pointer (some ⟨bx,0,none⟩)] w fun e w'=>e = .returned (.int .i64 pn)∧Below w.heap.size w w':=by
 have hl:=(sizes_range hz).1
 rw [lens_len] at hl
 have hbl:=(Array.getElem?_eq_some_iff.1 hbx).1
 have hc:=Lib.hid (imgFits_any A c im.length im v s D dc m data (w.alloc (.cells #[.int .i64 v,.int .i64 s,.slice D m dc] 45)) rfl hm (h1.fwd (ext_alloc (Below.refl _ _))) (by omega) hz hd hv hs2 pn hp)
 obtain⟨t0,tf⟩:=one_box hbx
 clear hp hz hv hs2 h1 hbx hm
 go_enter Tryz.func114,Tryz.ntmps114
 go_wp2_with fail
 refine hc.out.mono ?_
 rintro e w1 ⟨rfl,hb1⟩
 have hB1:Below w.heap.size w w1:=(by repeat (first | exact Below.refl _ _ | assumption | refine ext_alloc ?_ | refine ext_drew ?_ | refine ext_trans ?_ (by assumption)))
 clear t0 tf
 go_wp2
 go_ret
 exact⟨rfl,hB1⟩
set_option maxHeartbeats 4000000 in
theorem checkI_any (A:Option Addr) (c:Nat) (l:List Wr) (w:World) (h1:SlAt encWr w (Bl w.heap.size) A l) (hs:l.length≤9223372036854775807) (IA:Option Addr) (ic bx:Nat) (im:List (List Sec)) (hbx:w.heap[bx]? = some (.cells #[.slice IA im.length ic] 23 (0,0))) (h2:SlAt (encSl encSec) w (Bl w.heap.size) IA im) (hz0:sizesN (lens im)=0) (f:Wr→Int) (hf:fitsN (lens im)=f) :
  Calls Tryz.prog 113 #[.slice A l.length c,.func (.func 114) #[] #[.pointer (some ⟨bx,0,none⟩)]] w fun e w'=>e = .returned (.int .i64 (chkN f l))∧Below w.heap.size w w':=by
 have H2:Hid (∀ w',Below w.heap.size w w'→SlAt encWr w' (Bl w.heap.size) A l):=fun w' hb=>h1.below hb
 have HI:Hid (∀ w',Below w.heap.size w w'→SlAt (encSl encSec) w' (Bl w'.heap.size) IA im):=fun w' hb=>h2.fwd hb
 have hbl:=(Array.getElem?_eq_some_iff.1 hbx).1
 have HBX:Hid (∀ w',Below w.heap.size w w'→w'.heap[bx]? = some (.cells #[.slice IA im.length ic] 23 (0,0))):=fun w' hb=>(hb.block _ hbl).trans hbx
 have HOK:Hid (∀ x,f x=0→0≤x.1∧x.1<8∧0<x.2.2.length∧0≤x.2.1∧x.2.1+x.2.2.length≤4096):=fun x h=>fits_ok hz0 (by rw [hf];exact h)
 have HF:=Lib.hid hf;have HZ0:=Lib.hid hz0
 clear h1 h2 hbx hf hz0
 go_enter Tryz.func113,Tryz.ntmps113
 go_wp2
 go_loopw [11] (fun i wr=>∃ k:Nat,k≤l.length∧i = .int .i64 k∧Below w.heap.size w wr∧Hid (∀ x∈(withPrev l).take k,stepErr f x=0)) (fun i _=>l.length - (intOf i).toNat)
 case atStart=>exact⟨0,by omega,rfl,Below.refl _ _,by simp [Hid]⟩
 case round =>
  obtain⟨k,hk,rfl,hB,hz⟩:=hrel
  by_cases hlt:k<l.length
  ·obtain⟨b,off,D,dc,rfl,hb,g0,g1,g2,hD,hn1,hn2,hi1,hi2⟩:=(H2.out wr hB).wr hlt
   have hbl:b<w.heap.size:=hb
   have hnn:(0:Int)≤k:=by omega
   have hki:(k:Int)<l.length:=by omega
   unfold maxLen at hn2
   have hn3:l[k].2.2.length≤9223372036854775807:=by omega
   have hsz:=hB.size
   obtain⟨pn,hpn⟩:∃ pn,Hid (f l[k]=pn):=⟨f l[k],Lib.hid rfl⟩
   obtain⟨x,hx⟩:∃ x,Hid (x=l[k]):=⟨_,Lib.hid rfl⟩
   rw [← hx.out] at g0 g1 g2 hn1 hi1 hi2 hn3 hpn
   obtain⟨v,s,data⟩:=x
   simp only at g0 g1 g2 hn1 hi1 hi2 hn3 hpn
   have hcall:=fun W (hW:Below w.heap.size w W)=>checkI1 v s data.length D dc W hn3 data rfl IA ic bx im (HBX.out W hW) (HI.out W hW) HZ0.out hi1 hi2 pn (by rw [HF.out];exact hpn.out)
   have HCALL:=Lib.hid hcall;clear hcall
   by_cases hp0:pn=0
   ·have hp1:(pn != 0)=false:=by simp [hp0]
    have HP:=Lib.hid hp0;clear hp0
    cases k with
    | zero =>
      have hpr:Hid ((withPrev l)[0]'(by rw [withPrev_len];exact hlt)=(none,(v,s,data))):=by rw [withPrev_zero hlt, ← hx.out];exact rfl
      simp only [Nat.zero_mul,Nat.add_zero] at g0 g1 g2
      go_wp2_with fail
      refine (HCALL.out _ (hB.alloc hsz _)).mono ?_
      rintro e w1 ⟨rfl,hb1⟩
      have HB1:=Lib.hid ((hB.alloc hsz _).trans (hb1.mono (by simp;omega)))
      clear g0 g1 g2
      go_wp2
      go_roundw
      case rel=>exact⟨1,hlt,by go_num,HB1.out,takeSnoc hlt _ hpr.out hz.out (by simp [stepErr,hpn.out,HP.out])⟩
      case measure=>simp [intOf];omega
    | succ k =>
      have hlt1:k<l.length:=by omega
      have hpr:Hid ((withPrev l)[k+1]'(by rw [withPrev_len];exact hlt)=(some l[k],(v,s,data))):=by rw [withPrev_succ hlt, ← hx.out];exact rfl
      have hpok:=HOK.out _ (takePrev hlt1 hz.out)
      obtain⟨b',off',D',dc',he,hb',f0,f1,f2,hD',hm1,hm2,hj1,hj2⟩:=(H2.out wr hB).wr hlt1
      injection he with he
      injection he with he1 he2
      subst he1 he2
      obtain⟨y,hy⟩:∃ y,Hid (y=l[k]):=⟨_,Lib.hid rfl⟩
      rw [← hy.out] at f0 f1 f2 hm1 hj1 hj2 hpok hpr
      obtain⟨v',s',data'⟩:=y
      simp only at f0 f1 f2 hm1 hj1 hj2 hpok
      obtain⟨o1,o2,o3,o4,o5⟩:=hpok
      have e5:((k+1:Nat):Int)=(k:Int)+1:=by omega
      rw [e5] at hki ⊢
      have hk1:(((k:Int)+1)==0)=false:=by rw [beq_eq_false_iff_ne];omega
      clear hD hD' hn1 hm1 hm2 hn2
      by_cases d1:v<v'
      ·have hst:Hid (stepErr f (some (v',s',data'),(v,s,data))=3):=by
        unfold stepErr
        rw [if_neg (by rw [hpn.out,HP.out];simp)]
        exact if_pos (Or.inl d1)
       go_wp2_with fail
       refine (HCALL.out _ (hB.alloc hsz _)).mono ?_
       rintro e w1 ⟨rfl,hb1⟩
       have hB1:Below w.heap.size w w1:=(hB.alloc hsz _).trans (hb1.mono (by simp;omega))
       have r0:=cellAft hb1 f0
       have r1:=cellAft hb1 f1
       have r2:=cellAft hb1 f2
       obtain⟨t0,t1,t2,tf⟩:=blk3 (boxAft hb1)
       have hsz1:=hb1.size
       simp only [World.size_alloc] at hsz1
       have hwl:wr.heap.size<w1.heap.size:=by omega
       have hbw:b<w1.heap.size:=by omega
       have HB1:=Lib.hid hB1;clear hB1 hb1 f0 f1 f2 g0 g1 g2
       go_wp2
       go_ret
       refine⟨ret_int ?_,HB1.out.alloc (by omega) _⟩
       have e:=chk_at hlt _ hpr.out hz.out (by rw [hst.out];decide)
       rw [e,hst.out]
      ·by_cases d2:v=v'
       ·have d2':(v==v')=true:=by simp [d2]
        have HD2:=Lib.hid d2;clear d2
        by_cases d3:s≤s'+data'.length
        ·have hst:Hid (stepErr f (some (v',s',data'),(v,s,data))=3):=by
          unfold stepErr
          rw [if_neg (by rw [hpn.out,HP.out];simp)]
          exact if_pos (Or.inr ⟨HD2.out,d3⟩)
         go_wp2_with fail
         refine (HCALL.out _ (hB.alloc hsz _)).mono ?_
         rintro e w1 ⟨rfl,hb1⟩
         have hB1:Below w.heap.size w w1:=(hB.alloc hsz _).trans (hb1.mono (by simp;omega))
         have r0:=cellAft hb1 f0
         have r1:=cellAft hb1 f1
         have r2:=cellAft hb1 f2
         obtain⟨t0,t1,t2,tf⟩:=blk3 (boxAft hb1)
         have hsz1:=hb1.size
         simp only [World.size_alloc] at hsz1
         have hwl:wr.heap.size<w1.heap.size:=by omega
         have hbw:b<w1.heap.size:=by omega
         have HB1:=Lib.hid hB1;clear hB1 hb1 f0 f1 f2 g0 g1 g2
         go_wp2
         go_ret
         refine⟨ret_int ?_,HB1.out.alloc (by omega) _⟩
         have e:=chk_at hlt _ hpr.out hz.out (by rw [hst.out];decide)
         rw [e,hst.out]
        ·have hst:Hid (stepErr f (some (v',s',data'),(v,s,data))=0):=by
          unfold stepErr
          rw [if_neg (by rw [hpn.out,HP.out];simp)]
          exact if_neg (fun h=>by have:=HD2.out;simp only at h;omega)
         go_wp2_with fail
         refine (HCALL.out _ (hB.alloc hsz _)).mono ?_
         rintro e w1 ⟨rfl,hb1⟩
         have hB1:Below w.heap.size w w1:=(hB.alloc hsz _).trans (hb1.mono (by simp;omega))
         have r0:=cellAft hb1 f0
         have r1:=cellAft hb1 f1
         have r2:=cellAft hb1 f2
         obtain⟨t0,t1,t2,tf⟩:=blk3 (boxAft hb1)
         have hsz1:=hb1.size
         simp only [World.size_alloc] at hsz1
         have hwl:wr.heap.size<w1.heap.size:=by omega
         have hbw:b<w1.heap.size:=by omega
         have HB1:=Lib.hid hB1;clear hB1 hb1 f0 f1 f2 g0 g1 g2
         go_wp2
         go_roundw
         case rel=>exact⟨k+1+1,hlt,by go_num,HB1.out.alloc (by omega) _,takeSnoc hlt _ hpr.out hz.out hst.out⟩
         case measure=>simp [intOf];omega
       ·have d2':(v==v')=false:=by simp [d2]
        have HD2:=Lib.hid d2;clear d2
        have hst:Hid (stepErr f (some (v',s',data'),(v,s,data))=0):=by
         unfold stepErr
         rw [if_neg (by rw [hpn.out,HP.out];simp)]
         exact if_neg (fun h=>by have:=HD2.out;simp only at h;omega)
        go_wp2_with fail
        refine (HCALL.out _ (hB.alloc hsz _)).mono ?_
        rintro e w1 ⟨rfl,hb1⟩
        have hB1:Below w.heap.size w w1:=(hB.alloc hsz _).trans (hb1.mono (by simp;omega))
        have r0:=cellAft hb1 f0
        have r1:=cellAft hb1 f1
        have r2:=cellAft hb1 f2
        obtain⟨t0,t1,t2,tf⟩:=blk3 (boxAft hb1)
        have hsz1:=hb1.size
        simp only [World.size_alloc] at hsz1
        have hwl:wr.heap.size<w1.heap.size:=by omega
        have hbw:b<w1.heap.size:=by omega
        have HB1:=Lib.hid hB1;clear hB1 hb1 f0 f1 f2 g0 g1 g2
        go_wp2
        go_roundw
        case rel=>exact⟨k+1+1,hlt,by go_num,HB1.out.alloc (by omega) _,takeSnoc hlt _ hpr.out hz.out hst.out⟩
        case measure=>simp [intOf];omega
   ·have hp1:(pn != 0)=true:=by simp [hp0]
    have HP:=Lib.hid hp0;clear hp0
    have hst:Hid (∀ o:Option Wr,stepErr f (o,(v,s,data))=pn):=fun o=>by
     unfold stepErr
     rw [if_pos (by rw [hpn.out];exact HP.out)]
     exact hpn.out
    go_wp2_with fail
    refine (HCALL.out _ (hB.alloc hsz _)).mono ?_
    rintro e w1 ⟨rfl,hb1⟩
    have HB1:=Lib.hid ((hB.alloc hsz _).trans (hb1.mono (by simp;omega)))
    clear g0 g1 g2
    go_wp2
    go_ret
    refine⟨ret_int ?_,HB1.out⟩
    cases k with
    | zero =>
      have e:=chk_at hlt _ ((withPrev_zero hlt).trans (by rw [← hx.out])) hz.out (by rw [hst.out];exact HP.out)
      rw [e,hst.out]
    | succ k =>
      have e:=chk_at hlt _ ((withPrev_succ hlt).trans (by rw [← hx.out])) hz.out (by rw [hst.out];exact HP.out)
      rw [e,hst.out]
  ·have hkk:k=l.length:=by omega
   subst hkk
   go_wp2
   go_ret
   exact⟨ret_int (chk_zero hz.out).symm,hB⟩
end Go.Proofs.YtgndgkjefgjamaaGreat

namespace Go.Proofs.YtgndgkjefgjamaaGreat
open Go.RowKit

set_option maxHeartbeats 2000000 in
theorem coCheck_any (A Z:Option Addr) (c zc:Nat) (l:List Wr) (sz:List Int) (w:World) (h1:SlAt encWr w (Bl w.heap.size) A l) (hs:l.length≤9223372036854775807) (h2:SlAt encInt w (Bl w.heap.size) Z sz) (hzl:sz.length≤9223372036854775807) (r:Int) (hr:chkS l sz=r) :
  Calls Tryz.prog 57 #[.slice A l.length c,.slice Z sz.length zc] w fun e w'=>e = .returned (.int .i64 r)∧Below w.heap.size w w':=by
 have HR:=Lib.hid hr;clear hr
 have H1:=Lib.hid h1;clear h1
 obtain⟨en,hen⟩:∃ en,Hid (sizesN sz=en):=⟨_,Lib.hid rfl⟩
 obtain⟨im,him⟩:∃ im,Hid (newL sz=im):=⟨_,Lib.hid rfl⟩
 have hc:=Lib.hid (imgNew_any Z zc sz w h2 hzl en hen.out im him.out)
 clear h2
 go_enter Tryz.func57,Tryz.ntmps57
 go_wp2_with fail
 refine hc.out.mono ?_
 rintro e w1 ⟨A1,c1,rfl,r1,r2,r3,hb1⟩
 have HS3:=Lib.hid (r3.more (fun _ h=>h.2));clear r1 r2 r3
 by_cases he:en=0
 ·have he1:(en != 0)=false:=by simp [he]
  have HE:=Lib.hid he;clear he
  have hlens:lens im=sz:=by
   rw [← him.out,newL,if_pos (hen.out.trans HE.out),lens,List.map_map]
   have hp:=(sizes_range (hen.out.trans HE.out)).2
   have:∀ x∈sz,(lenI ∘ zimg) x=x:=fun x hx=>by
    have:=hp x hx
    simp only [Function.comp,lenI,zimg_len];omega
   calc sz.map (lenI ∘ zimg)=sz.map id:=List.map_congr_left this
    _=sz:=List.map_id _
  have HL:=Lib.hid hlens;clear hlens
  have hB2:Below w.heap.size w (w1.alloc (.cells #[.slice A1 im.length c1] 23)):=(by repeat (first | exact Below.refl _ _ | assumption | refine ext_alloc ?_ | refine ext_drew ?_ | refine ext_trans ?_ (by assumption)))
  have hk:=Lib.hid (checkI_any A c l (w1.alloc (.cells #[.slice A1 im.length c1] 23)) (H1.out.fwd hB2) hs A1 c1 w1.heap.size im (heap_alloc_new _ _) (HS3.out.fwd (ext_alloc (Below.refl _ _))) (by rw [HL.out];exact hen.out.trans HE.out) _ rfl)
  obtain⟨k,hkk⟩:∃ k,Hid (chkN (fitsN (lens im)) l=k):=⟨_,Lib.hid rfl⟩
  rw [hkk.out] at hk
  go_wp2_with fail
  refine hk.out.mono ?_
  rintro e w2 ⟨rfl,hb2⟩
  have hB3:Below w.heap.size w w2:=(by repeat (first | exact Below.refl _ _ | assumption | refine ext_alloc ?_ | refine ext_drew ?_ | refine ext_trans ?_ (by assumption)))
  go_wp2
  go_ret
  refine⟨ret_int ?_,hB3⟩
  rw [← HR.out,chkS,if_neg (by rw [hen.out,HE.out];simp), ← hkk.out,HL.out]
 ·have he1:(en != 0)=true:=by simp [he]
  have HE:=Lib.hid he;clear he
  have hB2:Below w.heap.size w (w1.alloc (.cells #[.slice A1 im.length c1] 23)):=(by repeat (first | exact Below.refl _ _ | assumption | refine ext_alloc ?_ | refine ext_drew ?_ | refine ext_trans ?_ (by assumption)))
  go_wp2
  go_ret
  refine⟨ret_int ?_,hB2⟩
  rw [← HR.out,chkS,if_pos (by rw [hen.out];exact HE.out),hen.out]
end Go.Proofs.YtgndgkjefgjamaaGreat
namespace Go.Proofs.YtgndgkjefgjamaaGreat
open Go.RowKit

theorem cloneSecs_any (A:Option Addr) (c n:Nat) (l:List _) (w:World) (hn:l.length=n) (h1:SlAt encSec w (Bl w.heap.size) A l) (hl:n≤1000000) :
  Calls Tryz.prog 105 #[.slice A n c] w fun e w'=>∃ A' c',e = .returned (.slice A' n c')∧n≤c'∧c'≤maxLen∧SlAt encSec w' (Nw w.heap.size w'.heap.size) A' l∧Below w.heap.size w w':=by
 cases A with
 | none =>
   have h0:l=[]:=by
    rcases Decidable.em (l.length=0) with h | h
    ·exact List.eq_nil_of_length_eq_zero h
    ·obtain⟨b,off,he,_⟩:=h1 (by intro e;rw [e] at h;exact h rfl)
     cases he
   subst h0
   subst hn
   have hE:=fun W=>Lib.run_eql_slice_nil (P:=Tryz.prog) W 43 95 none 0 c 0 0 Tryz.underlying43
   go_enter Tryz.func105,Tryz.ntmps105
   go_wp2
   go_ret
   exact⟨none,0,rfl,by simp,by simp,SlAt.nil_,Below.refl _ _⟩
 | some ad =>
   have hO:=Lib.hid (show Own encSec (w.alloc (.cells #[] 95)) w.heap.size 95 (Bl w.heap.size) (.slice (some ⟨w.heap.size,0,none⟩) 0 0) [] from Own.make0 (cur := #[]) (Nat.le_refl _) (by unfold maxLen;omega) rfl (fun h=>Nat.lt_irrefl _ h))
   have hsrc:=Lib.hid (show SlAt encSec (w.alloc (.cells #[] 95)) (Bl w.heap.size) (some ad) l from h1.below (ext_alloc (Below.refl _ _)))
   clear h1
   have hE:=fun W=>Lib.run_eql_slice_nil (P:=Tryz.prog) W 43 95 (some ad) n c 0 0 Tryz.underlying43
   go_enter Tryz.func105,Tryz.ntmps105
   go_wp2_with (at_builtin;refine Hid.out ?_)
   change wpList _ _ _ _ _ _
   refine wpList_appAll (E:=encSec) tySecs rfl _ _ rfl rfl hO.out rfl hn.symm hsrc.out (fun g hg=>by simp;have:g<w.heap.size:=hg;omega) (by simp) (by unfold maxLen;simp;omega) (by simp;omega) ?_
   intro A5 c5 w5 hown5 hg5 hat5
   simp only [List.length_nil,Nat.zero_add,List.nil_append] at hown5
   have hB5:Below w.heap.size w w5:=(ext_alloc (o := .cells #[] 95) (Below.refl w.heap.size w)).grown hg5 (by simp) (fun g hg=>(hO.out.lt g hg).1)
   have hfin:Hid (n≤c5∧c5≤maxLen∧SlAt encSec w5 (Nw w.heap.size w5.heap.size) A5 l):=by
    obtain⟨A',c',he,k1,k2,k3⟩:=(Own.flat hown5 (fun h=>h)).rd (fun _ h=>h.elim)
    simp only [List.cons.injEq,Value.slice.injEq,and_true] at he
    obtain⟨rfl,e2,rfl⟩:=he
    exact⟨by omega,k2,k3⟩
   clear hown5 hg5 hat5
   go_wp2
   go_ret
   exact⟨A5,c5,rfl,hfin.out.1,hfin.out.2.1,hfin.out.2.2,hB5⟩
def fewI (im:List (List Sec)):Bool:=im.length≤9 && (im.all fun v=>v.length≤24)
end Go.Proofs.YtgndgkjefgjamaaGreat

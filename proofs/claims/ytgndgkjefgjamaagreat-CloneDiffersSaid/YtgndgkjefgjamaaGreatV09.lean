/-
  A range over an iterator whose body ranges over another one: its contract assumes more of the caller's word (it abides the turn of whatever is no cells and was laid behind), and the law of the statement. slices.Backward over snapshots.; clone.find: the walk.
-/
import Derived.BigQuiet
import Derived.Test.YtgndgkjefgjamaaGreatV01
import Derived.Test.YtgndgkjefgjamaaGreatV02
import Derived.Test.YtgndgkjefgjamaaGreatV03
import Derived.Test.YtgndgkjefgjamaaGreatV04
import Derived.Test.YtgndgkjefgjamaaGreatV05
import Derived.Test.YtgndgkjefgjamaaGreatV06
import Derived.Test.YtgndgkjefgjamaaGreatV07
import Derived.Test.YtgndgkjefgjamaaGreatV08
set_option linter.unusedVariables false
set_option linter.unusedSimpArgs false
set_option linter.unusedSectionVars false
set_option linter.unnecessarySimpa false
namespace Go.Proofs.YtgndgkjefgjamaaGreat
open Go.RowKit Go.Shelf
attribute [local go_sem] Oper.semAt_some
theorem keepsFrom_mono {B B':Nat} {W W':World} (h:KeepsFrom B W W') (hb:B≤B'):KeepsFrom B' W W':=⟨h.size,fun k o hk h1 h2=>h.same k o (by omega) h1 h2⟩
theorem keepsFrom_low {B l:Nat} (W:World) (o:Obj) (h:l<B):KeepsFrom B W (W.putObj l o):=KeepsFrom.of_grownBy (grownBy_putObj' W l o) (fun j e=>by cases e;exact h)
theorem OwnT.up {β:Type} {own:TypeId→Prop} {B B':Nat} {J:β→World→Prop} (h:OwnT own B J) (hb:B≤B'):OwnT own B' J:=fun s W W' row hs hg hr=>h s W W' row hs hg (fun r e=>⟨Nat.le_trans hb (hr r e).1,(hr r e).2⟩)
theorem RoundIn.anyDepth_ {F:Fence} (hd:F.depth=none) {m m' l':Nat} {P:Program} {l:Nat} {f:FuncId} {tmps:Array Value} {assign body:Code} {w:World} {R:Ending→World→Prop}
  (h:RoundIn F m P l f tmps assign body w R):RoundIn (F.inRound l') m' P l f tmps assign body w R:=⟨h.1,fun c cs _=>h.2 c cs (fun d h=>by rw [hd] at h;cases h)⟩
section
variable {F:Fence} {n:Nat} {P:Program}
def SeqStopsU {α:Type} (own:TypeId→Prop) (F:Fence) (n:Nat) (P:Program) (g:Nat) (lb:Array Value) (encs:α→Array Value) (Kp:World→World→Prop) (S Sp:List α→Prop) (N:Nat) (w:World):Prop :=
 ∀ (l:Nat) (J Jx:List α→World→Prop) (W:World),Below w.heap.size w W→OwnT own W.heap.size J→OwnT own W.heap.size Jx →
   (∀ pre x W1,J pre W1→pre.length<N→YieldAt F (n - 1) P l (encs x) W1 fun e W' =>
    (e = .returned (.bool true)∧J (pre++[x]) W'∧Kp W1 W'∧KeepsFrom W.heap.size W1 W')∨(e = .returned (.bool false)∧Jx (pre++[x]) W'∧KeepsFrom W.heap.size W1 W')) →
   J [] W →
   CallsIn F n P g (#[.func (.yield l) #[] #[]]++lb) W fun e W'=>(∃ v,e = .returned v)∧((∃ xs,S xs∧J xs W')∨(∃ pre,Sp pre∧Jx pre W'))
theorem wpIn_rangeFunc_ownU {α:Type} {own:TypeId→Prop} {g:Operand} {ps:Array Tmp} {assign body:Code} {Q:Exit→Act→World→Prop} {a:Act} {w:World}
  (hro:F.round=none) (h1:1≤n) {gf:Nat} {lb:Array Value} (hg:a.eval g = .func (.func gf) #[] lb) (hFg:F.fn gf) (eg:∀ args w,(callFunc gf args).run P w = .ok (.enter gf args) w)
  {encs:α→Array Value} {Kp:World→World→Prop} {S Sp:List α→Prop} {N:Nat} {w0:World} (hseq:SeqStopsU own F (n - 1) P gf lb encs Kp S Sp N w0)
  (hKt:∀ {A B C:World},Kp A B→Kp B C→Kp A C) (hKb:∀ (W:World) (l:Nat) (o o':Obj),w.heap.size≤l→W.heap[l]? = some o→o.isCells=false→o.isWalk=false→Kp W (W.putObj l o')) (hb0:Below w0.heap.size w0 w) (hps:∀ x,(encs x).size=ps.size)
  (I:List α→World→Prop) (Ix:Code→List α→World→Prop) (hI:OwnT own w.heap.size I) (hIx:∀ c,OwnT own w.heap.size (Ix c)) (h0:I [] w) (Ax:α→Act→World→Prop) (hAx:∀ x a',OwnFrom w.heap.size (fun (_:Unit) W=>Ax x a' W))
  (hassign:∀ (l:Nat) (pre:List α) (x:α) (W:World) (K:Act→World→Prop),I pre W→(∀ a' W',KeepsFrom w.heap.size W W'→Kp W W'→I pre W'→Ax x a' W'→K a' W') →
   assign.wpIn (F.inRound l) (n - 1 - 1) P (Exit.then K (fun _ _ _=>False)) { tmps:=(ps.zip (encs x)).foldl (fun t (p,v)=>t.setIfInBounds p v) a.tmps,defers:=[] } W)
  (hbody:∀ (l:Nat) (pre:List α) (x:α) (a':Act) (W:World),w.heap.size≤l→(∃ r,W.heap[l]? = some (.loop r))→I pre W→Ax x a' W→pre.length<N→body.wpIn (F.inRound l) (n - 1 - 1) P (ownPostG w.heap.size Kp I Ix (pre++[x]) W) a' W)
  (hdone:∀ (D:Nat) (xs:List α) (W:World),w.heap.size≤D→S xs→I xs W→W.heap[D]? = some (.deferred (some []))→Q .normal { a with defers:={ target := .collected D,args := #[] } :: a.defers } W)
  (hstop:∀ (D:Nat) (c:Code) (pre:List α) (W:World),w.heap.size≤D→Sp pre→Ix c pre W→W.heap[D]? = some (.deferred (some []))→c.wpIn F n P Q { a with defers:={ target := .collected D,args := #[] } :: a.defers } W) :
  (Code.rangeFunc g ps assign body).wpIn F n P Q a w:=by
 refine wpIn_rangeFunc ?_
 intro fn hfn
 rw [hro]
 obtain⟨rec,hrec⟩:∃ rec:LoopState→Option Code→Loop,rec=fun st pe=>{ state:=st,pending:=pe,fn,tmps:=a.tmps,params:=ps,assign,body,defers:=w.heap.size }:=⟨_,rfl⟩
 obtain⟨W1,hW1⟩:∃ W1,(w.alloc (.deferred (some []))).alloc (.loop (rec .ready none))=W1:=⟨_,rfl⟩
 have hL1:W1.heap[w.heap.size+1]? = some (.loop (rec .ready none)):=by
  rw [← hW1];have:=World.alloc_heap_new (w.alloc (.deferred (some []))) (.loop (rec .ready none));rwa [World.size_alloc] at this
 have hK1:W1.heap[w.heap.size]? = some (.deferred (some [])):=by
  rw [← hW1];exact (Below.heap_alloc _ _ _ (by simp)).trans (World.alloc_heap_new w _)
 have hI1:I [] W1:=by rw [← hW1];exact hI.alloc _ (hI.alloc _ h0)
 have hb1:Below w0.heap.size w0 W1:=by
  rw [← hW1];exact hb0.trans ((((Below.refl _ w).alloc (Nat.le_refl _) _).alloc (by simp) _).mono hb0.size)
 refine⟨w.heap.size+1,[{ target := .collected w.heap.size,args := #[] }],W1,{ target := .fn (.func gf) lb,args := #[.func (.yield (w.heap.size+1)) #[] #[]] },W1,gf,
  #[.func (.yield (w.heap.size+1)) #[] #[]]++lb,W1, ?_, ?_, ?_, ?_,fun _=>h1, ?_⟩
 ·rw [← hW1,hrec];exact run_enterLoop_outer _ _ _ _ _
 ·simp only [resolve,hg]
  simp [go_sem]
 ·intro f' hf';simp [Target.leads] at hf';subst hf';exact hFg
 ·simp [invoke,go_sem,eg]
 ·-- THE ITERATOR's CONTRACT, AT THE CALLER's INVARIANT WITH THE TWO FACTS OF BOOK-KEEPING BESIDE IT
  have hnw:∀ {A B:World} {row:Option Nat},(∀ r,row=some r→W1.heap.size≤r∧∃ o:Obj,A.heap[r]? = some o∧(o.isCells=false∨ItObj own o))→(∀ r,row=some r→w.heap.size≤r∧∃ o:Obj,A.heap[r]? = some o∧(o.isCells=false∨ItObj own o)) :=
   fun hr r e=>by obtain⟨hB,o,ho,hw⟩:=hr r e;exact⟨by rw [← hW1] at hB;simp at hB;omega,o,ho,hw⟩
  have hlow:∀ k,W1.heap.size≤k→k<w.heap.size+2→False:=fun k h1 h2=>by rw [← hW1] at h1;simp at h1;omega
  refine (hseq (w.heap.size+1)
   (fun pre W=>I pre W∧W.heap[w.heap.size+1]? = some (.loop (rec .ready none))∧W.heap[w.heap.size]? = some (.deferred (some [])))
   (fun pre W=>∃ c,Ix c pre W∧W.heap[w.heap.size+1]? = some (.loop (rec .done (some c)))∧W.heap[w.heap.size]? = some (.deferred (some [])))
   W1 hb1
   (fun s A B row hs hg' hr=>⟨hI s A B row hs.1 hg' (hnw (B:=B) hr),(hg'.block _ (Array.getElem?_eq_some_iff.1 hs.2.1).1 (fun e=>hlow _ (hr _ e.symm).1 (by omega))).trans hs.2.1,(hg'.block _ (Array.getElem?_eq_some_iff.1 hs.2.2).1 (fun e=>hlow _ (hr _ e.symm).1 (by omega))).trans hs.2.2⟩)
   (fun s A B row hs hg' hr=>by
    obtain⟨c,hc,hl,hk⟩:=hs
    exact⟨c,hIx c s A B row hc hg' (hnw (B:=B) hr),(hg'.block _ (Array.getElem?_eq_some_iff.1 hl).1 (fun e=>hlow _ (hr _ e.symm).1 (by omega))).trans hl,(hg'.block _ (Array.getElem?_eq_some_iff.1 hk).1 (fun e=>hlow _ (hr _ e.symm).1 (by omega))).trans hk⟩)
   ?_ ⟨hI1,hL1,hK1⟩).mono ?_
  ·-- ONE ROUND
   rintro pre x W ⟨hi,hl,hk⟩ hlen
   have hlt:w.heap.size+1<W.heap.size:=(Array.getElem?_eq_some_iff.1 hl).1
   have hy:=run_yield (P:=P) (args:=encs x) hl (by rw [hrec];exact hps x)
   rw [hrec] at hy
   refine⟨fn,_,assign,body,hy,roundIn_of_wpIn hfn (hassign _ pre x W _ hi ?_)⟩
   clear hy
   intro a' Wa hkfa hkpa hia hax
   -- THE ASSIGN CODE MAY HAVE LAID BLOCKS (a loop variable that an inner function captures is boxed): the two blocks of book-keeping lie as they lay
   replace hl:=hkfa.same _ _ (by omega) hl rfl
   replace hk:=hkfa.same _ _ (Nat.le_refl _) hk rfl
   replace hlt:w.heap.size+1<Wa.heap.size:=(Array.getElem?_eq_some_iff.1 hl).1
   replace hi:=hia
   clear hia
   revert hkpa hkfa
   generalize W=Wb
   intro hkfa hkpa
   obtain⟨W,rfl⟩:∃ W,W=Wa:=⟨_,rfl⟩
   refine⟨_,run_beginRound hl (by rw [hrec]), ?_⟩
   have hl2:(W.putObj (w.heap.size+1) (.loop { rec .ready none with state := .busy })).heap[w.heap.size+1]? = some (.loop { rec .ready none with state := .busy }):=World.putObj_heap_same hlt
   have hk2:(W.putObj (w.heap.size+1) (.loop { rec .ready none with state := .busy })).heap[w.heap.size]? = some (.deferred (some [])):=(World.putObj_heap_other (by omega)).trans hk
   have hw2:Kp W (W.putObj (w.heap.size+1) (.loop { rec .ready none with state := .busy })):=hKb _ _ _ _ (by omega) hl rfl rfl
   refine wpIn_mono (hbody _ pre x a' _ (by omega) ⟨_,hl2⟩ (hI.putObj _ hi (by omega) hl rfl) ((hAx x a').putObj (s:=()) _ hax (by omega) hl rfl) hlen) ?_
   have fin:∀ (jump:Option Code) (W3:World),KeepsFrom w.heap.size (W.putObj (w.heap.size+1) (.loop { rec .ready none with state := .busy })) W3 →
     (Instr.endRound (w.heap.size+1) jump).run P W3 = .ok (.bool jump.isNone) (W3.putObj (w.heap.size+1) (.loop (rec (if jump.isNone then .ready else .done) jump))) ∧
     W3.heap[w.heap.size+1]? = some (.loop { rec .ready none with state := .busy }) ∧
     (W3.putObj (w.heap.size+1) (.loop (rec (if jump.isNone then .ready else .done) jump))).heap[w.heap.size+1]? = some (.loop (rec (if jump.isNone then .ready else .done) jump)) ∧
     (W3.putObj (w.heap.size+1) (.loop (rec (if jump.isNone then .ready else .done) jump))).heap[w.heap.size]? = some (.deferred (some [])):=fun jump W3 hk3=>by
    have hl3:=hk3.same _ _ (by omega) hl2 rfl
    have:=run_endRound (P:=P) jump hl3
    rw [hrec] at this ⊢
    exact⟨this,by rw [hrec] at hl3;exact hl3,World.putObj_heap_same (Array.getElem?_eq_some_iff.1 hl3).1,(World.putObj_heap_other (by omega)).trans (hk3.same _ _ (Nat.le_refl _) hk2 rfl)⟩
   have hkk:∀ (o:Obj) (W3:World),KeepsFrom w.heap.size (W.putObj (w.heap.size+1) (.loop { rec .ready none with state := .busy })) W3→KeepsFrom W1.heap.size Wb (W3.putObj (w.heap.size+1) o):=fun o W3 hk3=>by
    have hs1:W1.heap.size=w.heap.size+2:=by rw [← hW1];simp
    rw [hs1]
    exact (((keepsFrom_mono hkfa (by omega)).trans (keepsFrom_low _ _ (by omega))).trans (keepsFrom_mono hk3 (by omega))).trans (keepsFrom_low _ _ (by omega))
   rintro e a3 W3 hp
   cases e with
   | normal =>
     obtain⟨hk3,hkp3,hi3⟩:=hp
     obtain⟨hr,hl3,hl4,hk4⟩:=fin none W3 hk3
     exact⟨_,_,hr,.inl ⟨rfl,⟨hI.putObj _ hi3 (by omega) hl3 rfl,hl4,hk4⟩,hKt hkpa (hKt (hKt hw2 hkp3) (hKb _ _ _ _ (by omega) hl3 rfl rfl)),hkk _ _ hk3⟩⟩
   | ret =>
     obtain⟨hk3,hi3⟩:=hp
     obtain⟨hr,hl3,hl4,hk4⟩:=fin (some .ret) W3 hk3
     exact⟨_,_,hr,.inr ⟨rfl,⟨.ret,(hIx _).putObj _ hi3 (by omega) hl3 rfl,hl4,hk4⟩,hkk _ _ hk3⟩⟩
   | exit id =>
     obtain⟨hk3,hi3⟩:=hp
     obtain⟨hr,hl3,hl4,hk4⟩:=fin (some (.exit id)) W3 hk3
     exact⟨_,_,hr,.inr ⟨rfl,⟨.exit id,(hIx _).putObj _ hi3 (by omega) hl3 rfl,hl4,hk4⟩,hkk _ _ hk3⟩⟩
   | goto t =>
     obtain⟨hk3,hi3⟩:=hp
     obtain⟨hr,hl3,hl4,hk4⟩:=fin (some (.goto t)) W3 hk3
     exact⟨_,_,hr,.inr ⟨rfl,⟨.goto t,(hIx _).putObj _ hi3 (by omega) hl3 rfl,hl4,hk4⟩,hkk _ _ hk3⟩⟩
   | panic ch=>exact hp.elim
   | outgrown=>exact hp.elim
  ·-- BEHIND THE ITERATOR
   rintro e W2 ⟨⟨v,rfl⟩,(⟨xs,hS,hi,hl,hk⟩ | ⟨pre,hSp,c,hi,hl,hk⟩)⟩
   ·exact⟨none,_,by have:=run_endLoop (P:=P) hl (by rw [hrec];simp);rw [hrec] at this;exact this,hdone _ xs _ (Nat.le_refl _) hS (hI.putObj _ hi (by omega) hl rfl) ((World.putObj_heap_other (by omega)).trans hk)⟩
   ·exact⟨some c,_,by have:=run_endLoop (P:=P) hl (by rw [hrec];simp);rw [hrec] at this;exact this,hstop _ c pre _ (Nat.le_refl _) hSp ((hIx c).putObj _ hi (by omega) hl rfl) ((World.putObj_heap_other (by omega)).trans hk)⟩
end
def snAt (l:List Snp) (f:Nat→Option Addr × Nat) (k:IdxN l.length):Array Value := #[.int .i64 (k.1:Int),.agg #[.int .i64 (l[k.1]'k.2).1,.int .i64 (l[k.1]'k.2).2.1,.slice (f k.1).1 (l[k.1]'k.2).2.2.length (f k.1).2]]
def SnsAt (l:List Snp) (f:Nat→Option Addr × Nat) (A:Option Addr) (w:World) (B:Nat):Prop :=
 ∀ k (hk:k<l.length),∃ b off,A=some ⟨b,off,none⟩∧b<B∧w.cell? ⟨b,off+k * 3,none⟩=some (.int .i64 l[k].1)∧w.cell? ⟨b,off+k * 3+1,none⟩=some (.int .i64 l[k].2.1)∧w.cell? ⟨b,off+k * 3+2,none⟩=some (.slice (f k).1 l[k].2.2.length (f k).2)
theorem SnsAt.below {l:List Snp} {f:Nat→Option Addr × Nat} {A:Option Addr} {w w':World} {B:Nat} (h:SnsAt l f A w B) (hb:Below B w w'):SnsAt l f A w' B:=fun k hk=>by
 obtain⟨b,off,e,h0,h1,h2,h3⟩:=h k hk
 exact⟨b,off,e,h0,(hb.cell (p:=⟨b,_,none⟩) h0).trans h1,(hb.cell (p:=⟨b,_,none⟩) h0).trans h2,(hb.cell (p:=⟨b,_,none⟩) h0).trans h3⟩
theorem SlAt.snps {l:List Snp} {A:Option Addr} {w:World} {B:Nat} (h:SlAt encSnp w (Bl B) A l):∃ f,SnsAt l f A w B∧∀ k (hk:k<l.length),SlAt encWr w (Bl B) (f k).1 l[k].2.2∧l[k].2.2.length≤(f k).2∧(f k).2≤maxLen∧I64 l[k].1∧I64 l[k].2.1:=by
 have key:∀ k,∃ p:Option Addr × Nat,∀ hk:k<l.length,(∃ b off,A=some ⟨b,off,none⟩∧b<B∧w.cell? ⟨b,off+k * 3,none⟩=some (.int .i64 l[k].1)∧w.cell? ⟨b,off+k * 3+1,none⟩=some (.int .i64 l[k].2.1)∧w.cell? ⟨b,off+k * 3+2,none⟩=some (.slice p.1 l[k].2.2.length p.2)) ∧
   SlAt encWr w (Bl B) p.1 l[k].2.2∧l[k].2.2.length≤p.2∧p.2≤maxLen∧I64 l[k].1∧I64 l[k].2.1:=by
  intro k
  by_cases hk:k<l.length
  ·obtain⟨b,off,D,c,e,hb,h0,h1,h2,h3,h4,h5,h6,h7⟩:=h.snp hk
   exact⟨(D,c),fun _=>⟨⟨b,off,e,hb,h0,h1,h2⟩,h3,h4,h5,h6,h7⟩⟩
  ·exact⟨(none,0),fun h=>absurd h hk⟩
 obtain⟨f,hf⟩:=Classical.axiomOfChoice key
 exact⟨f,fun k hk=>(hf k hk).1,fun k hk=>(hf k hk).2⟩
def bkOwn (T:TypeId):Prop:=T=24∨T=165
set_option maxRecDepth 100000 in
set_option maxHeartbeats 2000000 in
theorem backS_in (n:Nat) (hn:1≤n) (l Bs n₀ c:Nat) (A:Option Addr) (ws:List Snp) (f:Nat→Option Addr × Nat) (hlen:ws.length≤9223372036854775807) (J Jx:List (IdxN ws.length)→World→Prop)
  (hY:∀ pre x W,J pre W→pre.length<ws.length→YieldAt Fence.wide (n - 1) Tryz.prog l (snAt ws f x) W fun e W' =>
   (e = .returned (.bool true)∧J (pre++[x]) W'∧KpT bkOwn n₀ W W')∨(e = .returned (.bool false)∧Jx (pre++[x]) W'))
  (W:World) (hc:W.heap[Bs]? = some (.cells #[.slice A ws.length c] 24 (0,0))) (hw:SnsAt ws f A W n₀) (h0:J [] W) :
  CallsIn Fence.wide n Tryz.prog 177 #[.func (.yield l) #[] #[],.pointer (some ⟨Bs,0,none⟩)] W fun e W'=>(∃ v,e = .returned v) ∧
   ((∃ ys:List (IdxN ws.length),ys.map (·.1)=bk ws.length 0∧J ys W')∨(∃ pre:List (IdxN ws.length),(∃ k,k≤ws.length∧pre.map (·.1)=bk ws.length k)∧Jx pre W')):=by
 have HW:=Lib.hid hw;clear hw
 refine callsIn_of_wp Tryz.func177 rfl trivial ?_ rfl
 simp only [Tryz.ntmps177,List.size_toArray,List.length_cons,List.length_nil,Nat.reduceAdd,Nat.reduceSub,Array.replicate_succ,Array.replicate_zero,List.push_toArray,List.append_toArray,List.nil_append,List.cons_append]
 have hc0:=cell_of_row _ _ 0 _ _ _ hc
 gi_wp2
 clear hc0
 gi_loopw [3] (fun i wr=>∃ (k:Nat) (pre:List (IdxN ws.length)),k≤ws.length∧i = .int .i64 ((k:Int) - 1)∧Hid (pre.map (·.1)=bk ws.length k)∧J pre wr∧KpT bkOwn n₀ W wr) (fun i _=>(intOf i+1).toNat)
 case atStart=>exact⟨ws.length,[],Nat.le_refl _,rfl,by rw [Hid,bk_top];rfl,h0,KpT.refl _⟩
 case round =>
  obtain⟨k,pre,hk,rfl,hpre,hJs,hB⟩:=hrel
  have hcs:=cell_of_row _ _ 0 _ _ _ ((hB.2.2 _ _ _ _ hc (Or.inl rfl)).trans hc)
  clear hc
  cases k with
  | zero =>
    gi_wp2
    go_end0
    exact⟨⟨_,rfl⟩,.inl ⟨pre,hpre.out,hJs⟩⟩
  | succ k =>
    have hlt:k<ws.length:=by omega
    have ek:((k+1:Nat):Int) - 1=(k:Int):=by omega
    rw [ek]
    have hpl:pre.length<ws.length:=by
     have:=congrArg List.length hpre.out
     rw [List.length_map,bk_len] at this
     omega
    obtain⟨fn,tmps,assign,body,hy,hR⟩:=hY pre ⟨k,hlt⟩ wr hJs hpl
    obtain⟨b,off,rfl,hb,g0,g1,g2⟩:=(HW.out.below hB.1) k hlt
    have hnn:(0:Int)≤k:=by omega
    have hki:(k:Int)<ws.length:=by omega
    simp only [snAt] at hy
    gi_wp2
    refine hR.mono ?_
    have HY:=Lib.hid hy;clear hy g0 g1 g2 hcs
    rintro e W3 (⟨rfl,hJ3,hk3⟩ | ⟨rfl,hJx3⟩)
    ·gi_wp2
     go_roundw
     case rel=>exact⟨k,pre++[⟨k,hlt⟩],by omega,rfl,by rw [Hid,List.map_append,hpre.out,bk_step hlt];rfl,hJ3,hB.trans hk3⟩
     case measure=>simp [intOf]
    ·gi_wp2
     refine bodyPost_ret (results_none rfl _ _ _) rfl ?_
     exact⟨⟨_,rfl⟩,.inr ⟨pre++[⟨k,hlt⟩],⟨k,by omega,by rw [List.map_append,hpre.out,bk_step hlt];rfl⟩,hJx3⟩⟩
theorem backwardS_any (A:Option Addr) (n c:Nat) (w:World):Calls Tryz.prog 161 #[.slice A n c] w fun e w'=>e = .returned (.func (.func 177) #[] #[.pointer (some ⟨w.heap.size,0,none⟩)])∧w'=w.alloc (.cells #[.slice A n c] 24):=by
 go_enter Tryz.func161,Tryz.ntmps161
 go_wp2
 go_ret
 exact⟨rfl,rfl⟩
theorem backS_stops (n:Nat) (hn:1≤n) (Bs c n₀:Nat) (A:Option Addr) (ws:List Snp) (f:Nat→Option Addr × Nat) (hlen:ws.length≤9223372036854775807) (w:World) (hn0:n₀≤w.heap.size) (hc:w.heap[Bs]? = some (.cells #[.slice A ws.length c] 24 (0,0))) (hw:SnsAt ws f A w n₀) :
 SeqStopsT (fun _=>False) Fence.wide n Tryz.prog 177 #[.pointer (some ⟨Bs,0,none⟩)] (snAt ws f) (KpT bkOwn n₀) (fun ys=>ys.map (·.1)=bk ws.length 0) (fun pre=>∃ k,k≤ws.length∧pre.map (·.1)=bk ws.length k) ws.length w :=
 fun l J Jx W hW _ _ hY h0=>backS_in n hn l Bs n₀ c A ws f hlen J Jx hY W ((hW.block _ (Array.getElem?_eq_some_iff.1 hc).1).trans hc) (hw.below (hW.mono hn0)) h0
end Go.Proofs.YtgndgkjefgjamaaGreat

namespace Go.Proofs.YtgndgkjefgjamaaGreat
open Go.RowKit Go.Shelf
attribute [local go_sem] Oper.semAt_some

theorem back_any (A A2:Option Addr) (n c m c2:Nat) (k:Int) (w:World):Calls Tryz.prog 141 #[.agg #[.slice A n c,.slice A2 m c2],.int .i64 k] w fun e w'=>e = .returned (.func (.func 160) #[] #[.pointer (some ⟨w.heap.size,0,none⟩),.pointer (some ⟨w.heap.size+1,0,none⟩)])∧w'=(w.alloc (.cells #[.slice A n c,.slice A2 m c2] 26)).alloc (.cells #[.int .i64 k] 3):=by
 go_enter Tryz.func141,Tryz.ntmps141
 go_wp2
 go_ret
 exact⟨rfl,rfl⟩
def snOne (l:List Snp) (f:Nat→Option Addr × Nat) (k:IdxN l.length):Array Value := #[.agg #[.int .i64 (l[k.1]'k.2).1,.int .i64 (l[k.1]'k.2).2.1,.slice (f k.1).1 (l[k.1]'k.2).2.2.length (f k.1).2]]
set_option maxRecDepth 100000 in
set_option maxHeartbeats 2000000 in
theorem back1_in (n:Nat) (hn:6≤n) (l Bs Bk n₀ c c1 m c2:Nat) (A1:Option Addr) (b off k:Nat) (ws:List Snp) (f:Nat→Option Addr × Nat) (hlen:m≤9223372036854775807) (hm:m=k+ws.length) (hk:k<m) (hc2:m≤c2) (J Jx:List (IdxN ws.length)→World→Prop)
  (W:World) (hJ:OwnT (fun _=>False) W.heap.size J) (hJx:OwnT (fun _=>False) W.heap.size Jx)
  (hY:∀ pre x W1,J pre W1→pre.length<ws.length→YieldAt Fence.wide (n - 1) Tryz.prog l (snOne ws f x) W1 fun e W' =>
   (e = .returned (.bool true)∧J (pre++[x]) W'∧KpT bkOwn n₀ W1 W'∧KeepsFrom W.heap.size W1 W')∨(e = .returned (.bool false)∧Jx (pre++[x]) W'∧KeepsFrom W.heap.size W1 W'))
  (hs:W.heap[Bs]? = some (.cells #[.slice A1 c1 c,.slice (some ⟨b,off,none⟩) m c2] 26 (0,0))) (hkk:W.heap[Bk]? = some (.cells #[.int .i64 k] 3 (0,0))) (hn0:n₀≤W.heap.size)
  (hw:SnsAt ws f (some ⟨b,off+k * 3,none⟩) W n₀) (h0:J [] W) :
  CallsIn Fence.wide n Tryz.prog 160 #[.func (.yield l) #[] #[],.pointer (some ⟨Bs,0,none⟩),.pointer (some ⟨Bk,0,none⟩)] W fun e W'=>(∃ v,e = .returned v) ∧
   ((∃ ys:List (IdxN ws.length),Hid (ys.map (·.1)=bk ws.length 0)∧J ys W')∨(∃ pre:List (IdxN ws.length),Hid (∃ k,k≤ws.length∧pre.map (·.1)=bk ws.length k)∧Jx pre W')):=by
 have HW:=Lib.hid hw;have HY:=Lib.hid hY;have H0:=Lib.hid h0;have HJ:=Lib.hid hJ;have HJx:=Lib.hid hJx
 clear hw hY h0 hJ hJx
 refine callsIn_of_wp_marks Tryz.func160 rfl trivial ?_ rfl
 simp only [Tryz.ntmps160,List.size_toArray,List.length_cons,List.length_nil,Nat.reduceAdd,Nat.reduceSub,Array.replicate_succ,Array.replicate_zero,List.push_toArray,List.append_toArray,List.nil_append,List.cons_append]
 have hb0:Below W.heap.size W (W.alloc (.cells #[.func (.yield l) #[] #[]] 165)):=ext_alloc (Below.refl _ _)
 have s1:(W.alloc (.cells #[.func (.yield l) #[] #[]] 165)).cell? ⟨Bs,1,none⟩=some (.slice (some ⟨b,off,none⟩) m c2):=cell_of_row _ _ 1 _ _ _ ((hb0.block _ (Array.getElem?_eq_some_iff.1 hs).1).trans hs)
 have k1:(W.alloc (.cells #[.func (.yield l) #[] #[]] 165)).cell? ⟨Bk,0,none⟩=some (.int .i64 k):=cell_of_row _ _ 0 _ _ _ ((hb0.block _ (Array.getElem?_eq_some_iff.1 hkk).1).trans hkk)
 have hck:c2≠k:=by omega
 have hkm:(k:Int)≤m:=by omega
 have hnn:(0:Int)≤k:=by omega
 gi_wp2_with fail
 refine⟨trivial,fun _=>by omega,CallsIn.mono (callsIn_wide.2 (backwardS_any _ _ _ _)) ?_⟩
 rintro e w1 ⟨rfl,rfl⟩
 clear s1 k1 hb0
 obtain⟨W0,hW0⟩:∃ W0,(W.alloc (.cells #[.func (.yield l) #[] #[]] 165)).alloc (.cells #[.slice (some ⟨b,off+k * 3,none⟩) ws.length (c2 - k)] 24)=W0:=⟨_,rfl⟩
 have hb0:Below W.heap.size W W0:=by rw [← hW0];exact ext_alloc (ext_alloc (Below.refl _ _))
 have hr0:W0.heap[W.heap.size]? = some (.cells #[.func (.yield l) #[] #[]] 165 (0,0)):=by rw [← hW0];exact (Below.heap_alloc _ _ _ (by simp)).trans (heap_alloc_new _ _)
 have hr1:W0.heap[W.heap.size+1]? = some (.cells #[.slice (some ⟨b,off+k * 3,none⟩) ws.length (c2 - k)] 24 (0,0)):=by
  rw [← hW0]
  have h:=heap_alloc_new (W.alloc (.cells #[.func (.yield l) #[] #[]] 165)) (.cells #[.slice (some ⟨b,off+k * 3,none⟩) ws.length (c2 - k)] 24)
  simp only [World.size_alloc] at h
  exact h
 have hJ0:Hid (J [] W0):=by rw [← hW0];exact HJ.out.alloc _ (HJ.out.alloc _ H0.out)
 have hz0:W.heap.size<W0.heap.size:=(Array.getElem?_eq_some_iff.1 hr0).1
 gi_wp2
 try rw [hW0]
 clear hW0
 have hstops:=backS_stops (n - 1) (by omega) (W.heap.size+1) (c2 - k) n₀ (some ⟨b,off+k * 3,none⟩) ws f (by omega) W0 (by omega) hr1 (HW.out.below (hb0.mono hn0))
 refine wpIn_rangeFunc_ownT (own:=fun _=>False) rfl (by omega) (gf:=177) (lb := #[.pointer (some ⟨W.heap.size+1,0,none⟩)]) rfl trivial (enters_of Tryz.func177 (by kernel_rfl) rfl) hstops (fun h k=>KpT.trans h k) (fun V l' o o' hl h ho _=>KpT.putObj V l' o o' (by omega) h ho (by have:=(Array.getElem?_eq_some_iff.1 h).1;omega)) (Below.refl _ _) (fun _=>rfl)
  (fun pre V=>J pre V∧V.heap[W.heap.size]? = some (.cells #[.func (.yield l) #[] #[]] 165 (0,0))∧W0.heap.size≤V.heap.size)
  (fun c pre V=>c = .ret∧Jx pre V)
  (OwnT.and (HJ.out.up (by omega)) (fun s A B row hs hg hr=>⟨(hg.block _ (Array.getElem?_eq_some_iff.1 hs.1).1 (fun e=>by have:=(hr _ e.symm).1;omega)).trans hs.1,Nat.le_trans hs.2 hg.size⟩))
  (fun c s A B row hs hg hr=>⟨hs.1,HJx.out.up (Nat.le_of_lt hz0) s A B row hs.2 hg hr⟩)
  ⟨hJ0.out,hr0,Nat.le_refl _⟩
  (fun x a' V=>∃ Bx,W0.heap.size≤Bx∧V.heap[Bx]? = some (.cells #[.int .i64 (ws[x.1]'x.2).1,.int .i64 (ws[x.1]'x.2).2.1,.slice (f x.1).1 (ws[x.1]'x.2).2.2.length (f x.1).2] 158 (0,0))∧a'={ tmps := #[.func (.yield l) #[] #[],.pointer (some ⟨Bs,0,none⟩),.pointer (some ⟨Bk,0,none⟩),.pointer (some ⟨W.heap.size,0,none⟩),undef,.pointer (some ⟨Bx,0,none⟩),.pointer (some ⟨Bs,1,none⟩),.slice (some ⟨b,off,none⟩) (k+ws.length) c2,.int .i64 k,.slice (some ⟨b,off+k * 3,none⟩) ws.length (c2 - k),.func (.func 177) #[] #[.pointer (some ⟨W.heap.size+1,0,none⟩)],.int .i64 x.1,.agg #[.int .i64 (ws[x.1]'x.2).1,.int .i64 (ws[x.1]'x.2).2.1,.slice (f x.1).1 (ws[x.1]'x.2).2.2.length (f x.1).2],undef,undef,undef,undef],defers:=[] }) ?hAx ?assign ?body ?done ?stop
 case hAx =>
  rintro x a' s X Y row ⟨Bx,hb,hh,he⟩ hg hr
  refine⟨Bx,hb,(hg.block Bx (Array.getElem?_eq_some_iff.1 hh).1 (fun e => ?_)).trans hh,he⟩
  obtain⟨_,o',h1,h2⟩:=hr Bx e.symm
  rw [hh] at h1;cases h1;cases h2
 case assign =>
  rintro r pre x V K ⟨hj,hb,hz⟩ hK
  have HJV:=Lib.hid hj;have HB:=Lib.hid hb
  clear hj hb
  simp only [snAt]
  gi_wp2
  exact hK _ _ ((KeepsOthers.alloc _ _).from _) (KpT.alloc _ _ (by omega)) ⟨HJ.out.alloc _ HJV.out,(Below.heap_alloc _ _ _ (by omega)).trans HB.out,by simp;omega⟩ ⟨V.heap.size,hz,heap_alloc_new _ _,rfl⟩
 case body =>
  rintro r pre x a' V hr2 _ ⟨hj,hb,hz⟩ ⟨Bx,hBx,hbx,rfl⟩ hlen2
  obtain⟨fn,tmps,assign,body,hy,hR⟩:=HY.out pre x V hj hlen2
  have hR2:=fun m'=>RoundIn.anyDepth_ (m':=m') (l':=r) rfl hR
  have t0:=cell_of_row _ _ 0 _ _ _ hbx
  have t1:=cell_of_row _ _ 1 _ _ _ hbx
  have t2:=cell_of_row _ _ 2 _ _ _ hbx
  have y0:=cell_of_row _ _ 0 _ _ _ hb
  have HB:=Lib.hid hb;have HJV:=Lib.hid hj
  clear hb hj hbx hR
  simp only [snOne] at hy
  gi_wp2
  refine⟨(fun h=>by cases h),(hR2 _).mono ?_⟩
  have HY2:=Lib.hid hy
  clear hy t0 t1 t2 y0 hR2
  rintro e V3 (⟨rfl,hJ3,hk3,hkf3⟩ | ⟨rfl,hJx3,hkf3⟩)
  ·have hy3:=(hk3.2.2 _ _ _ _ HB.out (Or.inr rfl)).trans HB.out
   have hz3:=hk3.2.1
   have HK3:=Lib.hid hk3;have HKF:=Lib.hid hkf3;have HJ3:=Lib.hid hJ3;have HY3:=Lib.hid hy3
   clear hk3 hkf3 hJ3 hy3
   gi_wp2
   exact⟨keepsFrom_mono HKF.out (by omega),HK3.out,HJ3.out,HY3.out,by omega⟩
  ·have HKF:=Lib.hid hkf3;have HJ3:=Lib.hid hJx3
   clear hkf3 hJx3
   gi_wp2
   exact⟨keepsFrom_mono HKF.out (by omega),rfl,HJ3.out⟩
 case done =>
  rintro D ys V hD hS ⟨hj,hb,hz⟩ hK
  have HK:=Lib.hid hK;have HS:=Lib.hid hS;have HJV:=Lib.hid hj
  clear hK hS hj hb
  gi_wp2
  refine⟨by simp,.inl ⟨_,_,rfl,run_takeDeferred HK.out, ?_⟩⟩
  exact⟨_,results_none rfl _ _ _,⟨_,rfl⟩,.inl ⟨ys,HS.out,HJ.out.putObj _ HJV.out (by omega) HK.out rfl⟩⟩
 case stop =>
  rintro D c' pre V hD hS ⟨rfl,hj⟩ hK
  have HK:=Lib.hid hK;have HS:=Lib.hid hS;have HJV:=Lib.hid hj
  clear hK hS hj
  gi_wp2
  refine⟨by simp,.inl ⟨_,_,rfl,run_takeDeferred HK.out, ?_⟩⟩
  exact⟨_,results_none rfl _ _ _,⟨_,rfl⟩,.inr ⟨pre,HS.out,HJx.out.putObj _ HJV.out (by omega) HK.out rfl⟩⟩
theorem back1_stops (n:Nat) (hn:6≤n) (Bs Bk n₀ c c1 m c2:Nat) (A1:Option Addr) (b off k:Nat) (ws:List Snp) (f:Nat→Option Addr × Nat) (hlen:m≤9223372036854775807) (hm:m=k+ws.length) (hk:k<m) (hc2:m≤c2)
  (w:World) (hs:w.heap[Bs]? = some (.cells #[.slice A1 c1 c,.slice (some ⟨b,off,none⟩) m c2] 26 (0,0))) (hkk:w.heap[Bk]? = some (.cells #[.int .i64 k] 3 (0,0))) (hn0:n₀≤w.heap.size) (hw:SnsAt ws f (some ⟨b,off+k * 3,none⟩) w n₀) :
  SeqStopsU (fun _=>False) Fence.wide n Tryz.prog 160 #[.pointer (some ⟨Bs,0,none⟩),.pointer (some ⟨Bk,0,none⟩)] (snOne ws f) (KpT bkOwn n₀) (fun ys=>Hid (ys.map (·.1)=bk ws.length 0)) (fun pre=>Hid (∃ k,k≤ws.length∧pre.map (·.1)=bk ws.length k)) ws.length w :=
 fun l J Jx W hW hJ hJx hY h0=>back1_in n hn l Bs Bk n₀ c c1 m c2 A1 b off k ws f hlen hm hk hc2 J Jx W hJ hJx hY ((hW.block _ (Array.getElem?_eq_some_iff.1 hs).1).trans hs) ((hW.block _ (Array.getElem?_eq_some_iff.1 hkk).1).trans hkk) (Nat.le_trans hn0 hW.size) (hw.below (hW.mono hn0)) h0
end Go.Proofs.YtgndgkjefgjamaaGreat

namespace Go.Proofs.YtgndgkjefgjamaaGreat
open Go.RowKit Go.Shelf
attribute [local go_sem] Oper.semAt_some

def CS (w:World) (S:Nat→Prop) (b:Nat):Prop:=S b∧∃ cs T fr,w.heap[b]? = some (.cells cs T fr)
theorem SlAt.onCells {α:Type} {E:Enc α} {w:World} {S:Nat→Prop} {A:Option Addr} {l:List α} (h:SlAt E w S A l) (hs:0<E.size) (hE:∀ {cs x},E.rd w S cs x→E.rd w (CS w S) cs x):SlAt E w (CS w S) A l:=fun hn=>by
 obtain⟨b,off,e,hb,hc⟩:=h hn
 refine⟨b,off,e,⟨hb, ?_⟩,fun i x hx => ?_⟩
 ·obtain⟨x,hx⟩:∃ x,l[0]? = some x:=⟨l[0]'(List.length_pos_iff.2 hn),List.getElem?_eq_getElem _⟩
  obtain⟨cs,h1,h2⟩:=hc 0 x hx
  have hl:=E.len h2
  have h3:=h1 0 (cs[0]'(by omega)) (List.getElem?_eq_getElem _)
  unfold World.cell? at h3
  cases ho:w.heap[b]? with
  | none=>simp [ho] at h3
  | some o =>
    cases o with
    | cells cs T fr=>exact⟨cs,T,fr,rfl⟩
    | _=>simp [ho] at h3
 ·obtain⟨cs,h1,h2⟩:=hc i x hx
  exact⟨cs,h1,hE h2⟩
theorem img_onCells {w:World} {S:Nat→Prop} {A:Option Addr} {im:Img} (h:SlAt (encSl encSec) w S A im):SlAt (encSl encSec) w (CS w S) A im :=
 h.onCells (by decide) (fun {cs x} ⟨A,c,h1,h2,h3,h4⟩=>⟨A,c,h1,h2,h3,h4.onCells (by decide) (fun h=>h)⟩)
theorem errOf_all36 {α:Type} {f:α→Int} {l:List α} (h:∀ x∈l,f x=0):errOf f l=0:=by
 unfold errOf
 rw [List.find?_eq_none.2 (fun x hx=>by simp [h x hx])]
 rfl
theorem applyErr_zero {im:Img} {l:List Wr} (h1:sizesN (lens im)=0) (h2:∀ x∈l,fitsN (lens im) x=0):applyErr im l=0:=by
 unfold applyErr
 rw [if_neg (by simp [h1])]
 exact errOf_all36 h2
def runI (im:Img) (L:List Snp) (pre:List (IdxN L.length)):Img:=pre.foldl (fun im x=>putAll im (L[x.1]'x.2).2.2) im
theorem runI_snoc (im:Img) (L:List Snp) (pre:List (IdxN L.length)) (x:IdxN L.length):runI im L (pre++[x])=putAll (runI im L pre) (L[x.1]'x.2).2.2:=by simp [runI]
theorem runI_lens {im:Img} {L:List Snp} (h:∀ x∈L,∀ y∈x.2.2,fitsN (lens im) y=0) (pre:List (IdxN L.length)):lens (runI im L pre)=lens im:=by
 induction pre using snocRec with
 | h0=>rfl
 | h1 l x ih =>
   rw [runI_snoc,putAll_lens (fun y hy=>by rw [ih];exact h _ (List.getElem_mem x.2) y hy),ih]
theorem runI_all {im:Img} {L:List Snp} {ys:List (IdxN L.length)} (h:ys.map (·.1)=bk L.length 0):runI im L ys=atL im L:=by
 have h1:runI im L ys=(ys.map (·.1)).foldl (fun im j=>putAll im (L.getD j (0,0,[])).2.2) im:=by
  unfold runI
  rw [List.foldl_map]
  congr 1
  funext im x
  rw [List.getD_eq_getElem?_getD,List.getElem?_eq_getElem x.2];rfl
 have h2:atL im L=((List.range' 0 L.length).reverse).foldl (fun im j=>putAll im (L.getD j (0,0,[])).2.2) im:=by
  unfold atL
  have:L.reverse=((List.range' 0 L.length).reverse).map (fun j=>L.getD j (0,0,[])):=by
   rw [List.map_reverse]
   congr 1
   apply List.ext_getElem
   ·simp
   ·intro i h1 h2
    simp [List.getElem?_eq_getElem h1]
  rw [this,List.foldl_map]
 rw [h1,h2,h,bk]
 rfl
theorem CS.turn {w w':World} {S:Nat→Prop} {row:Option Nat} {A:Option Addr} {im:Img} {B:Nat} (h:SlAt (encSl encSec) w (CS w S) A im) (hg:w.grownBy w' row) (hr:∀ r,row=some r→B≤r∧∃ o:Obj,w.heap[r]? = some o∧(o.isCells=false∨ItObj (fun _=>False) o)):SlAt (encSl encSec) w' (CS w' S) A im:=by
 have hk:∀ b,CS w S b→w'.heap[b]? = w.heap[b]? := fun b ⟨_,cs,T,fr,hb⟩=>(heap_ownT hg hr hb).trans hb.symm
 exact (h.blk hk).more (fun b hb=>⟨hb.1,by
  obtain⟨cs,T,fr,e⟩:=hb.2
  exact⟨cs,T,fr,(hk b hb).trans e⟩⟩)
def AtI (im:Img) (L:List Snp) (ib n0 hz:Nat) (w:World) (pre:List (IdxN L.length)) (V:World):Prop :=
 (∃ B vc,V.heap[ib]? = some (.cells #[.slice B im.length vc] 23 (0,0))∧im.length≤vc∧vc≤maxLen∧SlAt (encSl encSec) V (CS V (fun g=>n0+3≤g∧g≠ib)) B (runI im L pre)) ∧
 V.heap[n0+1]? = some (.cells #[.slice none 0 0] 23 (0,0))∧V.heap[n0+1+1]? = some (.cells #[.int .i64 0] 32 (0,0))∧Below n0 w V∧hz≤V.heap.size
theorem AtI.own {im:Img} {L:List Snp} {ib n0 hz:Nat} {w:World} {B:Nat} (hB:n0≤B) (hw:n0≤w.heap.size):OwnT (fun _=>False) B (AtI im L ib n0 hz w):=fun s X Y row h hg hr=>by
 obtain⟨⟨B',vc,h1,h2,h3,h4⟩,h5,h6,h7,h8⟩:=h
 exact⟨⟨B',vc,heap_ownT hg hr h1,h2,h3,CS.turn h4 hg hr⟩,heap_ownT hg hr h5,heap_ownT hg hr h6,h7.grown hg (Nat.le_trans hw h7.size) (fun k e=>Nat.le_trans hB (hr k e).1),Nat.le_trans h8 hg.size⟩
theorem KpT.ofBelow {own:TypeId→Prop} {n₀:Nat} {W W':World} (h:Below W.heap.size W W') (hn:n₀≤W.heap.size):KpT own n₀ W W':=⟨h.mono hn,h.size,fun i cs T fr hi _=>h.block i (Array.getElem?_eq_some_iff.1 hi).1⟩
theorem keepsFrom_below {B:Nat} {W W':World} (h:Below W.heap.size W W'):KeepsFrom B W W':=⟨h.size,fun k o _ hk _=>(h.block k (Array.getElem?_eq_some_iff.1 hk).1).trans hk⟩
theorem AtI.step {im:Img} {L:List Snp} {ib n0 hz:Nat} {w V w2:World} {pre:List (IdxN L.length)} {x:IdxN L.length} (h:AtI im L ib n0 hz w pre V) (hb:Below V.heap.size V w2) {A4:Option Addr} {c4:Nat} (h1:im.length≤c4) (h2:c4≤maxLen) (h3:SlAt (encSl encSec) w2 (Nw V.heap.size w2.heap.size) A4 (runI im L (pre++[x]))) (hib:n0+1+1<ib) (hz0:hz≤V.heap.size) :
  KeepsFrom hz V (w2.setCell ⟨ib,0,none⟩ (.slice A4 im.length c4))∧KpT bkOwn n0 V (w2.setCell ⟨ib,0,none⟩ (.slice A4 im.length c4))∧AtI im L ib n0 hz w (pre++[x]) (w2.setCell ⟨ib,0,none⟩ (.slice A4 im.length c4)):=by
 obtain⟨⟨B',vc,k1,k2,k3,k4⟩,k5,k6,k7,k8⟩:=h
 have hlt:=(Array.getElem?_eq_some_iff.1 k1).1
 have hz2:=hb.size
 have r1:=(hb.block ib hlt).trans k1
 have r5:=(hb.block _ (Array.getElem?_eq_some_iff.1 k5).1).trans k5
 have r6:=(hb.block _ (Array.getElem?_eq_some_iff.1 k6).1).trans k6
 have hbx:Boxed w2 ib 23 (.slice B' im.length vc):=r1
 have hn0:n0≤V.heap.size:=by omega
 refine⟨(keepsFrom_below hb).trans ((KeepsOthers.setCell _ _ _).from _),KpT.trans (KpT.ofBelow hb hn0) (KpT.grown (grownBy_setCell' w2 ib _) (by omega) (fun k e => ?_)),⟨A4,c4,hbx.set _,h1,h2, ?_⟩,(Below.heap_setCell _ _ _ _ (by show n0+1≠ib;omega)).trans r5,(Below.heap_setCell _ _ _ _ (by show n0+1+1≠ib;omega)).trans r6,(k7.trans (hb.mono hn0)).setCell (p:=⟨ib,0,none⟩) (by show n0≤ib;omega) _,by simp [World.setCell];omega⟩
 ·injection e with e
  subst e
  exact⟨by omega,_,_,_,r1,by unfold bkOwn;decide⟩
 ·exact (img_onCells (h3.blk (w':=w2.setCell ⟨ib,0,none⟩ (.slice A4 im.length c4)) (fun g hg=>Below.heap_setCell _ _ _ _ (by have:=hg.1;show g≠ib;omega)))).more (fun g hg=>⟨⟨by have:=hg.1.1;omega,by have:=hg.1.1;omega⟩,hg.2⟩)
theorem fieldCurrent (a b:Value) (w:World):(Instr.field 26 (.agg #[a,b]) 0).run Tryz.prog w = .ok a w:=by kernel_rfl
set_option maxRecDepth 100000 in
set_option maxHeartbeats 4000000 in
theorem at_any (A A2:Option Addr) (c c2 n m k:Nat) (im:Img) (l:List Snp) (w:World) (hn:im.length=n) (hm:l.length=m) (h1:SlAt (encSl encSec) w (Bl w.heap.size) A im) (h2:SlAt encSnp w (Bl w.heap.size) A2 l) (hL:SnLim im l) (hk:k<m) (hc2:m≤c2) (hsz:sizesN (lens im)=0) (hfit:∀ x∈l,∀ y∈x.2.2,fitsN (lens im) y=0) (r:Img) (hr:atL im (l.drop k)=r) :
  Calls Tryz.prog 92 #[.agg #[.slice A n c,.slice A2 m c2],.int .i64 k] w fun e w'=>∃ B vc,e = .returned (.tuple #[.slice B n vc,.int .i64 0])∧n≤vc∧vc≤maxLen∧r.length=n∧SlAt (encSl encSec) w' (Nw w.heap.size w'.heap.size) B r∧Below w.heap.size w w':=by
 subst hn hm
 obtain⟨n0,hn0⟩:∃ n0,w.heap.size=n0:=⟨_,rfl⟩
 have H1:Hid (∀ w',Below w.heap.size w w'→SlAt (encSl encSec) w' (Bl w.heap.size) A im):=fun w' hb=>h1.below hb
 have H2:Hid (∀ w',Below w.heap.size w w'→SlAt encSnp w' (Bl w.heap.size) A2 l):=fun w' hb=>h2.below hb
 obtain⟨b,off,rfl,hbS⟩:=h2.some_ (by intro h;rw [h] at hk;cases hk)
 have HLs:=Lib.hid (SlAt.drop (k:=k) h2)
 have HL:=Lib.hid hL;have HR:=Lib.hid hr;have HFIT:=Lib.hid hfit;have HSZ:=Lib.hid hsz
 have hl1:=hL.ims
 have hl2:=hL.its
 obtain⟨L,hLd⟩:∃ L,Hid (l.drop k=L):=⟨_,rfl⟩
 have hLl:Hid (l.length=k+L.length):=by rw [← hLd.out,Hid,List.length_drop];omega
 rw [hLd.out] at HLs HR
 obtain⟨f,hf1,hf2⟩:=HLs.out.snps
 have HF1:=Lib.hid hf1;have HF2:=Lib.hid hf2
 clear h1 h2 hL hr hfit hsz hf1 hf2 HLs hbS
 obtain⟨N,hN⟩:∃ N:Nat,12≤N:=⟨12,Nat.le_refl _⟩
 obtain⟨W0,hW0⟩:∃ W0,((w.alloc (.cells #[.slice A im.length c,.slice (some ⟨b,off,none⟩) l.length c2] 26)).alloc (.cells #[.slice none 0 0] 23)).alloc (.cells #[.int .i64 0] 32)=W0:=⟨_,rfl⟩
 have hB0:Below n0 w W0:=by rw [← hW0, ← hn0];exact ext_alloc (ext_alloc (ext_alloc (Below.refl _ _)))
 have hs0:W0.heap.size=n0+3:=by rw [← hW0, ← hn0];simp
 have hr0:W0.heap[n0]? = some (.cells #[.slice A im.length c,.slice (some ⟨b,off,none⟩) l.length c2] 26 (0,0)):=by
  rw [← hW0, ← hn0];exact (Below.heap_alloc _ _ _ (by simp;omega)).trans ((Below.heap_alloc _ _ _ (by simp)).trans (heap_alloc_new _ _))
 have hr1:W0.heap[n0+1]? = some (.cells #[.slice none 0 0] 23 (0,0)):=by
  rw [← hW0, ← hn0]
  have h:=heap_alloc_new (w.alloc (.cells #[.slice A im.length c,.slice (some ⟨b,off,none⟩) l.length c2] 26)) (.cells #[.slice none 0 0] 23)
  simp only [World.size_alloc] at h
  exact (Below.heap_alloc _ _ _ (by simp)).trans h
 have hr2:W0.heap[n0+1+1]? = some (.cells #[.int .i64 0] 32 (0,0)):=by
  rw [← hW0, ← hn0]
  have h:=heap_alloc_new ((w.alloc (.cells #[.slice A im.length c,.slice (some ⟨b,off,none⟩) l.length c2] 26)).alloc (.cells #[.slice none 0 0] 23)) (.cells #[.int .i64 0] 32)
  simp only [World.size_alloc] at h
  exact h
 obtain⟨p0,p1,_⟩:=blk2 hr0
 have HR0:=Lib.hid hr0;have HR1:=Lib.hid hr1;have HR2:=Lib.hid hr2
 clear hr0 hr1 hr2
 refine (callsIn_wide (n:=N)).1 ?_
 refine callsIn_of_wp_marks Tryz.func92 rfl trivial ?_ rfl
 simp only [Tryz.ntmps92,List.size_toArray,List.length_cons,List.length_nil,Nat.reduceAdd,Nat.reduceSub,Array.replicate_succ,Array.replicate_zero,List.push_toArray,List.append_toArray,List.nil_append,List.cons_append]
 gi_wp2_with fail
 refine⟨trivial,fun _=>by omega,CallsIn.mono (callsIn_wide.2 (copied36_any A (some ⟨b,off,none⟩) c c2 im.length l.length im l W0 rfl rfl ((H1.out W0 (by rw [hn0];exact hB0)).more (fun g hg=>by have:g<w.heap.size:=hg;show g<W0.heap.size;omega)) ((H2.out W0 (by rw [hn0];exact hB0)).more (fun g hg=>by have:g<w.heap.size:=hg;show g<W0.heap.size;omega)) HL.out)) ?_⟩
 rintro e w1 ⟨B,vc,D,dc,mid,rfl,⟨q1,q2,q3,q4,q5,_⟩,hb1⟩
 clear p0 p1
 have hz1:=hb1.size
 obtain⟨ib,hib⟩:∃ ib,w1.heap.size=ib:=⟨_,rfl⟩
 obtain⟨W2,hW2⟩:∃ W2,w1.alloc (.cells #[.slice B im.length vc] 23)=W2:=⟨_,rfl⟩
 have hb2:Below w1.heap.size w1 W2:=by rw [← hW2];exact ext_alloc (Below.refl _ _)
 have hri:W2.heap[ib]? = some (.cells #[.slice B im.length vc] 23 (0,0)):=by rw [← hW2, ← hib];exact heap_alloc_new _ _
 have hs2:W2.heap.size=ib+1:=by rw [← hW2, ← hib];simp
 have hb02:Below W0.heap.size W0 W2:=ext_trans hb1 hb2
 have hbw2:Below n0 w W2:=hB0.trans (hb02.mono (by omega))
 obtain⟨p0,p1,_⟩:=blk2 ((hb02.block n0 (by omega)).trans HR0.out)
 have HQ:=Lib.hid (q5.blk (w':=W2) (fun g hg=>hb2.block g (by have:=hg.2;omega)))
 have hvc:Hid (im.length≤vc∧vc≤maxLen):=⟨q1,q2⟩
 have HRI:=Lib.hid hri
 clear q1 q2 q5 hri
 have hfd:=fieldCurrent
 gi_wp2_with fail
 refine⟨trivial,fun _=>by omega,CallsIn.mono (callsIn_wide.2 (back_any A (some ⟨b,off,none⟩) im.length c l.length c2 k W2)) ?_⟩
 rintro e w3 ⟨rfl,rfl⟩
 obtain⟨W3,hW3⟩:∃ W3,(W2.alloc (.cells #[.slice A im.length c,.slice (some ⟨b,off,none⟩) l.length c2] 26)).alloc (.cells #[.int .i64 k] 3)=W3:=⟨_,rfl⟩
 have hb3:Below W2.heap.size W2 W3:=by rw [← hW3];exact ext_alloc (ext_alloc (Below.refl _ _))
 have hrs:W3.heap[W2.heap.size]? = some (.cells #[.slice A im.length c,.slice (some ⟨b,off,none⟩) l.length c2] 26 (0,0)):=by rw [← hW3];exact (Below.heap_alloc _ _ _ (by simp)).trans (heap_alloc_new _ _)
 have hrk:W3.heap[W2.heap.size+1]? = some (.cells #[.int .i64 k] 3 (0,0)):=by
  rw [← hW3]
  have h:=heap_alloc_new (W2.alloc (.cells #[.slice A im.length c,.slice (some ⟨b,off,none⟩) l.length c2] 26)) (.cells #[.int .i64 k] 3)
  simp only [World.size_alloc] at h
  exact h
 have hs3:W2.heap.size<W3.heap.size:=(Array.getElem?_eq_some_iff.1 hrs).1
 have hbw3:Below n0 w W3:=hbw2.trans (hb3.mono (by omega))
 have hI0:Hid (AtI im L ib n0 W3.heap.size w [] W3):=by
  refine⟨⟨B,vc,(hb3.block ib (by omega)).trans HRI.out,hvc.out.1,hvc.out.2, ?_⟩,(hb3.block _ (by omega)).trans ((hb02.block _ (by omega)).trans HR1.out),(hb3.block _ (by omega)).trans ((hb02.block _ (by omega)).trans HR2.out),hbw3,Nat.le_refl _⟩
  exact (img_onCells (HQ.out.blk (w':=W3) (fun g hg=>hb3.block g (by have:=hg.2;omega)))).more (fun g hg=>⟨⟨by have:=hg.1.1;omega,by have:=hg.1.2;omega⟩,hg.2⟩)
 have hstops:=back1_stops (N - 1) (by omega) W2.heap.size (W2.heap.size+1) n0 c im.length l.length c2 A b off k L f (by omega) hLl.out hk hc2 W3 hrs hrk (by omega) ((by have h:=HF1.out;rw [hn0] at h;exact h:SnsAt L f (some ⟨b,off+k * 3,none⟩) w n0).below hbw3)
 clear p0 p1 hrs hrk
 rw [hs2] at hstops
 gi_wp2
 try rw [hW3]
 clear hW3 hW2
 refine wpIn_rangeFunc_ownU (own:=fun _=>False) rfl (by omega) (gf:=160) (lb := #[.pointer (some ⟨ib+1,0,none⟩),.pointer (some ⟨ib+1+1,0,none⟩)]) rfl trivial (enters_of Tryz.func160 (by kernel_rfl) rfl) hstops (fun h k=>KpT.trans h k) (fun V l' o o' hl h ho _=>KpT.putObj V l' o o' (by omega) h ho (by have:=(Array.getElem?_eq_some_iff.1 h).1;omega)) (Below.refl _ _) (fun _=>rfl)
  (fun pre V=>AtI im L ib n0 W3.heap.size w pre V)
  (fun _ _ _=>False)
  (AtI.own (by omega) (by omega))
  (fun c s A B row hs hg hr=>hs)
  hI0.out
  (fun x a' V=>∃ Bx,W3.heap.size≤Bx∧V.heap[Bx]? = some (.cells #[.int .i64 (L[x.1]'x.2).1,.int .i64 (L[x.1]'x.2).2.1,.slice (f x.1).1 (L[x.1]'x.2).2.2.length (f x.1).2] 158 (0,0))∧a'={ tmps := #[.agg #[.slice A im.length c,.slice (some ⟨b,off,none⟩) l.length c2],.int .i64 k,.pointer (some ⟨n0,0,none⟩),undef,.pointer (some ⟨n0+1,0,none⟩),.pointer (some ⟨n0+1+1,0,none⟩),.pointer (some ⟨ib,0,none⟩),.pointer (some ⟨Bx,0,none⟩),undef,undef,undef,.agg #[.slice A im.length c,.slice (some ⟨b,off,none⟩) l.length c2],.agg #[.slice B im.length vc,.slice D l.length dc],.slice B im.length vc,.agg #[.slice A im.length c,.slice (some ⟨b,off,none⟩) l.length c2],.int .i64 k,.func (.func 160) #[] #[.pointer (some ⟨ib+1,0,none⟩),.pointer (some ⟨ib+1+1,0,none⟩)],.agg #[.int .i64 (L[x.1]'x.2).1,.int .i64 (L[x.1]'x.2).2.1,.slice (f x.1).1 (L[x.1]'x.2).2.2.length (f x.1).2],undef,undef,undef,undef,undef,undef,undef,undef,undef,undef,undef,undef,undef],defers:=[] }) ?hAx ?assign ?body ?done ?stop
 case hAx =>
  rintro x a' s X Y row ⟨Bx,hb,hh,he⟩ hg hr
  refine⟨Bx,hb,(hg.block Bx (Array.getElem?_eq_some_iff.1 hh).1 (fun e => ?_)).trans hh,he⟩
  obtain⟨_,o',h1,h2⟩:=hr Bx e.symm
  rw [hh] at h1;cases h1;cases h2
 case assign =>
  rintro r' pre x V K hI hK
  have hz:=hI.2.2.2.2
  have HI:=Lib.hid hI
  clear hI
  simp only [snOne]
  gi_wp2
  exact hK _ _ ((KeepsOthers.alloc _ _).from _) (KpT.alloc _ _ (by omega)) ((AtI.own (B:=W3.heap.size) (by omega) (by omega)).alloc _ HI.out) ⟨V.heap.size,hz,heap_alloc_new _ _,rfl⟩
 case body =>
  rintro r' pre x a' V hr2 _ hI ⟨Bx,hBx,hbx,rfl⟩ hlen2
  have hz:=hI.2.2.2.2
  have hbV:=hI.2.2.2.1
  have HI:=Lib.hid hI
  obtain⟨⟨B',vc',i1,i2,i3,i4⟩,_⟩:=hI
  have t2:=cell_of_row _ _ 2 _ _ _ hbx
  have y0:=cell_of_row _ _ 0 _ _ _ i1
  have yf:∀ j,V.frozen? ⟨ib,j,none⟩=false:=fun j=>by simp [World.frozen?,i1]
  obtain⟨d1,d2,d3,d4,d5⟩:=HF2.out x.1 x.2
  have hmem:Hid (L[x.1]'x.2∈l):=by have h:=hLd.out;subst h;exact List.mem_of_mem_drop (List.getElem_mem x.2)
  have hsv:=HL.out.sav _ hmem.out
  have hln:Hid (lens (runI im L pre)=lens im):=runI_lens (fun y hy=>HFIT.out y (by rw [← hLd.out] at hy;exact List.mem_of_mem_drop hy)) pre
  have hae:Hid (applyErr (runI im L pre) (L[x.1]'x.2).2.2=0):=applyErr_zero (by rw [hln.out];exact HSZ.out) (by rw [hln.out];exact HFIT.out _ hmem.out)
  have hal:Hid (applyL (runI im L pre) (L[x.1]'x.2).2.2=runI im L (pre++[x])):=by rw [Hid,runI_snoc,applyL,if_pos hae.out]
  have hll:Hid ((runI im L pre).length=im.length):=by have h:=congrArg List.length hln.out;rwa [lens_len,lens_len] at h
  have hll2:Hid ((runI im L (pre++[x])).length=im.length):=by rw [Hid,runI_snoc,putAll_length];exact hll.out
  have HAP:=Lib.hid (apply_any B' (f x.1).1 vc' (f x.1).2 (runI im L pre) (L[x.1]'x.2).2.2 V (i4.more (fun g hg=>by obtain⟨cs,T,fr,e⟩:=hg.2;exact (Array.getElem?_eq_some_iff.1 e).1)) (by rw [hll.out];omega) ((d1.below (by rw [hn0];exact hbV)).more (fun g hg=>by have:g<w.heap.size:=hg;show g<V.heap.size;omega)) (by have:=hsv.1;omega))
  rw [hae.out,hal.out,hll.out] at HAP
  clear i4 i1 hbx d1
  gi_wp2_with fail
  refine⟨trivial,fun _=>by omega,CallsIn.mono (CallsIn.inRound r' (callsIn_wide.2 HAP.out)) ?_⟩
  rintro e w4 ⟨A4,c4,ix,rfl,a1,a2,a3,hb4⟩
  rw [hll2.out] at a1 ⊢
  have hst:=Lib.hid (HI.out.step (x:=x) hb4 a1 a2 a3 (by omega) hz)
  have j1:=(World.cell?_of_block (a:=⟨ib,0,none⟩) (hb4.block ib (by omega))).trans y0
  have j2:w4.frozen? ⟨ib,0,none⟩=false:=(World.frozen?_of_block (a:=⟨ib,0,none⟩) (hb4.block ib (by omega))).trans (yf 0)
  clear y0 yf t2 HAP a3
  gi_wp2
  exact hst.out
 case done =>
  rintro D' ys V hD hS hI hK
  have hz:=hI.2.2.2.2
  have hbV:=hI.2.2.2.1
  obtain⟨⟨B',vc',i1,i2,i3,i4⟩,i5,i6,_⟩:=hI
  have hra:Hid (runI im L ys=r):=(runI_all hS.out).trans HR.out
  rw [hra.out] at i4
  have HK:=Lib.hid hK
  have y0:=cell_of_row _ _ 0 _ _ _ i1
  have y1:=cell_of_row _ _ 0 _ _ _ i5
  have y2:=cell_of_row _ _ 0 _ _ _ i6
  have f1:∀ j,V.frozen? ⟨n0+1,j,none⟩=false:=fun j=>by simp [World.frozen?,i5]
  have f2:∀ j,V.frozen? ⟨n0+1+1,j,none⟩=false:=fun j=>by simp [World.frozen?,i6]
  have hset:Hid (∃ V2,(V.setCell ⟨n0+1,0,none⟩ (.slice B' im.length vc')).setCell ⟨n0+1+1,0,none⟩ (.int .i64 0)=V2∧V2.heap[n0+1]? = some (.cells #[.slice B' im.length vc'] 23 (0,0))∧V2.heap[n0+1+1]? = some (.cells #[.int .i64 0] 32 (0,0))∧KeepsOthers V V2∧Below n0 w V2∧SlAt (encSl encSec) V2 (Nw w.heap.size V2.heap.size) B' r):=by
   refine⟨_,rfl, ?_, ?_,(KeepsOthers.setCell _ _ _).trans (KeepsOthers.setCell _ _ _),(hbV.setCell (p:=⟨n0+1,0,none⟩) (by show n0≤n0+1;omega) _).setCell (p:=⟨n0+1+1,0,none⟩) (by show n0≤n0+1+1;omega) _, ?_⟩
   ·have hb5:Boxed V (n0+1) 23 (.slice none 0 0):=i5
    exact (Below.heap_setCell _ _ _ _ (by show n0+1≠n0+1+1;omega)).trans (hb5.set _)
   ·have hb6:Boxed (V.setCell ⟨n0+1,0,none⟩ (.slice B' im.length vc')) (n0+1+1) 32 (.int .i64 0):=(Below.heap_setCell _ _ _ _ (by show n0+1+1≠n0+1;omega)).trans i6
    exact hb6.set _
   ·refine (i4.blk (fun g hg => ?_)).more (fun g hg => ?_)
    ·exact (Below.heap_setCell _ _ _ _ (by have:=hg.1.1;show g≠n0+1+1;omega)).trans (Below.heap_setCell _ _ _ _ (by have:=hg.1.1;show g≠n0+1;omega))
    ·obtain⟨⟨g1,g2⟩,cs,T,fr,e⟩:=hg
     have:=(Array.getElem?_eq_some_iff.1 e).1
     exact⟨by omega,by simp [World.setCell];omega⟩
  have hrl:Hid (r.length=im.length):=by
   rw [← hra.out]
   have h:=congrArg List.length (runI_lens (im:=im) (fun y hy=>HFIT.out y (by rw [← hLd.out] at hy;exact List.mem_of_mem_drop hy)) ys)
   rwa [lens_len,lens_len] at h
  clear i1 hK i4
  gi_wp2
  obtain⟨V2,hV2,v1,v2,v3,v4,v5⟩:=hset.out
  rw [hV2]
  have hK2:=v3.same _ _ HK.out rfl
  refine⟨by simp,.inl ⟨_,_,rfl,run_takeDeferred hK2, ?_⟩⟩
  have z0:=cell_of_row _ _ 0 _ _ _ (lkRes (o' := .deferred none) hK2 rfl v1)
  have z1:=cell_of_row _ _ 0 _ _ _ (lkRes (o' := .deferred none) hK2 rfl v2)
  refine⟨.tuple #[.slice B' im.length vc',.int .i64 0], ?_, ?_⟩
  ·simp [results,Tryz.results92,Tryz.f92,go_sem,z0,z1]
  ·refine⟨B',vc',rfl,i2,i3,hrl.out, ?_, ?_⟩
   ·refine (CS.turn (B:=0) (img_onCells v5) (grownBy_putObj' V2 D' (.deferred none)) (fun k e=>by cases e;exact⟨Nat.zero_le _,_,hK2,.inl rfl⟩)).more (fun g hg=>⟨hg.1.1,Nat.lt_of_lt_of_le hg.1.2 (grownBy_putObj' V2 D' (.deferred none)).size⟩)
   ·rw [hn0]
    exact v4.grown (grownBy_putObj' V2 D' (.deferred none)) (by have:=v4.size;omega) (fun k e=>by cases e;omega)
 case stop =>
  rintro D' c' pre V hD hS hI hK
  exact hI.elim
end Go.Proofs.YtgndgkjefgjamaaGreat

namespace Go.Proofs.YtgndgkjefgjamaaGreat
open Go.RowKit Go.Shelf
attribute [local go_sem] Oper.semAt_some

theorem snpsE_all {sz:List Int}:∀ {l:List Snp} {a b:Int},snpsE sz a b l=0→∀ x∈l,chkS x.2.2 sz=0
 | [],_,_,_=>fun x hx=>by cases hx
 | y :: l,a,b,h=>by
   have h1:snpE sz a b y=0:=by
    by_cases h1:snpE sz a b y=0
    ·exact h1
    ·simp [snpsE,h1] at h
   have h2:snpsE sz y.1 y.2.1 l=0:=by simpa [snpsE,h1] using h
   intro x hx
   rcases List.mem_cons.1 hx with rfl | hx
   ·unfold snpE at h1
    split at h1
    ·cases h1
    ·split at h1
     ·cases h1
     ·split at h1
      ·cases h1
      ·exact h1
   ·exact snpsE_all h2 x hx
theorem snE_ok {im:Img} {l:List Snp} (h:snE (im,l)=0):sizesN (lens im)=0∧∀ x∈l,∀ y∈x.2.2,fitsN (lens im) y=0:=by
 unfold snE at h
 by_cases h1:sizesN (lens im)=0
 ·rw [if_neg (by simp [h1])] at h
  split at h
  ·cases h
  ·refine⟨h1,fun x hx y hy => ?_⟩
   have h2:=snpsE_all h x hx
   unfold chkS at h2
   rw [if_neg (by simp [h1])] at h2
   exact chk_all h2 y hy
 ·rw [if_pos h1] at h;exact absurd h h1
theorem findE_ok {im:Img} {l:List Snp} {num:Int} (h:findE (im,l) num=0):snE (im,l)=0∧findN (im,l) num<l.length:=by
 have h0:=h
 unfold findE at h
 by_cases h1:snE (im,l)=0
 ·rw [if_neg (by simp [h1])] at h
  refine⟨h1, ?_⟩
  unfold findN
  rw [if_pos h0]
  cases hq:findI l num with
  | none=>simp [hq] at h
  | some k =>
    unfold findI at hq
    have:=(List.findIdx?_eq_some_iff_getElem.1 hq).1
    simpa using this
 ·rw [if_pos h1] at h;exact absurd h h1
set_option maxRecDepth 100000 in
set_option maxHeartbeats 4000000 in
theorem snImage_any (A A2:Option Addr) (c c2 n m:Nat) (im:Img) (l:List Snp) (num:Int) (w:World) (hn:im.length=n) (hm:l.length=m) (h1:SlAt (encSl encSec) w (Bl w.heap.size) A im) (h2:SlAt encSnp w (Bl w.heap.size) A2 l) (hL:SnLim im l) (hc2:m≤c2) (r:Img) (hr:sImage (im,l) num=r) (en:Int) (he:findE (im,l) num=en) :
  Calls Tryz.prog 38 #[.agg #[.slice A n c,.slice A2 m c2],.int .i64 num] w fun e w'=>∃ B vc,e = .returned (.tuple #[.slice B r.length vc,.int .i64 en])∧r.length≤vc∧vc≤maxLen∧SlAt (encSl encSec) w' (Nw w.heap.size w'.heap.size) B r∧Below w.heap.size w w':=by
 subst hn hm
 have H1:Hid (∀ w',Below w.heap.size w w'→SlAt (encSl encSec) w' (Bl w.heap.size) A im):=fun w' hb=>h1.below hb
 have H2:Hid (∀ w',Below w.heap.size w w'→SlAt encSnp w' (Bl w.heap.size) A2 l):=fun w' hb=>h2.below hb
 have HL:=Lib.hid hL;have HR:=Lib.hid hr;have HE:=Lib.hid he
 have hl1:=hL.ims
 have hl2:=hL.its
 clear h1 h2 hL hr he
 obtain⟨n0,hn0⟩:∃ n0,w.heap.size=n0:=⟨_,rfl⟩
 obtain⟨W0,hW0⟩:∃ W0,w.alloc (.cells #[.slice A im.length c,.slice A2 l.length c2] 26)=W0:=⟨_,rfl⟩
 have hB0:Below n0 w W0:=by rw [← hW0, ← hn0];exact ext_alloc (Below.refl _ _)
 have hr0:W0.heap[n0]? = some (.cells #[.slice A im.length c,.slice A2 l.length c2] 26 (0,0)):=by rw [← hW0, ← hn0];exact heap_alloc_new _ _
 have hs0:n0<W0.heap.size:=(Array.getElem?_eq_some_iff.1 hr0).1
 have hBL:Hid (∀ (W:World),Below n0 w W→∀ g,Bl w.heap.size g→Bl W.heap.size g):=fun W hb g hg=>by have h:=hb.size;have:g<w.heap.size:=hg;show g<W.heap.size;omega
 have HF:=Lib.hid (snFind_any A A2 c c2 im.length l.length im l num W0 rfl rfl ((H1.out W0 (by rw [hn0];exact hB0)).more (hBL.out W0 hB0)) ((H2.out W0 (by rw [hn0];exact hB0)).more (hBL.out W0 hB0)) hl1 (by omega))
 rw [HE.out] at HF
 obtain⟨p0,p1,_⟩:=blk2 hr0
 go_enter Tryz.func38,Tryz.ntmps38
 go_wp2_with fail
 refine HF.out.mono ?_
 rintro e w1 ⟨rfl,hb1⟩
 have hbw1:Below n0 w w1:=hB0.trans (hb1.mono (by omega))
 have hz1:=hb1.size
 obtain⟨k,hk⟩:∃ k,Hid (findN (im,l) num=k):=⟨_,rfl⟩
 rw [hk.out]
 by_cases hx0:en=0
 ·have hx0':(en != 0)=false:=by simp [hx0]
  have hEZ:Hid (findE (im,l) num=0):=by rw [Hid,HE.out,hx0]
  obtain⟨e1,e2⟩:=findE_ok hEZ.out
  obtain⟨e3,e4⟩:=snE_ok e1
  rw [hk.out] at e2
  have hrr:Hid (atL im (l.drop k)=r):=by rw [Hid, ← HR.out,sImage,if_pos hEZ.out,hk.out]
  have HAT:=Lib.hid (at_any A A2 c c2 im.length l.length k im l w1 rfl rfl ((H1.out w1 (by rw [hn0];exact hbw1)).more (hBL.out w1 hbw1)) ((H2.out w1 (by rw [hn0];exact hbw1)).more (hBL.out w1 hbw1)) HL.out e2 hc2 e3 e4 r hrr.out)
  obtain⟨q0,q1,_⟩:=blk2 ((hb1.block n0 hs0).trans hr0)
  subst hx0
  clear p0 p1 e3 e4 HF e1
  go_wp2_with fail
  refine HAT.out.mono ?_
  rintro e w2 ⟨B,vc,rfl,a1,a2,a3,a4,hb2⟩
  have HA4:=Lib.hid a4
  have ha3:=Lib.hid a3
  clear a4 a3 q0 q1 HAT
  go_wp2
  go_ret2
  rw [← ha3.out] at a1 ⊢
  exact⟨B,vc,rfl,a1,a2,HA4.out.more (fun g hg=>⟨by have:=hg.1;omega,hg.2⟩),by rw [hn0];exact hbw1.trans (hb2.mono (by omega))⟩
 ·have hx0':(en != 0)=true:=by simp [hx0]
  have hrr:Hid (r=[]):=by rw [Hid, ← HR.out,sImage,if_neg (by rw [HE.out];exact hx0)]
  clear hx0 p0 p1 HF
  go_wp2_with fail
  go_ret2
  rw [hrr.out]
  exact⟨none,0,rfl,by simp,by simp,SlAt.nil_,by rw [hn0];exact hbw1⟩
end Go.Proofs.YtgndgkjefgjamaaGreat
namespace Go.Proofs.YtgndgkjefgjamaaGreat
open Go.RowKit Go.Shelf
attribute [local go_sem] Oper.semAt_some

def BlX (X:Nat) (w w':World):Prop:=(∀ g,g<w.heap.size→g≠X→w'.heap[g]? = w.heap[g]?)∧w'.heap.size=w.heap.size
theorem OwnX.noX2 {α:Type} {X:Nat→Prop} {E:Enc α} {w:World} {lo:Nat} {T:TypeId} {v:Value} {l:List α} (h:OwnX X E w lo T v l):OwnX (fun _=>False) E w lo T v l :=
 ⟨h.1.more (fun g hg=>⟨hg.1,fun hf=>hf,hg.2.2⟩) (fun g hg hS=>hS.2.2 hg),fun g _ hf=>hf⟩
def RetFind (s:Sns) (l:List Cln) (nm:ByteArray) (w:World) (e:Ending) (w':World):Prop :=
 (∃ q,q≠0∧cfE (s,l) nm=q∧e = .returned (.tuple #[.agg #[.slice none 0 0,.slice none 0 0,.slice none 0 0],.pointer none,.int .i64 q])∧Below w.heap.size w w') ∨
 (∃ (k:Nat) (B:Option Addr) (vc:Nat) (D:Option Addr) (dc g gc m1 m2:Nat),cfE (s,l) nm=0∧cfN (s,l) nm=k∧e = .returned (.tuple #[.agg #[.slice B s.1.length vc,.slice D s.2.length dc,.slice (some ⟨g,0,none⟩) l.length gc],.pointer (some ⟨g,k * 3,none⟩),.int .i64 0])∧ClRet s l B vc D dc (some ⟨g,0,none⟩) gc m1 m2 w.heap.size w'∧Below w.heap.size w w')
set_option maxHeartbeats 4000000 in
set_option maxRecDepth 100000 in
theorem clFind_any (A A2 A3:Option Addr) (c c2 c3 n m p:Nat) (im:Img) (l:List Snp) (cl:List Cln) (nm:ByteArray) (w:World) (hn:im.length=n) (hm:l.length=m) (hp:cl.length=p) (h1:SlAt (encSl encSec) w (Bl w.heap.size) A im) (h2:SlAt encSnp w (Bl w.heap.size) A2 l) (h3:SlAt encCln w (Bl w.heap.size) A3 cl) (hL:ClLim (im,l) cl) :
  Calls Tryz.prog 61 #[.agg #[.slice A n c,.slice A2 m c2,.slice A3 p c3],.string nm] w (RetFind (im,l) cl nm w):=by
 subst hn hm hp
 obtain⟨n0,hn0⟩:∃ n0,w.heap.size=n0:=⟨_,rfl⟩
 obtain⟨W0,hW0⟩:∃ W0,(w.alloc (.cells #[.slice A im.length c,.slice A2 l.length c2,.slice A3 cl.length c3] 29)).alloc (.cells #[.slice none 0 0,.slice none 0 0,.slice none 0 0] 29)=W0:=⟨_,rfl⟩
 have hB0:Below n0 w W0:=by rw [← hW0, ← hn0];repeat (first | exact Below.refl _ _ | refine ext_alloc ?_)
 have hr0:W0.heap[n0]? = some (.cells #[.slice A im.length c,.slice A2 l.length c2,.slice A3 cl.length c3] 29 (0,0)):=by rw [← hW0, ← hn0];exact (Below.heap_alloc _ _ _ (by simp)).trans (heap_alloc_new _ _)
 have hr1:W0.heap[n0+1]? = some (.cells #[.slice none 0 0,.slice none 0 0,.slice none 0 0] 29 (0,0)):=by rw [← hW0, ← hn0];exact heap_new2 _ _ _
 obtain⟨n2,hn2⟩:∃ n2,W0.heap.size=n2:=⟨_,rfl⟩
 have hn02:n0+1<n2:=by rw [← hn2];exact (Array.getElem?_eq_some_iff.1 hr1).1
 have up:∀ {α:Type} {E:Enc α} {A:Option Addr} {l:List α},SlAt E w (Bl w.heap.size) A l→∀ W,Below n2 W0 W→SlAt E W (Bl W.heap.size) A l:=fun h W hb=>by
  rw [hn0] at h
  exact (h.blk (fun g hg=>(hb.block g (by have:g<n0:=hg;omega)).trans (hB0.block g hg))).more (fun g hg=>by have:g<n0:=hg;have:=hb.size;show g<W.heap.size;omega)
 have H1:=Lib.hid (up h1)
 have H2:=Lib.hid (up h2)
 have H3:=Lib.hid (up h3)
 have HC:Hid (∀ W,Below n2 W0 W→W.cell? ⟨n0,0,none⟩=some (.slice A im.length c)∧W.cell? ⟨n0,1,none⟩=some (.slice A2 l.length c2)∧W.cell? ⟨n0,2,none⟩=some (.slice A3 cl.length c3)):=fun W hb=>by
  obtain⟨a,b,d,_⟩:=blk3 ((hb.block _ (by omega)).trans hr0)
  exact⟨a,b,d⟩
 have HRR:Hid (∀ W,Below n2 W0 W→W.heap[n0+1]? = some (.cells #[.slice none 0 0,.slice none 0 0,.slice none 0 0] 29 (0,0))):=fun W hb=>(hb.block _ (by omega)).trans hr1
 have HROW0:Hid (∀ W,Below n2 W0 W→W.heap[n0]? = some (.cells #[.slice A im.length c,.slice A2 l.length c2,.slice A3 cl.length c3] 29 (0,0))):=fun W hb=>(hb.block _ (by omega)).trans hr0
 have HBW:Hid (∀ W,Below n2 W0 W→Below w.heap.size w W):=fun W hb=>by rw [hn0];exact hB0.trans (hb.mono (by omega))
 have HN0:=Lib.hid hn0
 have HN2:=Lib.hid hn2
 have hN0:n0≤w.heap.size∧w.heap.size≤n0:=by omega
 have hl1:=hL.sn.ims
 have hl2:=hL.sn.its
 have hl3:=hL.its
 have HLM:=Lib.hid hL
 simp only at hl1 hl2
 obtain⟨s0,hs0⟩:∃ s0,clE ((im,l),cl)=s0:=⟨_,rfl⟩
 have HCK:=Lib.hid (fun W (hb:Below n2 W0 W)=>clCheck_any A A2 A3 c c2 c3 im.length l.length cl.length im l cl s0 W rfl rfl rfl hs0 (H1.out W hb) (H2.out W hb) (H3.out W hb) hl1 (by omega) (by omega))
 have HOW:=Lib.hid (fun W (hb:Below n2 W0 W)=>own37_any A A2 A3 c c2 c3 im.length l.length cl.length im l cl W rfl rfl rfl (H1.out W hb) (H2.out W hb) (H3.out W hb) HLM.out)
 have HS0:=Lib.hid hs0
 have hB00:=Below.refl n2 W0
 obtain⟨p0,p1,p2⟩:=HC.out W0 hB00
 clear h1 h2 h3 up hB0 hL hr0 hr1 hs0
 have HCE:Hid (cfE ((im,l),cl) nm=if s0≠0 then s0 else if (cfI cl nm).isNone then 7 else 0):=by rw [Hid,cfE,HS0.out]
 have HCK0:=Lib.hid (HCK.out W0 hB00)
 go_enter Tryz.func61,Tryz.ntmps61
 go_wp2_with fail
 refine HCK0.out.mono ?_
 rintro e w1 ⟨rfl,hb1⟩
 rw [HN2.out] at hb1
 clear p0 p1 p2 HCK0 hn2 hn0 hW0
 by_cases hx0:s0=0
 case neg =>
  have hx0':(s0 != 0)=true:=by simp [hx0]
  have HE:Hid (cfE ((im,l),cl) nm=s0):=by rw [Hid,HCE.out,if_pos hx0]
  have HX:=Lib.hid hx0
  clear hx0
  obtain⟨v0,v1,v2,vf⟩:=blk3 (HRR.out w1 hb1)
  go_wp2_with fail
  have hz:=sw3_row (HRR.out w1 hb1) (.slice none 0 0) (.slice none 0 0) (.slice none 0 0)
  have hbe:=sw3_below (HBW.out w1 hb1) (show w.heap.size≤n0+1 by omega) (.slice none 0 0) (.slice none 0 0) (.slice none 0 0)
  change bodyPost _ _ _ _ _ (sw3 w1 (n0+1) (.slice none 0 0) (.slice none 0 0) (.slice none 0 0))
  generalize sw3 w1 (n0+1) (.slice none 0 0) (.slice none 0 0) (.slice none 0 0)=W3 at hz hbe ⊢
  obtain⟨z0,z1,z2,_⟩:=blk3 hz
  refine bodyPost_ret (v := .tuple #[.agg #[.slice none 0 0,.slice none 0 0,.slice none 0 0],.pointer none,.int .i64 s0]) ?_ rfl ?_
  ·simp [results,Tryz.results61,Tryz.f61,go_sem,z0,z1,z2]
  exact Or.inl ⟨s0,HX.out,HE.out,rfl,hbe⟩
 have hx0':(s0 != 0)=false:=by simp [hx0]
 rw [if_neg (by simp [hx0])] at HCE
 subst hx0
 obtain⟨p0,p1,p2⟩:=HC.out w1 hb1
 have HO:=Lib.hid (HOW.out w1 hb1)
 go_wp2_with fail
 refine HO.out.mono ?_
 rintro e w5 ⟨B,vc,D,dc,G,gc,m1,m2,rfl,hcr,hb5⟩
 have hbb5:Below n2 W0 w5:=hb1.trans (hb5.mono (by have:=hb1.size;have:=HN2.out;omega))
 clear p0 p1 p2 HO
 obtain⟨ob,hob⟩:∃ ob,w5.heap.size=ob:=⟨_,rfl⟩
 obtain⟨w6,hw6⟩:∃ w6,w5.alloc (.cells #[.slice B im.length vc,.slice D l.length dc,.slice G cl.length gc] 29)=w6:=⟨_,rfl⟩
 have HW6:=Lib.hid hw6
 have hb6:Below ob w5 w6:=by rw [← hw6, ← hob];exact ext_alloc (Below.refl _ _)
 have hr6:w6.heap[ob]? = some (.cells #[.slice B im.length vc,.slice D l.length dc,.slice G cl.length gc] 29 (0,0)):=by rw [← hw6, ← hob];exact heap_alloc_new _ _
 have hle:=hcr.le
 have hz1:=hb1.size
 have hN2:n2≤W0.heap.size:=by have:=HN2.out;omega
 have hz6:ob<w6.heap.size:=(Array.getElem?_eq_some_iff.1 hr6).1
 have hbb6:Below n2 W0 w6:=hbb5.trans (hb6.mono (by omega))
 have hO6:OwnX (fun b=>b=ob) encCln w6 m2 87 (.slice G cl.length gc) cl:=(hcr.cl.var (X':=fun b=>b=ob) (fun g hg=>Or.inr (by rw [hob];omega))).below (by rw [hob];exact hb6)
 have HO6:=Lib.hid hO6
 have HCR:=Lib.hid hcr
 obtain⟨_,_,_,hS6⟩:=hO6.parts
 obtain⟨iv,hiv⟩:∃ i,idxAt (isN nm) cl=i:=⟨_,rfl⟩
 have hfi:=idxAt_find (isN nm) cl
 rw [hiv] at hfi
 have HIX:=Lib.hid (index37_any G gc cl.length cl nm w6 rfl (hS6.more (fun g hg=>hg.1.2)) (by omega) iv hiv)
 clear hw6 hcr hO6 hS6 hiv
 go_upto_region 5 with (fail)
 rw [HW6.out]
 clear HW6
 obtain⟨q0,q1,q2,qf⟩:=blk3 hr6
 go_wp2_with fail
 refine HIX.out.mono ?_
 rintro e w7 ⟨rfl,hb7⟩
 have hbb7:Below n2 W0 w7:=hbb6.trans (hb7.mono (by omega))
 have hr7:=(hb7.block ob hz6).trans hr6
 clear q0 q1 q2 qf HIX
 cases hq:cl.findIdx? (isN nm) with
 | none =>
   rw [hq] at hfi
   simp only at hfi
   have HE:Hid (cfE ((im,l),cl) nm=7):=by
    have:cfI cl nm=none:=hq
    rw [Hid,HCE.out,this];rfl
   subst hfi
   clear hq
   obtain⟨v0,v1,v2,vf⟩:=blk3 (HRR.out w7 hbb7)
   go_wp2_with fail
   have hz:=sw3_row (HRR.out w7 hbb7) (.slice none 0 0) (.slice none 0 0) (.slice none 0 0)
   have hbe:=sw3_below (HBW.out w7 hbb7) (show w.heap.size≤n0+1 by omega) (.slice none 0 0) (.slice none 0 0) (.slice none 0 0)
   change bodyPost _ _ _ _ _ (sw3 w7 (n0+1) (.slice none 0 0) (.slice none 0 0) (.slice none 0 0))
   generalize sw3 w7 (n0+1) (.slice none 0 0) (.slice none 0 0) (.slice none 0 0)=W3 at hz hbe ⊢
   obtain⟨z0,z1,z2,_⟩:=blk3 hz
   refine bodyPost_ret (v := .tuple #[.agg #[.slice none 0 0,.slice none 0 0,.slice none 0 0],.pointer none,.int .i64 7]) ?_ rfl ?_
   ·simp [results,Tryz.results61,Tryz.f61,go_sem,z0,z1,z2]
   exact Or.inl ⟨7,by decide,HE.out,rfl,hbe⟩
 | some k =>
   rw [hq] at hfi
   simp only at hfi
   have HE:Hid (cfE ((im,l),cl) nm=0):=by
    have:cfI cl nm=some k:=hq
    rw [Hid,HCE.out,this];rfl
   have HN:Hid (cfN ((im,l),cl) nm=k):=by
    have:cfI cl nm=some k:=hq
    rw [Hid,cfN,if_pos HE.out];show (cfI cl nm).getD 0=k;rw [this];rfl
   have hkl:k<cl.length:=(List.findIdx?_eq_some_iff_getElem.1 hq).1
   obtain⟨g,rfl,hg1,hg2,hg3⟩:=HO6.out.head (by omega)
   subst hfi
   clear hq
   have hk0:¬ ((k:Int)<0):=by omega
   have hk1:(0:Int)≤k:=by omega
   have hk2:(k:Int)<cl.length:=by omega
   have HC7:Hid (∀ W,BlX (n0+1) w7 W→W.cell? ⟨ob,0,none⟩=some (.slice B im.length vc)∧W.cell? ⟨ob,1,none⟩=some (.slice D l.length dc)∧W.cell? ⟨ob,2,none⟩=some (.slice (some ⟨g,0,none⟩) cl.length gc)):=fun W hb=>by
    obtain⟨a,b,d,_⟩:=blk3 ((hb.1 ob (by have:=hb7.size;omega) (by omega)).trans hr7)
    exact⟨a,b,d⟩
   have hSw:BlX (n0+1) w7 w7.drew:=⟨fun _ _ _=>rfl,rfl⟩
   have hr17:=HRR.out w7 hbb7
   go_upto_region 8 with (fail)
   refine wp_region_U (fun W'=>BlX (n0+1) w7 W') 8 (by kernel_rfl) ?_
   refine wpAnyU_takeD (i:=0) (v := ?_) rfl rfl (by kernel_rfl) (by kernel_rfl) (by kernel_rfl) (by kernel_rfl) (fun _ _ _ h=>h) (by rfl) ?_ hSw ?_
   rotate_left 1
   ·intro W9 hW9
    try dsimp only at hW9
    obtain⟨q0,q1,q2⟩:=HC7.out W9 hW9
    go_simp
    try with_reducible rfl
   try simp only [List.setIfInBounds_toArray,List.set_cons_zero,List.set_cons_succ]
   refine wpAnyU_takeD (i:=1) (v := ?_) rfl rfl (by kernel_rfl) (by kernel_rfl) (by kernel_rfl) (by kernel_rfl) (fun _ _ _ h=>h) (by rfl) ?_ hSw ?_
   rotate_left 1
   ·intro W9 hW9
    try dsimp only at hW9
    obtain _:=trivial
    go_simp
    try with_reducible rfl
   try simp only [List.setIfInBounds_toArray,List.set_cons_zero,List.set_cons_succ]
   refine wpAnyU_takeD (i:=2) (v := ?_) rfl rfl (by kernel_rfl) (by kernel_rfl) (by kernel_rfl) (by kernel_rfl) (fun _ _ _ h=>h) (by rfl) ?_ hSw ?_
   rotate_left 1
   ·intro W9 hW9
    try dsimp only at hW9
    obtain⟨q0,q1,q2⟩:=HC7.out W9 hW9
    go_simp
    try with_reducible rfl
   try simp only [List.setIfInBounds_toArray,List.set_cons_zero,List.set_cons_succ]
   refine wpAnyU_takeD (i:=3) (v := ?_) rfl rfl (by kernel_rfl) (by kernel_rfl) (by kernel_rfl) (by kernel_rfl) (fun _ _ _ h=>h) (by rfl) ?_ hSw ?_
   rotate_left 1
   ·intro W9 hW9
    try dsimp only at hW9
    obtain _:=trivial
    go_simp
    try with_reducible rfl
   try simp only [List.setIfInBounds_toArray,List.set_cons_zero,List.set_cons_succ]
   refine wpAnyU_takeD (i:=4) (v := ?_) rfl rfl (by kernel_rfl) (by kernel_rfl) (by kernel_rfl) (by kernel_rfl) (fun _ _ _ h=>h) (by rfl) ?_ hSw ?_
   rotate_left 1
   ·intro W9 hW9
    try dsimp only at hW9
    obtain _:=trivial
    go_simp
    try with_reducible rfl
   try simp only [List.setIfInBounds_toArray,List.set_cons_zero,List.set_cons_succ]
   obtain⟨v0,v1,v2,vf⟩:=blk3 hr17
   refine wpAnyU_op (i:=5) (by kernel_rfl) rfl rfl (fun K hK => ?_)
   go_simp
   have hS8:BlX (n0+1) w7 (sw3 w7 (n0+1) (.slice B im.length vc) (.slice D l.length dc) (.slice (some ⟨g,0,none⟩) cl.length gc)).drew:=⟨fun x _ hx=>sw3_other hx _ _ _,sw3_sz⟩
   have HS8:=Lib.hid hS8
   clear hS8
   refine hK.out _ _ (fun _=>HS8.out) ?_
   clear hK K v0 v1 v2 vf
   change wpAnyU _ _ _ _ _ _ _ _ _ (sw3 w7 (n0+1) (.slice B im.length vc) (.slice D l.length dc) (.slice (some ⟨g,0,none⟩) cl.length gc)).drew
   have hz:(sw3 w7 (n0+1) (.slice B im.length vc) (.slice D l.length dc) (.slice (some ⟨g,0,none⟩) cl.length gc)).drew.heap[n0+1]? = _:=sw3_row hr17 (.slice B im.length vc) (.slice D l.length dc) (.slice (some ⟨g,0,none⟩) cl.length gc)
   have hbe:=(sw3_below (HBW.out w7 hbb7) (show w.heap.size≤n0+1 by omega) (.slice B im.length vc) (.slice D l.length dc) (.slice (some ⟨g,0,none⟩) cl.length gc)).drew
   generalize (sw3 w7 (n0+1) (.slice B im.length vc) (.slice D l.length dc) (.slice (some ⟨g,0,none⟩) cl.length gc)).drew=W3 at HS8 hz hbe ⊢
   try simp only [Act.put,List.setIfInBounds_toArray,List.set_cons_zero,List.set_cons_succ]
   refine wpAnyU_op (i:=6) (by kernel_rfl) rfl rfl (fun K hK => ?_)
   go_simp
   refine hK.out _ _ (fun _=>HS8.out) ?_
   clear hK K
   try simp only [Act.put,List.setIfInBounds_toArray,List.set_cons_zero,List.set_cons_succ]
   refine wpAnyU_op (i:=7) (by kernel_rfl) rfl rfl (fun K hK => ?_)
   go_simp
   refine hK.out _ _ (fun _=>HS8.out) ?_
   clear hK K
   try simp only [Act.put,List.setIfInBounds_toArray,List.set_cons_zero,List.set_cons_succ]
   refine wpAnyU_done (by kernel_rfl) ?_ _
   have hk3:∀ x,x<w6.heap.size→x≠n0+1→W3.heap[x]? = w6.heap[x]? := fun x hx hne=>(HS8.out.1 x (by have:=hb7.size;omega) hne).trans (hb7.block x hx)
   have hsz3:w6.heap.size≤W3.heap.size:=by have:=HS8.out.2;have:=hb7.size;omega
   have hret:ClRet (im,l) cl B vc D dc (some ⟨g,0,none⟩) gc m1 m2 w.heap.size W3:=by
    have h:=HCR.out
    refine⟨⟨h.im.1,h.im.2.1,(h.im.2.2.blk (fun x hx=>(hk3 x (by have:=hx.2;omega) (by have:=hx.1;omega)).trans (hb6.block x (by have:=hx.2;omega)))).more (fun x hx=>⟨by have:=hx.1;omega,hx.2⟩)⟩,
     ⟨h.sn.1,h.sn.2.1,h.sn.2.2.blk (fun x hx=>(hk3 x (by have:=hx.2;omega) (by have:=hx.1;omega)).trans (hb6.block x (by have:=hx.2;omega)))⟩,⟨by omega,by omega,by omega⟩,
     (HO6.out.keep hsz3 (fun x h1 h2 _=>hk3 x h2 (by omega))).noX2,by
      obtain⟨ys,e1,e2⟩:=h.ow
      exact⟨ys,e1,e2.keep (by omega) (fun x h1 h2=>(hk3 x (by omega) (by omega)).trans (hb6.block x (by omega)))⟩⟩
   have HRT:=Lib.hid hret
   clear hret hk3
   obtain⟨z0,z1,z2,_⟩:=blk3 hz
   go_wp2_with fail
   refine bodyPost_ret (v := .tuple #[.agg #[.slice B im.length vc,.slice D l.length dc,.slice (some ⟨g,0,none⟩) cl.length gc],.pointer (some ⟨g,k * 3,none⟩),.int .i64 0]) ?_ rfl ?_
   ·simp [results,Tryz.results61,Tryz.f61,go_sem,z0,z1,z2]
   exact Or.inr ⟨k,B,vc,D,dc,g,gc,m1,m2,HE.out,HN.out,rfl,HRT.out,hbe⟩
end Go.Proofs.YtgndgkjefgjamaaGreat

/-
  The walks of standbyref03.SameSectors and SameWrites: they compare two lists of writes.; The walks of the small functions of coalesce: placed, behind, before, and of cmp.Compare, cmp.Or.; Rows of marks.; The walks of holds, Lookup (the reference).; The walks of Extents and pick (the reference).; The layings of the shelf's contracts of slices.SortFunc at this program (written by the kit's lay-plain.mjs).
-/
import Derived.Maps.RangeWalk
import Derived.Deep.OwnRows
import Derived.Shelf.SlGeneric
import Derived.Shelf.SlSortCmp.NoneTotal
import Derived.Ground.SlsfProg
import Derived.Test.YtgndgkjefgjamaaGreatProg
import Derived.Test.YtgndgkjefgjamaaGreatV01
set_option linter.unusedVariables false
set_option linter.unusedSimpArgs false
set_option linter.unusedSectionVars false
set_option linter.unnecessarySimpa false
namespace Go.Proofs.YtgndgkjefgjamaaGreat
open Go.RowKit

end Go.Proofs.YtgndgkjefgjamaaGreat

namespace Go.Proofs.YtgndgkjefgjamaaGreat
open Go.RowKit Go.MapKept Go.ChangeMaps



def plV (p:Pl):Value := .agg #[.int .i64 p.1,.int .i64 p.2]
def secVal (s:Sec):Value := .agg (secV s).toArray
def entV (x:Pl × Sec):Value × Value:=(plV x.1,secVal x.2)
def kvOf (e:MapEntry):Value × Value:=(e.key,e.val)
theorem plV_inj {p q:Pl} (h:plV p=plV q):p=q:=by
 cases p;cases q;simp [plV] at h;simp [h]
def PMap (w:World) (b:Nat) (m:Eff):Prop :=
 ∃ es clock,w.heap[b]? = some (.map es clock)∧Stamped es clock∧es.toList.map kvOf=m.map entV∧∀ x∈m,OkSec x.2
def putE:Eff→Pl→Sec→Eff
 | [],p,s=>[(p,s)]
 | x :: m,p,s=>if x.1=p then (p,s) :: m else x :: putE m p s
theorem putE_new {m:Eff} {p:Pl} (s:Sec) (h:∀ x∈m,x.1≠p):putE m p s=m++[(p,s)]:=by
 induction m with
 | nil=>rfl
 | cons x m ih=>simp only [putE,if_neg (h x (by simp)),ih (fun y hy=>h y (by simp [hy])),List.cons_append]
theorem putE_old {m1 m2:Eff} {p:Pl} {s0:Sec} (s:Sec) (h:∀ x∈m1,x.1≠p):putE (m1++(p,s0) :: m2) p s=m1++(p,s) :: m2:=by
 induction m1 with
 | nil=>simp [putE]
 | cons x m ih=>simp only [putE,List.cons_append,if_neg (h x (by simp)),ih (fun y hy=>h y (by simp [hy]))]
theorem PMap.keys {w:World} {b:Nat} {m:Eff} (h:PMap w b m):(m.map (·.1)).Nodup:=by
 obtain⟨es,clock,_,hs,he,_⟩:=h
 have h1:=hs.2.2
 have h2:es.toList.map (·.key)=(m.map (·.1)).map plV:=by
  have:=congrArg (List.map Prod.fst) he
  simp only [List.map_map] at this
  simp only [List.map_map]
  exact this
 rw [h2,List.nodup_iff_pairwise_ne,List.pairwise_map] at h1
 rw [List.nodup_iff_pairwise_ne]
 exact h1.imp (fun h e=>h (by rw [e]))
theorem PMap.lt {w:World} {b:Nat} {m:Eff} (h:PMap w b m):b<w.heap.size:=by
 obtain⟨es,clock,hb,_⟩:=h
 exact (Array.getElem?_eq_some_iff.1 hb).1
theorem PMap.kept {w w':World} {b:Nat} {m:Eff} (h:PMap w b m) (hk:w'.heap[b]? = w.heap[b]?):PMap w' b m:=by
 obtain⟨es,clock,hb,r⟩:=h
 exact⟨es,clock,hk.trans hb,r⟩

theorem undPl:Tryz.prog.underlying 211=some (.struct (Tryz.prog.fieldsOf 211)):=by kernel_rfl
theorem undEff:Tryz.prog.underlying 179=some (.map 211 95):=by kernel_rfl
theorem run_check_pl (w:World) (q:Bool) (p:Pl):(Instr.checkKey q 10000 211 (plV p)).run Tryz.prog w = .ok () w:=by kernel_rfl
theorem fldPl:(Tryz.prog.fieldsOf 211).toList=[(Tryz.prog.fieldsOf 211)[0]!,(Tryz.prog.fieldsOf 211)[1]!]:=by kernel_rfl
theorem run_eq_pl (w:World) (p q:Pl):(Op.equal 211 (plV p) (plV q)).run Tryz.prog w = .ok (p==q) w:=by
 obtain⟨a,b⟩:=p
 obtain⟨c,d⟩:=q
 have n0:(Tryz.prog.fieldsOf 211)[0]!.name = "volume" := by kernel_rfl
 have n1:(Tryz.prog.fieldsOf 211)[1]!.name = "sector" := by kernel_rfl
 have p0:∀ w,(part (Tryz.prog.fieldsOf 211)[0]!.type #[.int .i64 a,.int .i64 b] (Tryz.prog.fieldsOf 211)[0]!.offset).run Tryz.prog w = .ok (.int .i64 a) w:=by intro w;kernel_rfl
 have p1:∀ w,(part (Tryz.prog.fieldsOf 211)[1]!.type #[.int .i64 a,.int .i64 b] (Tryz.prog.fieldsOf 211)[1]!.offset).run Tryz.prog w = .ok (.int .i64 b) w:=by intro w;kernel_rfl
 have q0:∀ w,(part (Tryz.prog.fieldsOf 211)[0]!.type #[.int .i64 c,.int .i64 d] (Tryz.prog.fieldsOf 211)[0]!.offset).run Tryz.prog w = .ok (.int .i64 c) w:=by intro w;kernel_rfl
 have q1:∀ w,(part (Tryz.prog.fieldsOf 211)[1]!.type #[.int .i64 c,.int .i64 d] (Tryz.prog.fieldsOf 211)[1]!.offset).run Tryz.prog w = .ok (.int .i64 d) w:=by intro w;kernel_rfl
 have t0:Tryz.prog.underlying (Tryz.prog.fieldsOf 211)[0]!.type=some (.int .i64):=by kernel_rfl
 have t1:Tryz.prog.underlying (Tryz.prog.fieldsOf 211)[1]!.type=some (.int .i64):=by kernel_rfl
 have h:=run_equalIn_agg w 9999 211 #[.int .i64 a,.int .i64 b] #[.int .i64 c,.int .i64 d] undPl (by kernel_rfl)
 rw [fldPl] at h
 simp only [Op.eqFields,n0,n1,if_pos (show "volume" ≠ "_" by decide),if_pos (show "sector" ≠ "_" by decide),Sem.run_bind,Sem.run_ite,Sem.run_pure,p0,p1,q0,q1,Result.andThen_ok,run_equalIn_int _ 9998 _ .i64 .i64 _ _ t0,run_equalIn_int _ 9998 _ .i64 .i64 _ _ t1] at h
 refine h.trans ?_
 by_cases h1:a=c <;> by_cases h2:b=d <;> simp [h1,h2]

theorem run_find_asking (w:World) (p:Pl):∀ (l:List MapEntry) (m:Eff) (i:Nat),l.map kvOf=m.map entV →
  ((∀ x∈m,x.1≠p)∧(Instr.findAsking 211 (plV p) l i).run Tryz.prog w = .ok none w) ∨
  ∃ m1 s m2,m=m1++(p,s) :: m2∧(∀ x∈m1,x.1≠p)∧(Instr.findAsking 211 (plV p) l i).run Tryz.prog w = .ok (some (i+m1.length,secVal s)) w
 | [],[],_,_=>Or.inl ⟨by simp,rfl⟩
 | [],_ :: _,_,h=>by simp at h
 | _ :: _,[],_,h=>by simp at h
 | e :: l,x :: m,i,h=>by
   simp only [List.map_cons,List.cons.injEq] at h
   obtain⟨h1,h2⟩:=h
   have hk:e.key=plV x.1:=congrArg Prod.fst h1
   have hv:e.val=secVal x.2:=congrArg Prod.snd h1
   by_cases hx:x.1=p
   ·refine Or.inr ⟨[],x.2,m,by rw [← hx];rfl,by simp, ?_⟩
    simp only [Instr.findAsking,Sem.run_bind,hk,run_eq_pl,Result.andThen_ok]
    simp [hx,hv]
   ·have hne:(p==x.1)=false:=by
     rw [beq_eq_false_iff_ne];exact fun e=>hx e.symm
    have hstep:(Instr.findAsking 211 (plV p) (e :: l) i).run Tryz.prog w=(Instr.findAsking 211 (plV p) l (i+1)).run Tryz.prog w:=by
     simp only [Instr.findAsking,Sem.run_bind,hk,run_eq_pl,Result.andThen_ok,hne]
     simp
    rcases run_find_asking w p l m (i+1) h2 with ⟨a1,a2⟩ | ⟨m1,s,m2,rfl,a2,a3⟩
    ·exact Or.inl ⟨by
      intro y hy
      rcases List.mem_cons.1 hy with rfl | hy
      ·exact hx
      ·exact a1 y hy,hstep.trans a2⟩
    ·refine Or.inr ⟨x :: m1,s,m2,rfl, ?_, ?_⟩
     ·intro y hy
      rcases List.mem_cons.1 hy with rfl | hy
      ·exact hx
      ·exact a2 y hy
     ·rw [hstep,a3]
      simp only [List.length_cons]
      rw [show i+1+m1.length=i+(m1.length+1) from by omega]
theorem run_find_pl (w:World) (p:Pl) (l:List MapEntry) (m:Eff) (h:l.map kvOf=m.map entV) :
  ((∀ x∈m,x.1≠p)∧(Instr.findKey 211 (plV p) l).run Tryz.prog w = .ok none w) ∨
  ∃ m1 s m2,m=m1++(p,s) :: m2∧(∀ x∈m1,x.1≠p)∧(Instr.findKey 211 (plV p) l).run Tryz.prog w = .ok (some (m1.length,secVal s)) w:=by
 have hf:(Instr.findKey 211 (plV p) l).run Tryz.prog w=(Instr.findAsking 211 (plV p) l 0).run Tryz.prog w:=by
  cases l with
  | nil =>
    simp only [Instr.findKey,Sem.run_bind,run_underlying undPl,Result.andThen_ok]
    rfl
  | cons e l =>
    simp only [Instr.findKey,Sem.run_bind,run_underlying undPl,Result.andThen_ok]
    rfl
 rw [hf]
 have:=run_find_asking w p l m 0 h
 simpa using this

theorem sameBits_pl (p:Pl):Instr.sameBits 10000 (plV p) (plV p)=true:=by
 simp [plV,Instr.sameBits]
theorem modify_at (l:List MapEntry) (m1 m2:Eff) (x y:Pl × Sec) (f:MapEntry→MapEntry) (h:l.map kvOf=(m1++x :: m2).map entV) (hf:∀ e,kvOf e=entV x→kvOf (f e)=entV y) :
  (l.modify m1.length f).map kvOf=(m1++y :: m2).map entV:=by
 induction m1 generalizing l with
 | nil =>
   cases l with
   | nil=>simp at h
   | cons e l =>
     simp only [List.nil_append,List.map_cons,List.cons.injEq] at h
     simp [hf e h.1,h.2]
 | cons z m1 ih =>
   cases l with
   | nil=>simp at h
   | cons e l =>
     simp only [List.cons_append,List.map_cons,List.cons.injEq] at h
     simp only [List.length_cons,List.modify_succ_cons,List.map_cons,List.cons_append,List.cons.injEq]
     exact⟨h.1,ih l h.2⟩
theorem PMap.update {w:World} {b:Nat} {m:Eff} (h:PMap w b m) (p:Pl) {s:Sec} (hs:OkSec s) :
  ∃ o,(Instr.mapUpdate 179 (.map (some b)) (plV p) (secVal s)).run Tryz.prog w = .ok () (setBlock w b o)∧PMap (setBlock w b o) b (putE m p s):=by
 obtain⟨es,clock,hb,hst,he,hok⟩:=h
 rcases run_find_pl w p es.toList m he with ⟨h1,h2⟩ | ⟨m1,s0,m2,rfl,h1,h2⟩
 ·refine⟨.map (es.push { key:=plV p,val:=secVal s,born:=clock }) (clock+1), ?_, ?_⟩
  ·simp [Instr.mapUpdate,run_underlying undEff,MapKept.run_getObj_map hb,run_check_pl,h2,MapKept.run_setObj_map _ hb,Result.andThen,setBlock]
  ·rw [putE_new s h1]
   refine⟨_,_,heap_setBlock_same hb _,stamped_push hst ?_, ?_, ?_⟩
   ·intro x hx e
    have:kvOf x∈m.map entV:=by rw [← he];exact List.mem_map_of_mem hx
    obtain⟨y,hy,hye⟩:=List.mem_map.1 this
    exact h1 y hy (plV_inj ((congrArg Prod.fst hye).trans e))
   ·simp [he,kvOf,entV]
   ·intro x hx
    rcases List.mem_append.1 hx with hx | hx
    ·exact hok x hx
    ·rw [List.mem_singleton.1 hx];exact hs
 ·have hlen:m1.length<es.toList.length:=by
   have:=congrArg List.length he
   simp at this ⊢
   omega
  have hlen':m1.length<es.size:=by simpa using hlen
  have hat:kvOf es[m1.length]=entV (p,s0):=by
   have:=congrArg (fun l=>l[m1.length]?) he
   simpa [hlen'] using this
  have hkey:es[m1.length].key=plV p:=congrArg Prod.fst hat
  refine⟨.map (es.modify m1.length fun e=>{ e with key:=plV p,val:=secVal s }) clock, ?_, ?_⟩
  ·simp [Instr.mapUpdate,run_underlying undEff,MapKept.run_getObj_map hb,run_check_pl,h2,Instr.keyThatStays,hlen',hkey,sameBits_pl,MapKept.run_setObj_map _ hb,Result.andThen,setBlock]
  ·rw [putE_old s h1]
   refine⟨_,_,heap_setBlock_same hb _,stamped_modify hst _ _ (fun e _=>rfl) (fun e _ hx => ?_), ?_, ?_⟩
   ·rw [Array.getElem?_eq_getElem hlen',Option.some.injEq] at hx
    rw [← hx];exact hkey.symm
   ·rw [Array.toList_modify]
    exact modify_at _ _ _ _ _ _ he (fun e _=>rfl)
   ·intro x hx
    rcases List.mem_append.1 hx with hx | hx
    ·exact hok x (List.mem_append_left _ hx)
    ·rcases List.mem_cons.1 hx with rfl | hx
     ·exact hs
     ·exact hok x (List.mem_append_right _ (List.mem_cons_of_mem _ hx))
theorem PMap.lookup {w:World} {b:Nat} {m:Eff} (h:PMap w b m) {p:Pl} {s:Sec} (hp:(p,s)∈m) :
  (Instr.lookup 179 (.map (some b)) (plV p) false).run Tryz.prog w = .ok (secVal s) w:=by
 have hk:=h.keys
 obtain⟨es,clock,hb,hst,he,hok⟩:=h
 rcases run_find_pl w p es.toList m he with ⟨h1,_⟩ | ⟨m1,s0,m2,rfl,h1,h2⟩
 ·exact absurd rfl (h1 _ hp)
 ·have:s=s0:=by
   rcases List.mem_append.1 hp with hx | hx
   ·exact absurd rfl (h1 _ hx)
   ·rcases List.mem_cons.1 hx with hx | hx
    ·simpa using hx
    ·rw [List.map_append,List.map_cons,List.nodup_append] at hk
     have:=(List.nodup_cons.1 hk.2.1).1
     exact absurd (List.mem_map.2 ⟨_,hx,rfl⟩) this
  subst this
  simp [Instr.lookup,run_underlying undEff,MapKept.run_getObj_map hb,run_check_pl,h2,Result.andThen]

theorem PMap.grown {w w':World} {b:Nat} {m:Eff} {row:Option Nat} (h:PMap w b m) (hg:w.grownBy w' row) (hr:some b≠row):PMap w' b m:=h.kept (hg.block b h.lt hr)
theorem PMap.alloc {w:World} {b:Nat} {m:Eff} (h:PMap w b m) (o:Obj):PMap (w.alloc o) b m:=h.kept (Below.heap_alloc _ _ _ h.lt)
theorem PMap.setCell {w:World} {b:Nat} {m:Eff} (h:PMap w b m) (p:Addr) (u:Value) (hne:b≠p.block):PMap (w.setCell p u) b m:=h.kept (Below.heap_setCell _ _ _ _ hne)
theorem PMap.drewN {w:World} {b:Nat} {m:Eff} (h:PMap w b m) (n:Nat):PMap (w.drewN n) b m:=h.kept rfl
theorem grown_setBlock (w:World) (b:Nat) (o:Obj):w.grownBy (setBlock w b o) (some b) :=
 ⟨rfl,rfl,rfl,by simp [setBlock],fun k _ hk=>by
  have hk':k≠b:=fun e=>hk (by rw [e])
  simp only [setBlock]
  rw [Array.getElem?_setIfInBounds]
  simp [Ne.symm hk']⟩
section
variable (w:World) {ops:Array Oper} {rest:List Oper} {o:Oper} {a:Act} {Q:Exit→Act→World→Prop}
theorem wpList_mapUpdate_pl (hg:o.guard=none) (m x v:Operand) (hop:o.op=Op.mapUpdate 179 m x v) (b:Nat) (M:Eff) (p:Pl) (s:Sec) (hm:a.eval m = .map (some b)) (hx:a.eval x=plV p) (hv:a.eval v=secVal s)
  (h:PMap w b M) (hs:OkSec s) (hK:∀ w',PMap w' b (putE M p s)→w.grownBy w' (some b)→w'.heap.size=w.heap.size→wpList Tryz.prog ops Q rest (a.put o.dst undef) w'):wpList Tryz.prog ops Q (o :: rest) a w:=by
 refine wpList_plain hg fun K' hK' => ?_
 obtain⟨ob,hrun,r1⟩:=h.update p hs
 unfold Oper.wp
 simp [execOp,hop,hm,hx,hv,hrun,Result.andThen]
 exact hK' _ _ (hK _ r1 (grown_setBlock w b ob) (by simp [setBlock]))
end
def PRange (w:World) (b r:Nat) (m todo:Eff):Prop :=
 ∃ es clock since seen c0,w.heap[b]? = some (.map es clock)∧Stamped es clock∧es.toList.map kvOf=m.map entV∧(∀ x∈m,OkSec x.2)∧w.heap[r]? = some (.mapIter (some b) since seen c0)∧(∀ x∈es.toList,x.born<since)∧since≤c0∧since≤clock ∧
   ((leftOf es seen).toList.map kvOf).Perm (todo.map entV)
theorem PRange.map {w:World} {b r:Nat} {m todo:Eff} (h:PRange w b r m todo):PMap w b m:=by
 obtain⟨es,clock,since,seen,c0,h1,h2,h3,h4,_⟩:=h
 exact⟨es,clock,h1,h2,h3,h4⟩
theorem PRange.lt {w:World} {b r:Nat} {m todo:Eff} (h:PRange w b r m todo):r<w.heap.size:=by
 obtain⟨es,clock,since,seen,c0,_,_,_,_,hr,_⟩:=h
 exact (Array.getElem?_eq_some_iff.1 hr).1
theorem PRange.kept {w w':World} {b r:Nat} {m todo:Eff} (h:PRange w b r m todo) (h1:w'.heap[b]? = w.heap[b]?) (h2:w'.heap[r]? = w.heap[r]?):PRange w' b r m todo:=by
 obtain⟨es,clock,since,seen,c0,a1,a2,a3,a4,a5,r⟩:=h
 exact⟨es,clock,since,seen,c0,h1.trans a1,a2,a3,a4,h2.trans a5,r⟩
theorem PRange.left {w:World} {b r:Nat} {m todo:Eff} (h:PRange w b r m todo):w.rangeLeft b r=todo.length:=by
 obtain⟨es,clock,since,seen,c0,hb,_,_,_,hr,_,_,_,hp⟩:=h
 simp only [World.rangeLeft,hb,hr]
 have:=hp.length_eq
 simpa using this
theorem perm_born:∀ (L:List MapEntry) (e:MapEntry),(L.map (·.born)).Nodup→e∈L→L.Perm (e :: L.filter (fun x=>x.born != e.born))
 | [],_,_,h=>by simp at h
 | a :: L,e,hn,he=>by
   simp only [List.map_cons,List.nodup_cons] at hn
   by_cases h:a.born=e.born
   ·have hae:a=e:=by
     rcases List.mem_cons.1 he with rfl | he
     ·rfl
     ·exact absurd (List.mem_map.2 ⟨e,he,h.symm⟩) hn.1
    subst hae
    have:L.filter (fun x=>x.born != a.born)=L:=List.filter_eq_self.2 (fun x hx=>by
     simp only [bne_iff_ne]
     intro e
     exact hn.1 (List.mem_map.2 ⟨x,hx,e⟩))
    simp [this]
   ·have he':e∈L:=by
     rcases List.mem_cons.1 he with rfl | he
     ·exact absurd rfl h
     ·exact he
    have hb:(a.born != e.born)=true:=by simp [h]
    rw [List.filter_cons_of_pos (by simpa using h)]
    exact ((perm_born L e hn.2 he').cons a).trans (List.Perm.swap e a _)
theorem PMap.range {w:World} {b:Nat} {m:Eff} (h:PMap w b m) :
  ∃ w',(Instr.range 179 (.map (some b))).run Tryz.prog w = .ok (.pointer (some ⟨w.heap.size,0,none⟩)) w'∧PRange w' b w.heap.size m m∧w.grownBy w' none∧w'.heap.size=w.heap.size+1:=by
 have hlt:=h.lt
 obtain⟨es,clock,hb,hst,he,hok⟩:=h
 refine⟨_,run_range_map w _ _ _ b es clock undEff hb,⟨es,clock,clock,#[],clock,((MapKept.heap_alloc w _).2 b hlt).trans hb,hst,he,hok,(MapKept.heap_alloc w _).1,hst.1,Nat.le_refl _,Nat.le_refl _, ?_⟩,World.grownBy_alloc w _ none,by simp⟩
 have:(leftOf es #[]).toList=es.toList:=by simp [leftOf]
 rw [this,he]
theorem PRange.next {w:World} {b r:Nat} {m todo:Eff} (h:PRange w b r m todo) (ty:TypeId) :
  (todo=[]∧(Instr.next (.pointer (some ⟨r,0,none⟩)) false ty).run Tryz.prog w = .ok (.tuple #[.bool false]) w) ∨
  ∃ x todo' w',todo.Perm (x :: todo')∧(Instr.next (.pointer (some ⟨r,0,none⟩)) false ty).run Tryz.prog w = .ok (.tuple #[.bool true,plV x.1,secVal x.2]) w'∧PRange w' b r m todo'∧w.grownBy w' (some r)∧w'.heap.size=w.heap.size ∧
    (Instr.entry (.pointer (some ⟨r,0,none⟩))).run Tryz.prog w' = .ok (.tuple #[plV x.1,secVal x.2]) w':=by
 obtain⟨es,clock,since,seen,c0,hb,hst,he,hok,hr,hold,hsc,hsk,hp⟩:=h
 have hne:r≠b:=by
  intro e
  rw [e,hb] at hr
  cases hr
 rcases run_next_at (P:=Tryz.prog) w ty r b since c0 seen es clock hr hb hold hsc with ⟨h0,hrun⟩ | ⟨e,hem,w1,hal,hrun⟩
 ·refine Or.inl ⟨?_,hrun⟩
  have:=hp.length_eq
  simp [h0] at this
  exact List.eq_nil_of_length_eq_zero this.symm
 ·right
  have hmem:kvOf e∈todo.map entV:=hp.mem_iff.1 (List.mem_map_of_mem hem)
  obtain⟨x,hx,hxe⟩:=List.mem_map.1 hmem
  have hperm:todo.Perm (x :: todo.erase x):=List.perm_cons_erase hx
  have hk:e.key=plV x.1:=(congrArg Prod.fst hxe).symm
  have hv:e.val=secVal x.2:=(congrArg Prod.snd hxe).symm
  have hr1:w1.heap[r]? = some (.mapIter (some b) since seen c0):=by rcases hal with rfl | rfl <;> exact hr
  have hb1:w1.heap[b]? = some (.map es clock):=by rcases hal with rfl | rfl <;> exact hb
  have hset:=Go.MapKept.heap_set (o' := .mapIter (some b) since (seen.push e.born) clock) hr1
  have hb':(setBlock w1 r (.mapIter (some b) since (seen.push e.born) clock)).heap[b]? = some (.map es clock):=(hset.2 b (fun e1=>hne e1.symm)).trans hb1
  obtain⟨hem1,hes⟩:=mem_left hem
  refine⟨x,todo.erase x,_,hperm,by rw [← hk, ← hv];exact hrun,⟨es,clock,since,seen.push e.born,clock,hb',hst,he,hok,hset.1,hold,hsk,hsk, ?_⟩, ?_, ?_,by rw [← hk, ← hv];exact run_entry_at _ r b since seen es clock e hset.1 hb' hem1 hst.2.1⟩
  ·have hl:(leftOf es (seen.push e.born)).toList=(leftOf es seen).toList.filter (fun y=>y.born != e.born):=by
    simp only [leftOf,Array.toList_filter,List.filter_filter]
    congr 1
    funext y
    rw [contains_push]
    cases seen.contains y.born <;> cases hy:(y.born==e.born) <;> simp_all
   have hnd:((leftOf es seen).toList.map (·.born)).Nodup:=by
    simp only [leftOf,Array.toList_filter]
    exact (List.filter_sublist.map _).nodup hst.2.1
   have h1:=(perm_born _ e hnd hem).map kvOf
   rw [hl]
   have h2:=hp.symm.trans h1
   have h3:=(hperm.map entV).symm.trans h2
   simp only [List.map_cons,hxe] at h3
   exact ((List.perm_cons _).1 h3).symm
  ·rcases hal with rfl | rfl <;> exact⟨rfl,rfl,rfl,by simp [setBlock],fun i _ hi=>hset.2 i (fun e1=>hi (by rw [e1]))⟩
  ·rcases hal with rfl | rfl <;> simp [setBlock]
section
variable (w:World) {ops:Array Oper} {rest:List Oper} {o:Oper} {a:Act} {Q:Exit→Act→World→Prop}
theorem wpList_range_pl (hg:o.guard=none) (m:Operand) (hop:o.op=Op.range 179 m) (b:Nat) (M:Eff) (hm:a.eval m = .map (some b)) (h:PMap w b M)
  (hK:∀ w',PRange w' b w.heap.size M M→w.grownBy w' none→w'.heap.size=w.heap.size+1→wpList Tryz.prog ops Q rest (a.put o.dst (.pointer (some ⟨w.heap.size,0,none⟩))) w'):wpList Tryz.prog ops Q (o :: rest) a w:=by
 refine wpList_plain hg fun K' hK' => ?_
 obtain⟨w',hrun,r1,r2,r3⟩:=h.range
 unfold Oper.wp
 simp [execOp,hop,hm,hrun,Result.andThen]
 exact hK' _ _ (hK w' r1 r2 r3)
theorem wpList_next_pl (hg:o.guard=none) (it:Operand) (hop:o.op=Op.next it false) (b r:Nat) (M todo:Eff) (hit:a.eval it = .pointer (some ⟨r,0,none⟩)) (h:PRange w b r M todo)
  (hDone:todo=[]→wpList Tryz.prog ops Q rest (a.put o.dst (.tuple #[.bool false])) w)
  (hMore:∀ x todo' w',todo.Perm (x :: todo')→PRange w' b r M todo'→w.grownBy w' (some r)→w'.heap.size=w.heap.size→(Instr.entry (.pointer (some ⟨r,0,none⟩))).run Tryz.prog w' = .ok (.tuple #[plV x.1,secVal x.2]) w' →
   wpList Tryz.prog ops Q rest (a.put o.dst (.tuple #[.bool true,plV x.1,secVal x.2])) w'):wpList Tryz.prog ops Q (o :: rest) a w:=by
 refine wpList_plain hg fun K' hK' => ?_
 unfold Oper.wp
 rcases h.next o.type with ⟨h0,hrun⟩ | ⟨x,todo',w',hp,hrun,hr',hgr,hsz,hen⟩
 ·simp [execOp,hop,hit,hrun,Result.andThen]
  exact hK' _ _ (hDone h0)
 ·simp [execOp,hop,hit,hrun,Result.andThen]
  exact hK' _ _ (hMore x todo' w' hp hr' hgr hsz hen)
end
end Go.Proofs.YtgndgkjefgjamaaGreat
namespace Go.Proofs.YtgndgkjefgjamaaGreat
open Go.RowKit

def placedN (x:Wr):Int:=if x.1<0∨x.1 ≥ 8 then 7 else if x.2.2.length=0 then 1 else if x.2.1<0∨x.2.1 > 4096 - x.2.2.length then 2 else 0

theorem placed_any (v s:Int) (n:Nat) (D:Option Addr) (c:Nat) (w:World) (hn:n≤9223372036854775807) (data:List Sec) (hd:data.length=n) :
  Calls Tryz.prog 118 #[.agg #[.int .i64 v,.int .i64 s,.slice D n c]] w fun e w'=>e = .returned (.int .i64 (placedN (v,s,data)))∧Below w.heap.size w w':=by
 have HD:=Lib.hid hd;clear hd
 go_enter Tryz.func118,Tryz.ntmps118
 go_wp2
 all_goals go_ret
 all_goals refine⟨ret_int ?_,(Below.refl _ _).alloc (Nat.le_refl _) _⟩
 all_goals (have:=HD.out;simp only [placedN];simp_all;try omega)
theorem behind_any (v s:Int) (w:World) (h1 : -9223372036854775808≤s) (h2:s<9223372036854775807) :
  Calls Tryz.prog 148 #[.agg #[.int .i64 v,.int .i64 s]] w fun e w'=>e = .returned (.agg #[.int .i64 v,.int .i64 (s+1)])∧Below w.heap.size w w':=by
 go_enter Tryz.func148,Tryz.ntmps148
 go_wp2
 exact bodyPost_ret (v := .agg #[.int .i64 v,.int .i64 (s+1)]) (by simp [results,Tryz.results148,go_sem]) rfl ⟨rfl,((Below.refl _ _).alloc (Nat.le_refl _) _).alloc (by simp) _⟩
def orI (x y:Int):Int:=if x≠0 then x else y
theorem or2_any (x y:Int) (c b:Nat) (w:World) (h0:w.cell? ⟨b,0,none⟩=some (.int .i64 x)) (h1:w.cell? ⟨b,1,none⟩=some (.int .i64 y)) :
  Calls Tryz.prog 170 #[.slice (some ⟨b,0,none⟩) 2 c] w fun e w'=>e = .returned (.int .i64 (orI x y))∧w'=w:=by
 go_enter Tryz.func170,Tryz.ntmps170
 go_wp2
 go_loopw [5,8] (fun _ i wr=>wr=w∧(i = .int .i64 0∨(i = .int .i64 1∧Hid (x=0))∨(i = .int .i64 2∧Hid (x=0)∧Hid (y=0)))) (fun _ i _=>2 - (intOf i).toNat)
 case atStart=>exact⟨rfl,Or.inl rfl⟩
 case round =>
  obtain⟨rfl,rfl | ⟨rfl,hx⟩ | ⟨rfl,hx,hy⟩⟩:=hrel
  ·by_cases hx:x=0
   ·have hx':(x != 0)=false:=by simp [hx]
    have HX:=Lib.hid hx;clear hx
    go_wp2
    go_roundw
    case rel=>exact⟨by trivial,Or.inr (Or.inl ⟨rfl,HX.out⟩)⟩
    case measure=>simp [intOf]
   ·have hx':(x != 0)=true:=by simp [hx]
    have HX:=Lib.hid hx;clear hx
    go_wp2
    go_ret
    exact⟨ret_int (by have:=HX.out;simp_all [orI]),rfl⟩
  ·by_cases hy:y=0
   ·have hy':(y != 0)=false:=by simp [hy]
    have HY:=Lib.hid hy;clear hy
    go_wp2
    go_roundw
    case rel=>exact⟨by trivial,Or.inr (Or.inr ⟨rfl,hx,HY.out⟩)⟩
    case measure=>simp [intOf]
   ·have hy':(y != 0)=true:=by simp [hy]
    have HY:=Lib.hid hy;clear hy
    go_wp2
    go_ret
    exact⟨ret_int (by have:=hx.out;simp_all [orI]),rfl⟩
  ·go_wp2
   go_ret
   exact⟨ret_int (by have h1:=hx.out;have h2:=hy.out;simp_all [orI]),rfl⟩
def befI (p q:Pl):Int:=orI (cmpI p.1 q.1) (cmpI p.2 q.2)
end Go.Proofs.YtgndgkjefgjamaaGreat

namespace Go.Proofs.YtgndgkjefgjamaaGreat
open Go.RowKit

def fewL (l:List Wr):Bool:=l.length≤40 && (l.all fun x=>x.2.2.length≤24)
def sectsL (l:List Wr):Nat:=(l.map (·.2.2.length)).sum
theorem sectsL_snoc (l:List Wr) (x:Wr):sectsL (l++[x])=sectsL l+x.2.2.length:=by simp [sectsL]
end Go.Proofs.YtgndgkjefgjamaaGreat

namespace Go.Proofs.YtgndgkjefgjamaaGreat
open Go.RowKit

def fitsN (sz:List Int) (x:Wr):Int:=if x.1<0∨x.1 ≥ sz.length then 7 else if x.2.2.length=0 then 1 else if x.2.1<0∨x.2.1 ≥ sz.getD x.1.toNat 0∨x.2.2.length > sz.getD x.1.toNat 0 - x.2.1 then 2 else 0

section
variable {sz:List Int} {k:Nat} {s:Int} {data:List Sec}
theorem fitsN_7 {v:Int} (h:v<0∨sz.length≤v):fitsN sz (v,s,data)=7:=by unfold fitsN;exact if_pos h
theorem fitsN_1 (hk:k<sz.length) (h:data.length=0):fitsN sz ((k:Int),s,data)=1:=by
 unfold fitsN;rw [if_neg (by simp;omega)];exact if_pos h
theorem fitsN_2 (hk:k<sz.length) (h:data.length≠0) (h2:s<0∨sz[k]≤s∨sz[k] - s<data.length):fitsN sz ((k:Int),s,data)=2:=by
 have hg:sz.getD (k:Int).toNat 0=sz[k]:=by simp [hk]
 unfold fitsN
 simp only [hg]
 rw [if_neg (by omega),if_neg (by simpa using h),if_pos h2]
theorem fitsN_0 (hk:k<sz.length) (h:data.length≠0) (h2:¬ (s<0∨sz[k]≤s∨sz[k] - s<data.length)):fitsN sz ((k:Int),s,data)=0:=by
 have hg:sz.getD (k:Int).toNat 0=sz[k]:=by simp [hk]
 unfold fitsN
 simp only [hg]
 rw [if_neg (by omega),if_neg (by simpa using h),if_neg h2]
end
theorem fits_any (A:Option Addr) (c:Nat) (S:Nat→Prop) (sz:List Int) (v s:Int) (D:Option Addr) (dc:Nat) (data:List Sec) (w:World) (h1:SlAt encInt w S A sz) (hs:sz.length≤9223372036854775807) (hS:∀ b,S b→b<w.heap.size) (hn:data.length≤9223372036854775807) (hv:I64 v) (hs2:I64 s) :
  Calls Tryz.prog 116 #[.slice A sz.length c,.agg #[.int .i64 v,.int .i64 s,.slice D data.length dc]] w fun e w'=>e = .returned (.int .i64 (fitsN sz (v,s,data)))∧Below w.heap.size w w':=by
 obtain⟨hv1,hv2⟩:=hv
 obtain⟨hs1,hs2⟩:=hs2
 by_cases c1:v<0∨sz.length≤v
 ·go_enter Tryz.func116,Tryz.ntmps116
  rcases c1 with c1 | c1
  ·go_wp2
   go_ret
   exact⟨ret_int (fitsN_7 (by omega)).symm,(Below.refl _ _).alloc (Nat.le_refl _) _⟩
  ·have:¬ v<0:=by omega
   go_wp2
   go_ret
   exact⟨ret_int (fitsN_7 (by omega)).symm,(Below.refl _ _).alloc (Nat.le_refl _) _⟩
 ·have c2:0≤v:=by omega
  have c3:v<sz.length:=by omega
  obtain⟨k,rfl⟩:=Int.eq_ofNat_of_zero_le c2
  have hk:k<sz.length:=by omega
  obtain⟨b,off,rfl,hb,hcell,hi1,hi2⟩:=h1.int hk
  have hlt:=hS b hb
  clear c1
  by_cases c4:data.length=0
  ·have c4':((data.length:Int)==0)=true:=by simp [c4]
   have C4:=Lib.hid c4;clear c4
   go_enter Tryz.func116,Tryz.ntmps116
   go_wp2
   go_ret
   exact⟨ret_int (fitsN_1 hk C4.out).symm,(Below.refl _ _).alloc (Nat.le_refl _) _⟩
  ·have c4':((data.length:Int)==0)=false:=by rw [beq_eq_false_iff_ne];omega
   have C4:=Lib.hid c4
   go_enter Tryz.func116,Tryz.ntmps116
   by_cases d1:s<0
   ·have d1':decide (s<0)=true:=by simp [d1]
    go_wp2
    go_quiet (fail)
    go_wp2
    go_ret
    exact⟨ret_int (fitsN_2 hk C4.out (by omega)).symm,bDrew ((Below.refl _ _).alloc (Nat.le_refl _) _) _⟩
   ·have d1':decide (s<0)=false:=by simp;omega
    by_cases d2:sz[k]≤s
    ·have d2':decide (sz[k]≤s)=true:=by simp [d2]
     go_wp2
     go_quiet (fail)
     go_wp2
     go_ret
     exact⟨ret_int (fitsN_2 hk C4.out (by omega)).symm,bDrew ((Below.refl _ _).alloc (Nat.le_refl _) _) _⟩
    ·have d2':decide (sz[k]≤s)=false:=by simp;omega
     by_cases d3:sz[k] - s<data.length
     ·have d3':decide (sz[k] - s<(data.length:Int))=true:=by simp [d3]
      go_wp2
      go_quiet (fail)
      go_wp2
      go_ret
      exact⟨ret_int (fitsN_2 hk C4.out (by omega)).symm,bDrew ((Below.refl _ _).alloc (Nat.le_refl _) _) _⟩
     ·have d3':decide (sz[k] - s<(data.length:Int))=false:=by simp;omega
      go_wp2
      go_quiet (fail)
      go_wp2
      go_ret
      exact⟨ret_int (fitsN_0 hk C4.out (by omega)).symm,bDrew ((Below.refl _ _).alloc (Nat.le_refl _) _) _⟩
end Go.Proofs.YtgndgkjefgjamaaGreat

namespace Go.Proofs.YtgndgkjefgjamaaGreat
open Go.RowKit

theorem tyInts:SliceTy Tryz.prog 113 3 1 8:=sliceTy_mk (z := .int .i64 0) Tryz.underlying113 (by kernel_rfl) rfl (by decide)
theorem tySecs:SliceTy Tryz.prog 43 95 8 8:=sliceTy_mk (z := .agg #[.int .u8 0,.int .u8 0,.int .u8 0,.int .u8 0,.int .u8 0,.int .u8 0,.int .u8 0,.int .u8 0]) Tryz.underlying43 (by kernel_rfl) rfl (by decide)
theorem tyWrs:SliceTy Tryz.prog 64 45 3 40:=sliceTy_mk (z := .agg #[.int .i64 0,.int .i64 0,.slice none 0 0]) Tryz.underlying64 (by kernel_rfl) rfl (by decide)

end Go.Proofs.YtgndgkjefgjamaaGreat
namespace Go.Proofs.YtgndgkjefgjamaaGreat
open Go.RowKit

def BRow (w:World) (b:Nat) (m:List Bool):Prop:=w.heap[b]? = some (.cells (m.map Value.bool).toArray 4 (0,0))
section
variable {w w':World} {b k:Nat} {m:List Bool}
theorem BRow.lt (h:BRow w b m):b<w.heap.size:=(Array.getElem?_eq_some_iff.1 h).1
theorem BRow.cell (h:BRow w b m) (hk:k<m.length):w.cell? ⟨b,k,none⟩=some (.bool m[k]):=by
 rw [cell_of_row w b k _ _ _ h]
 simp [hk]
theorem BRow.frozen (h:BRow w b m) (k:Nat):w.frozen? ⟨b,k,none⟩=false:=by
 unfold BRow at h;simp [World.frozen?,h]
theorem BRow.set (h:BRow w b m) (k:Nat) (q:Bool):BRow (w.setCell ⟨b,k,none⟩ (.bool q)) b (m.set k q):=by
 unfold BRow at h ⊢
 simp [World.setCell,Array.getElem?_modify,h]
theorem BRow.blk (h:BRow w b m) (hk:w'.heap[b]? = w.heap[b]?):BRow w' b m:=by unfold BRow at h ⊢;rw [hk];exact h
end
end Go.Proofs.YtgndgkjefgjamaaGreat
namespace Go.Proofs.YtgndgkjefgjamaaGreat
open Go.RowKit

def HoldRet (x:Wr) (V S:Int) (w:World) (e:Ending) (w':World):Prop :=
 ∃ k q,e = .returned (.tuple #[.int .i64 k,.bool q])∧((q=true∧hits x V S∧k=S - x.2.1)∨(q=false∧¬ hits x V S))∧Below w.heap.size w w'
theorem HoldRet.no {x:Wr} {V S k:Int} {w w':World} (h:¬ hits x V S) (hb:Below w.heap.size w w'):HoldRet x V S w (.returned (.tuple #[.int .i64 k,.bool false])) w' :=
 ⟨_,_,rfl,Or.inr ⟨rfl,h⟩,hb⟩

def zrow:Array Value := #[.int .u8 0,.int .u8 0,.int .u8 0,.int .u8 0,.int .u8 0,.int .u8 0,.int .u8 0,.int .u8 0]
end Go.Proofs.YtgndgkjefgjamaaGreat

namespace Go.Proofs.YtgndgkjefgjamaaGreat
open Go.RowKit

theorem tyExts:SliceTy Tryz.prog 93 104 2 16:=sliceTy_mk (z := .agg #[.int .i64 0,.int .i64 0]) Tryz.underlying93 (by kernel_rfl) rfl (by decide)
end Go.Proofs.YtgndgkjefgjamaaGreat
namespace Go.Proofs.YtgndgkjefgjamaaGreat
open Go.RowKit

end Go.Proofs.YtgndgkjefgjamaaGreat

namespace Go.Proofs.YtgndgkjefgjamaaGreat
open Go.RowKit

end Go.Proofs.YtgndgkjefgjamaaGreat

namespace Go.Proofs.YtgndgkjefgjamaaGreat
open Go.RowKit

def errOf {α:Type} (f:α→Int) (l:List α):Int:=((l.find? fun x=>f x != 0).map f).getD 0
theorem errOf_zero {α:Type} {f:α→Int} {l:List α} (h:∀ x∈l,f x=0):errOf f l=0:=by
 have:l.find? (fun x=>f x != 0)=none:=List.find?_eq_none.2 (fun x hx=>by simp [h x hx])
 simp [errOf,this]
theorem errOf_at {α:Type} {f:α→Int} {l:List α} {k:Nat} (hk:k<l.length) (h:∀ x∈l.take k,f x=0) (hn:f l[k]≠0):errOf f l=f l[k]:=by
 have e:l=l.take k++l[k] :: l.drop (k+1):=by rw [← List.drop_eq_getElem_cons hk,List.take_append_drop]
 have:l.find? (fun x=>f x != 0)=some l[k]:=by
  conv=>lhs;rw [e]
  rw [List.find?_append,List.find?_eq_none.2 (fun x hx=>by simp [h x hx]),Option.none_or,List.find?_cons_of_pos (by simpa using hn)]
 simp [errOf,this]
def foldL (l:List Wr):List Wr:=if errOf placedN l=0 then foldS l else []

end Go.Proofs.YtgndgkjefgjamaaGreat

namespace Go.Proofs.YtgndgkjefgjamaaGreat
open Go.RowKit

theorem placed_ok {x:Wr} (h:placedN x=0):0≤x.1∧x.1<8∧0<x.2.2.length∧0≤x.2.1∧x.2.1+x.2.2.length≤4096:=by
 unfold placedN at h
 split at h
 ·cases h
 ·split at h
  ·cases h
  ·split at h
   ·cases h
   ·omega
def stepErr (f:Wr→Int) (p:Option Wr × Wr):Int :=
 if f p.2≠0 then f p.2 else match p.1 with
  | none=>0
  | some y=>if p.2.1<y.1∨(p.2.1=y.1∧p.2.2.1≤y.2.1+y.2.2.length) then 3 else 0
def withPrev (l:List Wr):List (Option Wr × Wr):=(none :: l.map some).zip l
theorem withPrev_len (l:List Wr):(withPrev l).length=l.length:=by simp [withPrev]
theorem withPrev_zero {l:List Wr} (h:0<l.length):(withPrev l)[0]'(by rw [withPrev_len];exact h)=(none,l[0]):=by
 simp [withPrev]
theorem withPrev_succ {l:List Wr} {k:Nat} (h:k+1<l.length):(withPrev l)[k+1]'(by rw [withPrev_len];exact h)=(some l[k],l[k+1]):=by
 simp [withPrev]
def chkN (f:Wr→Int) (l:List Wr):Int:=errOf (stepErr f) (withPrev l)
theorem stepErr_f {f:Wr→Int} {p:Option Wr × Wr} (h:stepErr f p=0):f p.2=0:=by
 unfold stepErr at h
 by_cases h1:f p.2=0
 ·exact h1
 ·rw [if_pos h1] at h;exact absurd h h1
theorem takePrev {f:Wr→Int} {l:List Wr} {k:Nat} (hk:k<l.length) (h:∀ x∈(withPrev l).take (k+1),stepErr f x=0):f l[k]=0:=by
 have hm:(withPrev l)[k]'(by rw [withPrev_len];exact hk)∈(withPrev l).take (k+1):=by
  rw [List.take_succ_eq_append_getElem (by rw [withPrev_len];exact hk)]
  exact List.mem_append_right _ (List.mem_singleton.2 rfl)
 have h1:=stepErr_f (h _ hm)
 cases k with
 | zero=>rw [withPrev_zero hk] at h1;exact h1
 | succ k=>rw [withPrev_succ hk] at h1;exact h1
theorem takeSnoc {f:Wr→Int} {l:List Wr} {k:Nat} (hk:k<l.length) (p:Option Wr × Wr) (hp:(withPrev l)[k]'(by rw [withPrev_len];exact hk)=p) (h:∀ x∈(withPrev l).take k,stepErr f x=0) (h0:stepErr f p=0):∀ x∈(withPrev l).take (k+1),stepErr f x=0:=by
 intro x hx
 rw [List.take_succ_eq_append_getElem (by rw [withPrev_len];exact hk)] at hx
 rcases List.mem_append.1 hx with hx | hx
 ·exact h x hx
 ·rw [List.mem_singleton.1 hx,hp];exact h0
theorem chk_at {f:Wr→Int} {l:List Wr} {k:Nat} (hk:k<l.length) (p:Option Wr × Wr) (hp:(withPrev l)[k]'(by rw [withPrev_len];exact hk)=p) (h:∀ x∈(withPrev l).take k,stepErr f x=0) (h0:stepErr f p≠0):chkN f l=stepErr f p:=by
 have:=errOf_at (f:=stepErr f) (l:=withPrev l) (k:=k) (by rw [withPrev_len];exact hk) h (by rw [hp];exact h0)
 rw [chkN,this,hp]
theorem chk_zero {f:Wr→Int} {l:List Wr} (h:∀ x∈(withPrev l).take l.length,stepErr f x=0):chkN f l=0:=by
 refine errOf_zero ?_
 rw [List.take_of_length_le (by rw [withPrev_len];exact Nat.le_refl _)] at h
 exact h

theorem cellAft {W w1:World} {o:Obj} (hb:Below (W.alloc o).heap.size (W.alloc o) w1) {p:Addr} {v:Value} (h:W.cell? p=some v):w1.cell? p=some v:=by
 have hl:=World.block_lt_of_cell? W p h
 exact (hb.cell (by simp;omega)).trans ((World.cell?_alloc_lt W o p hl).trans h)
theorem boxAft {W w1:World} {cs:Array Value} {T:TypeId} (hb:Below (W.alloc (.cells cs T)).heap.size (W.alloc (.cells cs T)) w1):w1.heap[W.heap.size]? = some (.cells cs T (0,0)) :=
 (hb.block _ (by simp)).trans (heap_alloc_new _ _)
theorem chk_all {f:Wr→Int} {l:List Wr} (h:chkN f l=0):∀ x∈l,f x=0:=by
 have hz:∀ p∈withPrev l,stepErr f p=0:=by
  intro p hp
  rcases Decidable.em (stepErr f p=0) with h0 | h0
  ·exact h0
  ·exfalso
   unfold chkN errOf at h
   cases hf:(withPrev l).find? (fun x=>stepErr f x != 0) with
   | none=>have:=List.find?_eq_none.1 hf p hp;simp at this;exact h0 this
   | some q =>
     rw [hf] at h
     have h1:=List.find?_some hf
     simp only [Option.map_some,Option.getD_some] at h
     rw [h] at h1
     simp at h1
 intro x hx
 obtain⟨k,hk,rfl⟩:=List.mem_iff_getElem.1 hx
 exact takePrev hk (fun p hp=>hz p (List.mem_of_mem_take hp))
end Go.Proofs.YtgndgkjefgjamaaGreat
namespace Go.Proofs
open Go.Shelf
def Tryz.sortPl_ren:Go.Shelf.Ren:=⟨fun | 6=>149 | 15=>169 | 14=>168 | 28=>187 | 29=>188 | 20=>179 | 21=>180 | 22=>181 | 23=>182 | 24=>183 | 25=>184 | 26=>185 | 27=>186 | 46=>193 | 47=>194 | 48=>195 | 49=>196 | 50=>197 | 57=>199 | n=>n,fun | 22=>213 | 24=>211 | 25=>215 | 3=>3 | 39=>206 | 0=>0 | 53=>261 | 55=>205 | 4=>4 | 46=>255 | 45=>254 | 50=>240 | 5=>5 | 9=>9 | 66=>267 | 70=>271 | 76=>274 | 77=>185 | n=>n,fun | n=>n⟩
theorem Tryz.sortPl:Go.Proofs.SlLaysF0.n6 Tryz.prog Tryz.sortPl_ren:={
 mixed:=by kernel_rfl
 f6:=⟨Tryz.f149.name,by decide,Tryz.func149.trans (congrArg some (by kernel_rfl))⟩
 f14:=⟨Tryz.f168.name,by decide,Tryz.func168.trans (congrArg some (by kernel_rfl))⟩
 f15:=Tryz.func169.trans (congrArg some (by kernel_rfl))
 f20:=⟨Tryz.f179.name,by decide,Tryz.func179.trans (congrArg some (by kernel_rfl))⟩
 f21:=⟨Tryz.f180.name,by decide,Tryz.func180.trans (congrArg some (by kernel_rfl))⟩
 f22:=⟨Tryz.f181.name,by decide,Tryz.func181.trans (congrArg some (by kernel_rfl))⟩
 f23:=⟨Tryz.f182.name,by decide,Tryz.func182.trans (congrArg some (by kernel_rfl))⟩
 f24:=⟨Tryz.f183.name,by decide,Tryz.func183.trans (congrArg some (by kernel_rfl))⟩
 f25:=⟨Tryz.f184.name,by decide,Tryz.func184.trans (congrArg some (by kernel_rfl))⟩
 f26:=⟨Tryz.f185.name,by decide,Tryz.func185.trans (congrArg some (by kernel_rfl))⟩
 f27:=⟨Tryz.f186.name,by decide,Tryz.func186.trans (congrArg some (by kernel_rfl))⟩
 f28:=Tryz.func187.trans (congrArg some (by kernel_rfl))
 f29:=Tryz.func188.trans (congrArg some (by kernel_rfl))
 f46:=⟨Tryz.f193.name,by decide,Tryz.func193.trans (congrArg some (by kernel_rfl))⟩
 f47:=Tryz.func194.trans (congrArg some (by kernel_rfl))
 f48:=Tryz.func195.trans (congrArg some (by kernel_rfl))
 f49:=⟨Tryz.f196.name,by decide,Tryz.func196.trans (congrArg some (by kernel_rfl))⟩
 f50:=⟨Tryz.f197.name,by decide,Tryz.func197.trans (congrArg some (by kernel_rfl))⟩
 f57:=⟨Tryz.f199.name,by decide,Tryz.func199.trans (congrArg some (by kernel_rfl))⟩
 t0:=Tryz.underlying0
 a0:=Tryz.isAgg0
 z0:=Tryz.sizeOf0
 v0:=Tryz.zeroValue0
 t3:=Tryz.underlying3
 a3:=Tryz.isAgg3
 z3:=Tryz.sizeOf3
 v3:=Tryz.zeroValue3
 t4:=Tryz.underlying4
 a4:=Tryz.isAgg4
 z4:=Tryz.sizeOf4
 v4:=Tryz.zeroValue4
 t5:=Tryz.underlying5
 a5:=Tryz.isAgg5
 z5:=Tryz.sizeOf5
 v5:=Tryz.zeroValue5
 t9:=Tryz.underlying9
 a9:=Tryz.isAgg9
 z9:=Tryz.sizeOf9
 v9:=Tryz.zeroValue9
 t22:=Tryz.underlying213
 a22:=Tryz.isAgg213
 z22:=Tryz.sizeOf213
 v22:=Tryz.zeroValue213
 t25:=Tryz.underlying215
 a25:=Tryz.isAgg215
 z25:=Tryz.sizeOf215
 v25:=Tryz.zeroValue215
 t39:=Tryz.underlying206
 a39:=Tryz.isAgg206
 z39:=Tryz.sizeOf206
 v39:=Tryz.zeroValue206
 t45:=Tryz.underlying254
 a45:=Tryz.isAgg254
 z45:=Tryz.sizeOf254
 v45:=Tryz.zeroValue254
 t46:=Tryz.underlying255
 a46:=Tryz.isAgg255
 z46:=Tryz.sizeOf255
 v46:=Tryz.zeroValue255
 t50:=Tryz.underlying240
 a50:=Tryz.isAgg240
 z50:=Tryz.sizeOf240
 v50:=Tryz.zeroValue240
 t53:=Tryz.underlying261
 a53:=Tryz.isAgg261
 z53:=Tryz.sizeOf261
 v53:=Tryz.zeroValue261
 t55:=Tryz.underlying205
 a55:=Tryz.isAgg205
 z55:=Tryz.sizeOf205
 v55:=Tryz.zeroValue205
 t66:=Tryz.underlying267
 a66:=Tryz.isAgg267
 z66:=Tryz.sizeOf267
 v66:=Tryz.zeroValue267
 t70:=Tryz.underlying271
 a70:=Tryz.isAgg271
 z70:=Tryz.sizeOf271
 v70:=Tryz.zeroValue271
 t76:=Tryz.underlying274
 a76:=Tryz.isAgg274
 z76:=Tryz.sizeOf274
 v76:=Tryz.zeroValue274
 t77:=Tryz.underlying185
 a77:=Tryz.isAgg185
 z77:=Tryz.sizeOf185
 v77:=Tryz.zeroValue185 }
def Tryz.sortEnd_ren:Go.Shelf.Ren:=⟨fun | 6=>191 | 15=>169 | 14=>198 | 28=>187 | 29=>188 | 20=>200 | 21=>201 | 22=>202 | 23=>203 | 24=>204 | 25=>205 | 26=>206 | 27=>207 | 46=>208 | 47=>194 | 48=>195 | 49=>209 | 50=>210 | 57=>211 | n=>n,fun | 22=>246 | 24=>250 | 25=>266 | 3=>3 | 39=>206 | 0=>0 | 53=>261 | 55=>205 | 4=>4 | 46=>255 | 45=>254 | 50=>240 | 5=>5 | 9=>9 | 66=>267 | 70=>271 | 76=>274 | 77=>185 | n=>n,fun | n=>n⟩
theorem Tryz.sortEnd:Go.Proofs.SlLaysF0.n6 Tryz.prog Tryz.sortEnd_ren:={
 mixed:=by kernel_rfl
 f6:=⟨Tryz.f191.name,by decide,Tryz.func191.trans (congrArg some (by kernel_rfl))⟩
 f14:=⟨Tryz.f198.name,by decide,Tryz.func198.trans (congrArg some (by kernel_rfl))⟩
 f15:=Tryz.func169.trans (congrArg some (by kernel_rfl))
 f20:=⟨Tryz.f200.name,by decide,Tryz.func200.trans (congrArg some (by kernel_rfl))⟩
 f21:=⟨Tryz.f201.name,by decide,Tryz.func201.trans (congrArg some (by kernel_rfl))⟩
 f22:=⟨Tryz.f202.name,by decide,Tryz.func202.trans (congrArg some (by kernel_rfl))⟩
 f23:=⟨Tryz.f203.name,by decide,Tryz.func203.trans (congrArg some (by kernel_rfl))⟩
 f24:=⟨Tryz.f204.name,by decide,Tryz.func204.trans (congrArg some (by kernel_rfl))⟩
 f25:=⟨Tryz.f205.name,by decide,Tryz.func205.trans (congrArg some (by kernel_rfl))⟩
 f26:=⟨Tryz.f206.name,by decide,Tryz.func206.trans (congrArg some (by kernel_rfl))⟩
 f27:=⟨Tryz.f207.name,by decide,Tryz.func207.trans (congrArg some (by kernel_rfl))⟩
 f28:=Tryz.func187.trans (congrArg some (by kernel_rfl))
 f29:=Tryz.func188.trans (congrArg some (by kernel_rfl))
 f46:=⟨Tryz.f208.name,by decide,Tryz.func208.trans (congrArg some (by kernel_rfl))⟩
 f47:=Tryz.func194.trans (congrArg some (by kernel_rfl))
 f48:=Tryz.func195.trans (congrArg some (by kernel_rfl))
 f49:=⟨Tryz.f209.name,by decide,Tryz.func209.trans (congrArg some (by kernel_rfl))⟩
 f50:=⟨Tryz.f210.name,by decide,Tryz.func210.trans (congrArg some (by kernel_rfl))⟩
 f57:=⟨Tryz.f211.name,by decide,Tryz.func211.trans (congrArg some (by kernel_rfl))⟩
 t0:=Tryz.underlying0
 a0:=Tryz.isAgg0
 z0:=Tryz.sizeOf0
 v0:=Tryz.zeroValue0
 t3:=Tryz.underlying3
 a3:=Tryz.isAgg3
 z3:=Tryz.sizeOf3
 v3:=Tryz.zeroValue3
 t4:=Tryz.underlying4
 a4:=Tryz.isAgg4
 z4:=Tryz.sizeOf4
 v4:=Tryz.zeroValue4
 t5:=Tryz.underlying5
 a5:=Tryz.isAgg5
 z5:=Tryz.sizeOf5
 v5:=Tryz.zeroValue5
 t9:=Tryz.underlying9
 a9:=Tryz.isAgg9
 z9:=Tryz.sizeOf9
 v9:=Tryz.zeroValue9
 t22:=Tryz.underlying246
 a22:=Tryz.isAgg246
 z22:=Tryz.sizeOf246
 v22:=Tryz.zeroValue246
 t25:=Tryz.underlying266
 a25:=Tryz.isAgg266
 z25:=Tryz.sizeOf266
 v25:=Tryz.zeroValue266
 t39:=Tryz.underlying206
 a39:=Tryz.isAgg206
 z39:=Tryz.sizeOf206
 v39:=Tryz.zeroValue206
 t45:=Tryz.underlying254
 a45:=Tryz.isAgg254
 z45:=Tryz.sizeOf254
 v45:=Tryz.zeroValue254
 t46:=Tryz.underlying255
 a46:=Tryz.isAgg255
 z46:=Tryz.sizeOf255
 v46:=Tryz.zeroValue255
 t50:=Tryz.underlying240
 a50:=Tryz.isAgg240
 z50:=Tryz.sizeOf240
 v50:=Tryz.zeroValue240
 t53:=Tryz.underlying261
 a53:=Tryz.isAgg261
 z53:=Tryz.sizeOf261
 v53:=Tryz.zeroValue261
 t55:=Tryz.underlying205
 a55:=Tryz.isAgg205
 z55:=Tryz.sizeOf205
 v55:=Tryz.zeroValue205
 t66:=Tryz.underlying267
 a66:=Tryz.isAgg267
 z66:=Tryz.sizeOf267
 v66:=Tryz.zeroValue267
 t70:=Tryz.underlying271
 a70:=Tryz.isAgg271
 z70:=Tryz.sizeOf271
 v70:=Tryz.zeroValue271
 t76:=Tryz.underlying274
 a76:=Tryz.isAgg274
 z76:=Tryz.sizeOf274
 v76:=Tryz.zeroValue274
 t77:=Tryz.underlying185
 a77:=Tryz.isAgg185
 z77:=Tryz.sizeOf185
 v77:=Tryz.zeroValue185 }
end Go.Proofs

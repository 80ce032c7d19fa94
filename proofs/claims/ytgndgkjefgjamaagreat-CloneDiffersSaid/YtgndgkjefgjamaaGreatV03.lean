/-
  The walk of effect: the map of the effects of a list of placed writes.; Plain laws of canonical lists: places in order, the effect of a canonical list, that it passes the check. No program in sight.
-/
import Derived.Deep.RegionLaw
import Derived.Test.YtgndgkjefgjamaaGreatV01
import Derived.Test.YtgndgkjefgjamaaGreatV02
set_option linter.unusedVariables false
set_option linter.unusedSimpArgs false
set_option linter.unusedSectionVars false
set_option linter.unnecessarySimpa false
namespace Go.Proofs.YtgndgkjefgjamaaGreat
open Go.RowKit Go.ChangeMaps

def effW (M:Eff) (x:Wr) (j:Nat):Eff:=(List.range j).foldl (fun M (i:Nat)=>putE M (x.1,x.2.1+i) (x.2.2.getD i zsec)) M
theorem effW_succ (M:Eff) (x:Wr) (j:Nat):effW M x (j+1)=putE (effW M x j) (x.1,x.2.1+j) (x.2.2.getD j zsec):=by simp [effW,List.range_succ]
def effM (l:List Wr):Eff:=l.foldl (fun M x=>effW M x x.2.2.length) []
theorem effM_snoc (l:List Wr) (x:Wr):effM (l++[x])=effW (effM l) x x.2.2.length:=by simp [effM]
theorem emptyMap (w:World):PMap (w.alloc (.map #[] 0)) w.heap.size [] :=
 ⟨#[],0,heap_alloc_new _ _,⟨by simp,by simp,by simp⟩,rfl,by simp⟩

def EffRet (M:Eff) (w:World) (e:Ending) (w':World):Prop:=∃ b,e = .returned (.map (some b))∧PMap w' b M∧w.heap.size≤b∧Below w.heap.size w w'

set_option maxHeartbeats 2000000 in
theorem effect_any (A:Option Addr) (c:Nat) (l:List Wr) (w:World) (h1:SlAt encWr w (Bl w.heap.size) A l) (hs:l.length≤9223372036854775807) (hp:∀ x∈l,placedN x=0) :
  Calls Tryz.prog 119 #[.slice A l.length c] w (EffRet (effM l) w):=by
 have H2:Hid (∀ w',Below w.heap.size w w'→SlAt encWr w' (Bl w.heap.size) A l):=fun w' hb=>h1.below hb
 clear h1
 have HP:=Lib.hid hp;clear hp
 have hmm:=@run_makeMap Tryz.prog
 go_enter Tryz.func119,Tryz.ntmps119
 go_wp2
 go_loopw [12] (fun i wr=>∃ k:Nat,k≤l.length∧i = .int .i64 k∧Below w.heap.size w wr∧Hid (PMap wr w.heap.size (effM (l.take k)))) (fun i _=>l.length - (intOf i).toNat)
 case atStart=>exact⟨0,by omega,rfl,(Below.refl _ _).alloc (Nat.le_refl _) _,emptyMap _⟩
 case round =>
  clear hmm
  obtain⟨wo,rfl⟩:∃ wo:World,wo=wr:=⟨_,rfl⟩
  obtain⟨k,hk,rfl,hB,hM⟩:=hrel
  by_cases hlt:k<l.length
  ·obtain⟨b,off,D,dc,rfl,hb,g0,g1,g2,hD,hn1,hn2,hi1,hi2⟩:=(H2.out wo hB).wr hlt
   have hbl:b<w.heap.size:=hb
   obtain⟨v0,v8,hd0,hs0,hs4⟩:=placed_ok (HP.out _ (List.getElem_mem hlt))
   have hmlt:=hM.out.lt
   have hnn:(0:Int)≤k:=by omega
   have hki:(k:Int)<l.length:=by omega
   have hm1:Hid (effM (l.take (k+1))=effW (effM (l.take k)) l[k] l[k].2.2.length):=by
    rw [List.take_succ_eq_append_getElem hlt,effM_snoc];exact rfl
   obtain⟨M,hMe⟩:∃ M,Hid (M=effM (l.take k)):=⟨_,Lib.hid rfl⟩
   have hM2:=hM.out
   rw [← hMe.out] at hM2 hm1
   have HM:=Lib.hid hM2;clear hM hM2
   obtain⟨x,hx⟩:∃ x,x=l[k]:=⟨_,rfl⟩
   rw [← hx] at g0 g1 g2 hD hn1 hi1 hi2 v0 v8 hd0 hs0 hs4 hm1
   have HXX:=Lib.hid hx;clear hx
   obtain⟨v,s,data⟩:=x
   simp only at g0 g1 g2 hD hn1 hi1 hi2 v0 v8 hd0 hs0 hs4 hm1
   go_wp2
   go_loopw [24] (fun s24 w2=>∃ j:Nat,j≤data.length∧s24 = .int .i64 j∧wo.grownBy w2 (some w.heap.size)∧Hid (w2.heap[wo.heap.size+1]? = some (.cells #[.int .i64 v,.int .i64 (s+j)] 211 (0,0)))∧Hid (PMap w2 w.heap.size (effW M (v,s,data) j))) (fun s24 _=>data.length - (intOf s24).toNat)
   case atStart=>exact⟨0,by omega,rfl,(World.grownBy_alloc _ _ _).trans (World.grownBy_alloc _ _ _),by simpa [Hid] using heap_new2 wo _ _,(HM.out.alloc _).alloc _⟩
   case round =>
    obtain⟨j,hj,rfl,hg2,hbox,hM2⟩:=hrel
    have hsz2:=hg2.size
    have hbx:wo.heap.size+1<wr.heap.size:=(Array.getElem?_eq_some_iff.1 hbox.out).1
    obtain⟨p0,p1,pf⟩:=blk2 hbox.out
    by_cases hj2:j<data.length
    ·have hji:(j:Int)<data.length:=by omega
     have hjn:(0:Int)≤j:=by omega
     have hDr:SlAt encSec wr (Bl w.heap.size) D data:=hD.blk (fun b hb=>hg2.block b (Nat.lt_of_lt_of_le hb hB.size) (by have:b<w.heap.size:=hb;simp;omega))
     obtain⟨b2,off2,x0,x1,x2,x3,x4,x5,x6,x7,rfl,hb2,hx,hok,d0,d1,d2,d3,d4,d5,d6,d7⟩:=hDr.sec hj2
     have hbl2:b2<w.heap.size:=hb2
     have hxv:Hid (data.getD j zsec=[x0,x1,x2,x3,x4,x5,x6,x7]):=by rw [← hx];simp [Hid,hj2]
     rw [hx] at hok
     clear hx g0 g1 g2 hDr
     go_wp2_with (at_mapUpdate;refine Hid.out ?_)
     change wpList _ _ _ _ _ _
     refine wpList_mapUpdate_pl _ rfl _ _ _ rfl w.heap.size _ (v,s+j) [x0,x1,x2,x3,x4,x5,x6,x7] rfl rfl rfl (hM2.out.alloc _) hok ?_
     intro w3 hM3 hg3 hs3
     have hM3':=Lib.hid hM3;clear hM3
     have hs3':w3.heap.size=wr.heap.size+1:=by simpa using hs3
     have hbox3:w3.heap[wo.heap.size+1]? = some (.cells #[.int .i64 v,.int .i64 (s+j)] 211 (0,0)):=(hg3.block _ (by simp;omega) (by simp;omega)).trans ((Below.heap_alloc _ _ _ hbx).trans hbox.out)
     have hgw3:wo.grownBy w3 (some w.heap.size):=(grown_alloc hg2 _).trans hg3
     have hlt3:wo.heap.size+1<w3.heap.size:=by omega
     have HS3:=Lib.hid hs3';clear hs3 hs3' hg3
     obtain⟨t0,t1,tf⟩:=blk2 hbox3
     have HB3:=Lib.hid hbox3;clear hbox3
     clear p0 p1 pf
     go_wp2_with fail
     refine (behind_any v (s+j) w3 (by omega) (by omega)).mono ?_
     rintro e w4 ⟨rfl,hb4⟩
     have hbox4:w4.heap[wo.heap.size+1]? = some (.cells #[.int .i64 v,.int .i64 (s+j)] 211 (0,0)):=(hb4.block _ hlt3).trans HB3.out
     have hsz4:=hb4.size
     obtain⟨r0,r1,rf⟩:=blk2 hbox4
     have hset:=Lib.hid (blk2_set hbox4 (.int .i64 v) (.int .i64 (s+j+1)))
     clear hbox4 t0 t1 tf
     go_wp2
     go_roundw
     case rel =>
      refine⟨j+1,by omega,by go_num, ?_, ?_, ?_⟩
      ·exact grown_setNew (grown_setNew (grown_below hgw3 hb4) (by simp) _) (by simp) _
      ·have:=hset.out
       rw [show s+((j+1:Nat):Int)=s+j+1 from by omega]
       exact this
      ·rw [effW_succ]
       have e:((v,s,data):Wr).2.2.getD j zsec=[x0,x1,x2,x3,x4,x5,x6,x7]:=hxv.out
       rw [e]
       have h4:=hM3'.out.kept (hb4.block _ hM3'.out.lt)
       exact (h4.setCell _ _ (by simp;omega)).setCell _ _ (by simp;omega)
     case measure=>simp [intOf];omega
    ·have hjj:j=data.length:=by omega
     have hM3:=hM2.out
     rw [hjj] at hM3
     have HM3:=Lib.hid hM3;clear hM3 hjj
     clear p0 p1 pf g0 g1 g2
     go_wp2
     go_roundw
     case rel =>
      refine⟨k+1,hlt,by go_num,hB.grown hg2 hB.size (fun k e=>by injection e with e;omega), ?_⟩
      rw [hm1.out];exact HM3.out
     case measure=>simp [intOf];omega
  ·have hkk:k=l.length:=by omega
   subst hkk
   go_wp2
   go_ret
   have e:=hM.out
   rw [List.take_length] at e
   exact⟨_,rfl,e,Nat.le_refl _,hB⟩
end Go.Proofs.YtgndgkjefgjamaaGreat

namespace Go.Proofs.YtgndgkjefgjamaaGreat
open Go.RowKit Go.Shelf Go.Lib Go.Sort

def plCells (x:Pl):List Value:=[.int .i64 x.1,.int .i64 x.2]
theorem befI_lt (x y:Pl):ltOf befI x y=decide (x.1<y.1∨(x.1=y.1∧x.2<y.2)):=by
 unfold ltOf befI orI cmpI
 rw [decide_eq_decide]
 split <;> split <;> (try split) <;> (try split) <;> omega
theorem swoPl:SWO (ltOf befI) where
 irrefl x:=by rw [befI_lt];simp
 trans x y z h1 h2:=by rw [befI_lt] at *;simp at *;omega
 ntrans x y z h1 h2:=by rw [befI_lt] at *;simp at *;omega
theorem totPl (x y:Pl) (h1:ltOf befI x y=false) (h2:ltOf befI y x=false):x=y:=by
 rw [befI_lt] at h1 h2
 simp at h1 h2
 exact Prod.ext (by omega) (by omega)

set_option maxHeartbeats 1000000 in
theorem before_grow (p q:Pl) (W:World) :
  Calls Tryz.prog 150 #[.agg #[.int .i64 p.1,.int .i64 p.2],.agg #[.int .i64 q.1,.int .i64 q.2]] W fun e w'=>e = .returned (.int .i64 (befI p q))∧∃ n os',w'=grow (W.drewN n) os':=by
 obtain⟨a,b⟩:=p
 obtain⟨c,d⟩:=q
 go_enter Tryz.func150,Tryz.ntmps150
 go_wp2_with fail
 go_region_held3 (fun w'=>w'.cell? ⟨W.heap.size,0,none⟩=some (.int .i64 a)∧w'.cell? ⟨W.heap.size,1,none⟩=some (.int .i64 b)∧w'.cell? ⟨W.heap.size+1,0,none⟩=some (.int .i64 c)∧w'.cell? ⟨W.heap.size+1,1,none⟩=some (.int .i64 d)) (go_keep)
  (first | (go_at_call 171;refine (compare_any _ _ _).mono ?_;rintro e w' ⟨rfl,rfl⟩) | (go_at_call 170;refine (or2_any (cmpI a c) (cmpI b d) _ _ _ ?_ ?_).mono ?_;go_simp;go_simp;rintro e w' ⟨rfl,rfl⟩))
 go_wp2
 go_ret
 exact⟨ret_int rfl,1,_,by rw [alloc_eq_grow,alloc_eq_grow,alloc_eq_grow,grow_grow,grow_grow];rfl⟩
theorem cmpLaysPl (blk off size:Nat) (w:World):CmpLays Tryz.prog 150 #[] plCells 2 befI blk off size w:=fun _ _ _ _ x y=>before_grow x y _
def sortP (ps:List Pl):List Pl:=ps.mergeSort fun x y => !(ltOf befI) y x
theorem get_flat2 (ps:List Pl) (i:Nat) (hi:i<ps.length):(ps.toArray)[i]! = ps[i]:=by simp [hi]
theorem heap_sortK {w:World} {g n:Nat} {os:Array Obj} (d:Array Pl):w.grownBy (sortWorldK plCells 2 w g 0 n d os) (some g):=by
 refine⟨rfl,rfl,rfl,by simp [sortWorldK,grow,putRowK,putRow,mapBlock,Sort.ahead],fun k hk hne => ?_⟩
 unfold sortWorldK putRowK
 rw [heap_grow_old _ _ (by simpa [putRow,mapBlock,Sort.ahead] using hk)]
 have:g≠k:=fun e=>hne (by rw [e])
 simp [putRow,mapBlock,Sort.ahead,Array.getElem?_modify,this]
theorem sortPl_any (A:Option Addr) (base c:Nat) (T:TypeId) (S:Nat→Prop) (ps:List Pl) (w:World) (h:Own encExt w base T S (.slice A ps.length c) ps) (hl:ps.length≤4611686018427387000) (hok:∀ p∈ps,I64 p.1∧I64 p.2) :
  Calls Tryz.prog 149 #[.slice A ps.length c,.func (.func 150) #[] #[]] w fun e w'=>(∃ v,e = .returned v)∧SlAt encExt w' (fun b=>A=some ⟨b,0,none⟩) A (sortP ps)∧w.grownBy w' (Value.slice A ps.length c).ownBlock:=by
 by_cases h0:ps=[]
 ·subst h0
  have hcon:=AnyF.slices_SortFunc_none { Tryz.sortPl with } A c (.func (.func 150) #[] #[]) w
  change Calls Tryz.prog 149 _ _ _ at hcon
  refine hcon.mono fun e w' ⟨he,hw⟩=>⟨⟨_,he⟩, ?_, ?_⟩
  ·have:sortP []=[]:=by simp [sortP]
   rw [this];exact SlAt.nil_
  ·rw [hw];exact World.grownBy.refl _ _
 ·have hpos:0<ps.length:=List.length_pos_iff.2 h0
  obtain⟨g,_,rfl,_,hg,_⟩:=h.elem hpos
  have eg:∀ args w,(callFunc 150 args).run Tryz.prog w = .ok (.enter 150 args) w:=enters_of Tryz.func150 (by kernel_rfl) rfl
  have hH:HoldsK plCells 2 w g 0 ps.toArray:=by
   intro t ht
   rw [size_flatK] at ht
   have ht':t<ps.length * 2:=by simpa using ht
   have hi:t / 2<ps.length:=by omega
   obtain⟨g',cs,he,_,_,_,hc,hf,hr⟩:=h.elem (i:=t / 2) hi
   injection he with he
   injection he with he
   subst he
   obtain⟨rfl,_,_⟩:=ext_cs hr
   refine⟨?_,by simpa using hf (0+t)⟩
   rw [get_flatK _ _ _ _ ht,get_flat2 ps _ hi]
   have hm:t % 2=0∨t % 2=1:=by omega
   have e2:encExt.size=2:=rfl
   rcases hm with hm | hm
   ·have:=hc 0 _ rfl
    rw [e2,show t / 2 * 2+0=0+t from by omega] at this
    rw [hm];exact this
   ·have:=hc 1 _ rfl
    rw [e2,show t / 2 * 2+1=0+t from by omega] at this
    rw [hm];exact this
  have hcon:=AnyQ.slices_SortFunc_total Tryz.sortPl 2 Tryz.isAgg211 Tryz.sizeOf211 plCells (fun _=>rfl) (fun x v hv=>by simp [plCells] at hv;rcases hv with rfl | rfl <;> rfl) befI swoPl 150 #[] g 0 c ps.toArray w eg (cmpLaysPl g 0 ps.toArray.size w) hH hg (by simp;omega) totPl
  change Calls Tryz.prog 149 _ _ _ at hcon
  rw [List.size_toArray] at hcon
  refine hcon.mono fun e w' ⟨he,n,os,hw⟩=>⟨⟨_,he⟩, ?_, ?_⟩
  ·subst hw
   refine fun _=>⟨g,0,rfl,rfl,fun i x hx=>⟨plCells x,fun j u hu => ?_, ?_⟩⟩
   ·have hs:(sortP ps).length=ps.length:=List.length_mergeSort ..
    have hi:i<(sortP ps).length:=(List.getElem?_eq_some_iff.1 hx).1
    have hp:=holdsK_putRowK plCells 2 (Sort.ahead w n) g 0 ps.toArray (sortP ps).toArray (holdsK_ahead plCells 2 w n g 0 _ hH) (by simp [hs])
    have hp2:=holdsK_grow plCells 2 _ os g 0 _ (by simpa [putRowK,putRow,mapBlock,Sort.ahead] using hg) hp
    have hj:j<2:=(List.getElem?_eq_some_iff.1 hu).1
    have:=(HoldsK.cell hp2 (i:=i) (c:=j) (by simpa using hi) hj).1
    have e1:(sortP ps).toArray[i]! = x:=by rw [get_flat2 _ _ hi];exact (List.getElem?_eq_some_iff.1 hx).2
    rw [e1] at this
    have e2:(plCells x)[j]! = u:=by
     obtain⟨hj',hu'⟩:=List.getElem?_eq_some_iff.1 hu
     rw [getElem!_pos _ j hj'];exact hu'
    rw [e2] at this
    exact this
   ·have hm:x∈ps:=(List.mergeSort_perm ps _).mem_iff.1 (List.mem_of_getElem? hx)
    exact ext_mk (hok x hm).1 (hok x hm).2
  ·subst hw
   exact heap_sortK _
end Go.Proofs.YtgndgkjefgjamaaGreat

namespace Go.Proofs.YtgndgkjefgjamaaGreat
open Go.RowKit Go.ChangeMaps

theorem PMap.len {w:World} {b:Nat} {M:Eff} (h:PMap w b M) (ty:TypeId):(Builtin.len_ #[179] ty #[.map (some b)]).run Tryz.prog w = .ok (.int .i64 M.length) w:=by
 obtain⟨es,clock,hb,hst,he,hok⟩:=h
 have hl:es.size=M.length:=by have:=congrArg List.length he;simpa using this
 simp [Builtin.len_,run_underlying undEff,MapKept.run_getObj_map hb,Result.andThen,hl,goInt]
section
variable (w:World) {ops:Array Oper} {rest:List Oper} {o:Oper} {a:Act} {Q:Exit→Act→World→Prop}
theorem wpList_len_pl (hg:o.guard=none) (m:Operand) (hop:o.op=Op.call { callee:=Callee.builtin Builtin.len,args := #[m],argTypes := #[179] }) (b:Nat) (M:Eff) (hm:a.eval m = .map (some b)) (h:PMap w b M)
  (hK:wpList Tryz.prog ops Q rest (a.put o.dst (.int .i64 M.length)) w):wpList Tryz.prog ops Q (o :: rest) a w:=by
 refine wpList_plain hg fun K' hK' => ?_
 unfold Oper.wp
 simp [execOp,hop,resolve,invoke,builtin,hm,h.len o.type,Result.andThen]
 exact hK' _ _ hK
end
theorem tyPls:SliceTy Tryz.prog 213 211 2 16:=sliceTy_mk (z := .agg #[.int .i64 0,.int .i64 0]) Tryz.underlying213 (by kernel_rfl) rfl (by decide)
theorem makePls (n:Nat) (hn:n≤100000) (w:World):∃ cur:Array Value,cur.size=n * 2∧(Instr.makeSlice 213 (.int .i64 0) (.int .i64 n)).run Tryz.prog w = .ok (.slice (some ⟨w.heap.size,0,none⟩) 0 n) (w.alloc (.cells cur 211)):=by
 obtain⟨i,z,hi,hz,hsz,hby,hzs⟩:=tyPls.info
 have hr:=run_make (P:=Tryz.prog) w 213 211 i z tyPls.und hi hz .i64 .i64 0 n (by omega) (by omega) (by rw [hby];omega) (by omega)
 simp only [Int.toNat_natCast,Int.toNat_zero] at hr
 exact⟨_,by rw [size_madeCells,hsz],hr⟩
theorem Own.made {α:Type} {E:Enc α} {w:World} {base:Nat} {e:TypeId} {S:Nat→Prop} {cur:Array Value} {cap:Nat} (hb:base≤w.heap.size) (hm:cap≤maxLen) (hs:cur.size=cap * E.size) (hS:¬ S w.heap.size) :
  Own E (w.alloc (.cells cur e)) base e S (.slice (some ⟨w.heap.size,0,none⟩) 0 cap) [] :=
 ⟨[],World.ownsRow_made w cur cap hb hm hs,trivial,fun g hg=>by
  have:w.heap.size=g:=by simpa [Value.ownBlock] using hg
  rw [← this];exact hS⟩

def nextOf (L:List Wr):Pl:=match L.getLast? with | some (v,s,d)=>(v,s+d.length) | none=>(-1,0)
theorem canonStep_new {L:List Wr} {p:Pl} {s:Sec} (h:p≠nextOf L):canonStep L (p,s)=L++[(p.1,p.2,[s])]:=by
 unfold canonStep
 unfold nextOf at h
 cases hg:L.getLast? with
 | none=>rw [List.getLast?_eq_none_iff.1 hg];rfl
 | some x =>
   obtain⟨v,st,d⟩:=x
   rw [hg] at h
   simp only at h ⊢
   rw [if_neg (fun e=>h e.symm)]
theorem canonStep_more {L:List Wr} {v st:Int} {d:List Sec} {p:Pl} {s:Sec} (h:p=nextOf (L++[(v,st,d)])):canonStep (L++[(v,st,d)]) (p,s)=L++[(v,st,d++[s])]:=by
 unfold canonStep
 unfold nextOf at h
 rw [List.getLast?_concat] at h ⊢
 simp only at h ⊢
 rw [if_pos h.symm,List.dropLast_concat]

def CanOwn (w:World) (base:Nat) (v:Value) (L:List Wr):Prop :=
 (L=[]∧v = .slice none 0 0) ∨
 ∃ init vol st d D dc css g c,L=init++[(vol,st,d)]∧v = .slice (some ⟨g,0,none⟩) (init.length+1) c∧I64 vol∧I64 st ∧
   w.ownsRow base 45 3 v (init.length+1) (css.flatten++[.int .i64 vol,.int .i64 st,.slice D d.length dc]) ∧
   All2 (encWr.rd w (fun b=>Nw base w.heap.size b∧g≠b∧(Value.slice D d.length dc).ownBlock≠some b)) css init ∧
   Own encSec w base 95 (fun _=>False) (.slice D d.length dc) d
theorem rows_ne {w:World} {base n m:Nat} {v u:Value} {xs:List Value} {d:List Sec} (h:w.ownsRow base 45 3 v n xs) (h2:Own encSec w base 95 (fun _=>False) u d) {g:Nat} (hv:v.ownBlock=some g) (_hm:m=0):u.ownBlock≠some g:=by
 intro hu
 rcases h.2 with ⟨rfl,_⟩ | ⟨g1,cap,cur,rfl,_,hh,_⟩
 ·simp [Value.ownBlock] at hv
 ·obtain⟨css,hr,_⟩:=h2
  rcases hr.2 with ⟨rfl,_⟩ | ⟨g2,cap2,cur2,rfl,_,hh2,_⟩
  ·simp [Value.ownBlock] at hu
  ·have e1:g1=g:=by simpa [Value.ownBlock] using hv
   have e2:g2=g:=by simpa [Value.ownBlock] using hu
   rw [e1] at hh
   rw [e2,hh] at hh2
   injection hh2 with hh2
   injection hh2 with _ ht
   exact absurd ht (by decide)
theorem CanOwn.below {w w':World} {base:Nat} {v:Value} {L:List Wr} (h:CanOwn w base v L) (hb:Below w.heap.size w w'):CanOwn w' base v L:=by
 rcases h with h | ⟨init,vol,st,d,D,dc,css,g,c,h1,h2,h3,h4,h5,h6,h7⟩
 ·exact Or.inl h
 ·refine Or.inr ⟨init,vol,st,d,D,dc,css,g,c,h1,h2,h3,h4, ?_, ?_,Own.below h7 hb (fun _ h=>h.elim)⟩
  ·exact h5.kept (row:=none) ⟨hb.os,hb.tape,hb.output,hb.size,fun k hk _=>hb.block k hk⟩ (by rw [h2];exact Or.inr (by simp [Value.ownBlock]))
  ·exact h6.mono fun _ _ hr=>Enc.more (Enc.blk hr (fun b hb'=>hb.block b hb'.1.2)) (fun b hb'=>⟨hb'.1.mono (Nat.le_refl _) hb.size,hb'.2⟩)
theorem CanOwn.blockLt {w:World} {base:Nat} {v:Value} {L:List Wr} (h:CanOwn w base v L):∀ g,v.ownBlock=some g→base≤g∧g<w.heap.size:=by
 rcases h with ⟨_,rfl⟩ | ⟨init,vol,st,d,D,dc,css,g,c,h1,h2,h3,h4,h5,h6,h7⟩
 ·simp [Value.ownBlock]
 ·exact h5.lt
theorem CanOwn.form {w:World} {base:Nat} {v:Value} {L:List Wr} (h:CanOwn w base v L):∃ A c,v = .slice A L.length c:=by
 rcases h with ⟨rfl,rfl⟩ | ⟨init,vol,st,d,D,dc,css,g,c,rfl,rfl,_⟩
 ·exact⟨none,0,rfl⟩
 ·exact⟨some ⟨g,0,none⟩,c,by simp⟩
theorem CanOwn.cells {w:World} {base:Nat} {v:Value} {L:List Wr} (h:CanOwn w base v L):∃ css,w.ownsRow base 45 3 v L.length css.flatten∧All2 (encWr.rd w (fun b=>Nw base w.heap.size b∧v.ownBlock≠some b)) css L:=by
 rcases h with ⟨rfl,rfl⟩ | ⟨init,vol,st,d,D,dc,css,g,c,rfl,rfl,h3,h4,h5,h6,h7⟩
 ·exact⟨[],World.ownsRow_nil _ _ _ _,trivial⟩
 ·refine⟨css++[[.int .i64 vol,.int .i64 st,.slice D d.length dc]], ?_,All2.append (h6.mono fun _ _ hr=>Enc.more hr (fun b hb=>⟨hb.1,fun e=>hb.2.1 (by simpa [Value.ownBlock] using e)⟩)) ⟨?_,trivial⟩⟩
  ·simpa using h5
  ·have hr:=Own.reads (S':=fun b=>Nw base w.heap.size b∧(Value.slice (some ⟨g,0,none⟩) (init.length+1) c).ownBlock≠some b) h7 (fun _ h=>h.elim) (fun g' hg'=>⟨h7.lt g' hg',fun e=>rows_ne (m:=0) h5 h7 e rfl hg'⟩)
   obtain⟨D',dc',he,h8,h9,h10⟩:=hr
   simp only [List.cons.injEq,Value.slice.injEq,and_true,true_and] at he
   obtain⟨rfl,rfl⟩:=he
   exact wr_mk (x:=(vol,st,d)) h3 h4 h8 h9 h10
theorem CanOwn.own {w:World} {base:Nat} {v:Value} {L:List Wr} (h:CanOwn w base v L):OwnW encWr w base base 45 v L:=by
 obtain⟨css,h1,h2⟩:=h.cells
 exact⟨css,h1,h2,fun g hg h=>h.2 hg⟩
theorem wpList_push (w:World) {ops:Array Oper} {rest:List Oper} {o:Oper} {a:Act} {Q:Exit→Act→World→Prop} (hgd:o.guard=none) (s x:Operand) (ho:o.op = .call { callee := .builtin .append,args := #[s,x],argTypes := #[64,64] })
  {base:Nat} {v:Value} {L:List Wr} (hs:a.eval s=v) (hown:CanOwn w base v L) {b c:Nat} (p1 p2:Int) (hx:a.eval x = .slice (some ⟨b,0,none⟩) 1 c) (hnews:w.heap[b]? = some (.cells #[.int .i64 p1,.int .i64 p2,.slice none 0 0] 45 (0,0)))
  (i1:I64 p1) (i2:I64 p2) (hbase:base≤w.heap.size) (hL:L.length≤100000)
  (h:∀ g c' w',CanOwn w' base (.slice (some ⟨g,0,none⟩) (L.length+1) c') (L++[(p1,p2,[])])→w.grownBy w' v.ownBlock→base≤g→g<w'.heap.size→wpList Tryz.prog ops Q rest (a.put o.dst (.slice (some ⟨g,0,none⟩) (L.length+1) c')) w') :
  wpList Tryz.prog ops Q (o :: rest) a w:=by
 obtain⟨css,h1,h2⟩:=hown.cells
 obtain⟨i,z,hi,hz,hsz,hby,hzs⟩:=tyWrs.info
 have hn:∀ j u,[Value.int .i64 p1,.int .i64 p2,.slice none 0 0][j]? = some u→w.cell? ((⟨b,0,none⟩:Addr).add j)=some u:=by
  intro j u hu
  have hadd:(⟨b,0,none⟩:Addr).add j=⟨b,j,none⟩:=by unfold Addr.add;split <;> simp_all
  rw [hadd,cell_of_row w b j _ _ (0,0) hnews]
  simpa using hu
 refine wpList_append_own_at w hgd s x 64 ho base 45 i z 3 40 tyWrs.und hi hz hsz hby hzs (by decide) v L.length css.flatten hs h1 ⟨b,0,none⟩ 1 c _ hx rfl hn (by simp [Value.oneCell']) (by simp [maxLen];omega) (by omega) hbase ?_
 intro v' w' hown' hg _ hat
 obtain⟨g,cap,rfl,hgb,hgl⟩:=hown'.form (by omega)
 refine h g cap w' (Or.inr ⟨L,p1,p2,[],none,0,css,g,cap,rfl,rfl,i1,i2,hown', ?_,Own.nil_⟩) hg hgb hgl
 refine h2.mono fun _ _ hr=>Enc.more (Enc.blk hr (fun b' hb'=>hg.block b' hb'.1.2 (fun e=>hb'.2 e.symm))) (fun b' hb'=>⟨hb'.1.mono (Nat.le_refl _) hg.size, ?_,by simp [Value.ownBlock]⟩)
 rintro rfl
 rcases hat with hat | hat
 ·exact hb'.2 (by rw [← hat];rfl)
 ·have:g=w.heap.size:=by simpa [Value.ownBlock] using hat
  have:=hb'.1.2
  omega
theorem CanOwn.grow {w w':World} {base:Nat} {init:List Wr} {vol st:Int} {d:List Sec} {D D':Option Addr} {dc dc' n:Nat} {css:List (List Value)} {g c:Nat} {s:Sec} (h3:I64 vol) (h4:I64 st)
  (h5:w.ownsRow base 45 3 (.slice (some ⟨g,0,none⟩) (init.length+1) c) (init.length+1) (css.flatten++[.int .i64 vol,.int .i64 st,.slice D n dc]))
  (h6:All2 (encWr.rd w (fun b=>Nw base w.heap.size b∧g≠b∧(Value.slice D d.length dc).ownBlock≠some b)) css init) (h7:Own encSec w base 95 (fun _=>False) (.slice D d.length dc) d)
  (hg:w.grownBy w' (Value.slice D d.length dc).ownBlock) (h8:Own encSec w' base 95 (fun _=>False) (.slice D' (d.length+1) dc') (d++[s]))
  (hat:(Value.slice D' (d.length+1) dc').ownBlock=(Value.slice D d.length dc).ownBlock∨(Value.slice D' (d.length+1) dc').ownBlock=some w.heap.size) :
  CanOwn (w'.setCell ⟨g,init.length * 3+2,none⟩ (.slice D' (d.length+1) dc')) base (.slice (some ⟨g,0,none⟩) (init.length+1) c) (init++[(vol,st,d++[s])]):=by
 have hgD:(Value.slice D d.length dc).ownBlock≠some g:=rows_ne (m:=0) h5 h7 rfl rfl
 have hglt:=(h5.lt g rfl).2
 have hgD':(Value.slice D' (d.length+1) dc').ownBlock≠some g:=by
  rcases hat with hat | hat
  ·rw [hat];exact hgD
  ·rw [hat];intro e;injection e with e;omega
 have h5':=h5.kept hg (Or.inr (by simp [Value.ownBlock] at hgD ⊢;exact fun e=>hgD e.symm))
 have hlen:css.flatten.length=init.length * 3:=by rw [flatten_len 3 css (All2.sizes h6),h6.length]
 have h5s:=(h5'.stored (init.length * 3+2) (.slice D' (d.length+1) dc')).1
 refine Or.inr ⟨init,vol,st,d++[s],D',dc',css,g,c,rfl,rfl,h3,h4, ?_, ?_, ?_⟩
 ·rw [List.set_append_right _ _ (by omega)] at h5s
  rw [show init.length * 3+2 - css.flatten.length=2 from by omega] at h5s
  simpa using h5s
 ·refine h6.mono fun _ _ hr=>Enc.more (Enc.blk hr (w':=w'.setCell ⟨g,init.length * 3+2,none⟩ (.slice D' (d.length+1) dc')) (fun b hb => ?_)) (fun b hb=>⟨?_,hb.2.1, ?_⟩)
  ·rw [Below.heap_setCell _ _ _ _ (fun e=>hb.2.1 (by rw [show b=g from e]))]
   exact hg.block b hb.1.2 (fun e=>hb.2.2 e.symm)
  ·exact hb.1.mono (Nat.le_refl _) (by simpa [World.setCell] using hg.size)
  ·rw [List.length_append,List.length_singleton]
   rcases hat with hat | hat
   ·rw [hat];exact hb.2.2
   ·rw [hat];intro e;injection e with e;have:=hb.1.2;omega
 ·rw [List.length_append,List.length_singleton]
  exact h8.blk (fun b hb=>Below.heap_setCell _ _ _ _ (by
   rcases hb with hb | hb
   ·exact hb.elim
   ·rintro rfl;exact hgD' hb))
end Go.Proofs.YtgndgkjefgjamaaGreat

namespace Go.Proofs.YtgndgkjefgjamaaGreat
open Go.RowKit Go.ChangeMaps

theorem CanOwn.last {w:World} {base:Nat} {A:Option Addr} {n c:Nat} {L:List Wr} (h:CanOwn w base (.slice A n c) L) (hne:L≠[]) :
  ∃ init vol st d D dc css g,L=init++[(vol,st,d)]∧A=some ⟨g,0,none⟩∧n=init.length+1∧I64 vol∧I64 st ∧
    w.ownsRow base 45 3 (.slice (some ⟨g,0,none⟩) (init.length+1) c) (init.length+1) (css.flatten++[.int .i64 vol,.int .i64 st,.slice D d.length dc]) ∧
    All2 (encWr.rd w (fun b=>Nw base w.heap.size b∧g≠b∧(Value.slice D d.length dc).ownBlock≠some b)) css init ∧
    Own encSec w base 95 (fun _=>False) (.slice D d.length dc) d ∧
    w.cell? ⟨g,init.length * 3+2,none⟩=some (.slice D d.length dc)∧(∀ j,w.frozen? ⟨g,j,none⟩=false)∧base≤g∧g<w.heap.size∧(Value.slice D d.length dc).ownBlock≠some g:=by
 rcases h with ⟨h,_⟩ | ⟨init,vol,st,d,D,dc,css,g,c',h1,h2,h3,h4,h5,h6,h7⟩
 ·exact absurd h hne
 ·injection h2 with e1 e2 e3
  subst e1 e2 e3
  have hlen:css.flatten.length=init.length * 3:=by rw [flatten_len 3 css (All2.sizes h6),h6.length]
  refine⟨init,vol,st,d,D,dc,css,g,h1,rfl,rfl,h3,h4,h5,h6,h7, ?_,fun j=>h5.frozenAt j,(h5.lt g rfl).1,(h5.lt g rfl).2,rows_ne (m:=0) h5 h7 rfl rfl⟩
  rw [h5.cellAt _ (by omega),List.getElem?_append_right (by omega),show init.length * 3+2 - css.flatten.length=2 from by omega]
  rfl
theorem row_ne_blk {w:World} {base n size b:Nat} {e t:TypeId} {v:Value} {xs:List Value} {cs:Array Value} {m:Nat × Nat} (h:w.ownsRow base e size v n xs) (hb:w.heap[b]? = some (.cells cs t m)) (hne:e≠t):v.ownBlock≠some b:=by
 intro he
 rcases h.2 with ⟨rfl,_⟩ | ⟨g,cap,cur,rfl,_,hh,_⟩
 ·simp [Value.ownBlock] at he
 ·have:g=b:=by simpa [Value.ownBlock] using he
  subst this
  rw [hb] at hh
  injection hh with hh
  injection hh with _ ht
  exact hne ht.symm
theorem Own.ne_blk {w:World} {base b:Nat} {e t:TypeId} {α:Type} {E:Enc α} {S:Nat→Prop} {v:Value} {l:List α} {cs:Array Value} {m:Nat × Nat} (h:Own E w base e S v l) (hb:w.heap[b]? = some (.cells cs t m)) (hne:e≠t):v.ownBlock≠some b:=by
 obtain⟨css,h1,_⟩:=h
 exact row_ne_blk h1 hb hne
theorem CanOwn.keep {w w':World} {base:Nat} {v:Value} {L:List Wr} (h:CanOwn w base v L) (hk:∀ b,base≤b→b<w.heap.size→w'.heap[b]? = w.heap[b]?) (hs:w.heap.size≤w'.heap.size):CanOwn w' base v L:=by
 rcases h with h | ⟨init,vol,st,d,D,dc,css,g,c,h1,h2,h3,h4,h5,h6,h7⟩
 ·exact Or.inl h
 ·refine Or.inr ⟨init,vol,st,d,D,dc,css,g,c,h1,h2,h3,h4, ?_, ?_, ?_⟩
  ·refine⟨h5.1, ?_⟩
   rcases h5.2 with h8 | ⟨g',cap,cur,e1,e2,e3,r⟩
   ·exact Or.inl h8
   ·exact Or.inr ⟨g',cap,cur,e1,e2,(hk g' e2 (Array.getElem?_eq_some_iff.1 e3).1).trans e3,r⟩
  ·exact h6.mono fun _ _ hr=>Enc.more (Enc.blk hr (fun b hb'=>hk b hb'.1.1 hb'.1.2)) (fun b hb'=>⟨hb'.1.mono (Nat.le_refl _) hs,hb'.2⟩)
  ·exact Own.blk h7 (fun b hb=>by
    rcases hb with hb | hb
    ·exact hb.elim
    ·exact hk b (h7.lt b hb).1 (h7.lt b hb).2)
theorem CanOwn.grow2 {w0 w w':World} {base:Nat} {init:List Wr} {vol st:Int} {d:List Sec} {D D':Option Addr} {dc dc':Nat} {css:List (List Value)} {g c:Nat} {s:Sec} (hb:Below w0.heap.size w0 w) (h3:I64 vol) (h4:I64 st)
  (h5:w0.ownsRow base 45 3 (.slice (some ⟨g,0,none⟩) (init.length+1) c) (init.length+1) (css.flatten++[.int .i64 vol,.int .i64 st,.slice D d.length dc]))
  (h6:All2 (encWr.rd w0 (fun b=>Nw base w0.heap.size b∧g≠b∧(Value.slice D d.length dc).ownBlock≠some b)) css init) (h7:Own encSec w0 base 95 (fun _=>False) (.slice D d.length dc) d)
  (hg:w.grownBy w' (Value.slice D d.length dc).ownBlock) (h8:Own encSec w' base 95 (fun _=>False) (.slice D' (d.length+1) dc') (d++[s]))
  (hat:(Value.slice D' (d.length+1) dc').ownBlock=(Value.slice D d.length dc).ownBlock∨(Value.slice D' (d.length+1) dc').ownBlock=some w.heap.size) :
  CanOwn (w'.setCell ⟨g,init.length * 3+2,none⟩ (.slice D' (d.length+1) dc')) base (.slice (some ⟨g,0,none⟩) (init.length+1) c) (init++[(vol,st,d++[s])]):=by
 refine CanOwn.grow (w:=w) (css:=css) h3 h4 (h5.kept (row:=none) ⟨hb.os,hb.tape,hb.output,hb.size,fun k hk _=>hb.block k hk⟩ (Or.inr (by simp [Value.ownBlock]))) ?_ (Own.below h7 hb (fun _ h=>h.elim)) hg h8 hat
 exact h6.mono fun _ _ hr=>Enc.more (Enc.blk hr (fun b hb'=>hb.block b hb'.1.2)) (fun b hb'=>⟨hb'.1.mono (Nat.le_refl _) hb.size,hb'.2⟩)
end Go.Proofs.YtgndgkjefgjamaaGreat

namespace Go.Proofs.YtgndgkjefgjamaaGreat
open Go.RowKit Go.ChangeMaps

def getM (M:Eff) (p:Pl):Sec:=((M.find? fun x=>x.1==p).map (·.2)).getD zsec
def sortedM (M:Eff):Eff:=(sortP (M.map (·.1))).map fun p=>(p,getM M p)
theorem getM_mem {M:Eff} (hn:(M.map (·.1)).Nodup) {p:Pl} (hp:p∈M.map (·.1)):(p,getM M p)∈M:=by
 obtain⟨x,hx,rfl⟩:=List.mem_map.1 hp
 have:∃ y,M.find? (fun y=>y.1==x.1)=some y:=by
  cases h:M.find? (fun y=>y.1==x.1) with
  | some y=>exact⟨y,rfl⟩
  | none=>have:=List.find?_eq_none.1 h x hx;simp at this
 obtain⟨y,hy⟩:=this
 have hy1:=List.mem_of_find?_eq_some hy
 have hy2:y.1=x.1:=by simpa using List.find?_some hy
 have:(x.1,getM M x.1)=y:=by
  unfold getM;rw [hy];exact Prod.ext hy2.symm rfl
 rw [this];exact hy1
theorem sortP_perm {a b:List Pl} (h:a.Perm b):sortP a=sortP b:=by
 have ht:∀ x y z:Pl,(!(Go.Proofs.ltOf befI) y x)=true→(!(Go.Proofs.ltOf befI) z y)=true→(!(Go.Proofs.ltOf befI) z x)=true:=by
  intro x y z h1 h2
  rw [befI_lt] at *;simp at *;omega
 have hc:∀ x y:Pl,((!(Go.Proofs.ltOf befI) y x) || (!(Go.Proofs.ltOf befI) x y))=true:=by
  intro x y
  rw [befI_lt,befI_lt];simp;omega
 refine List.Perm.eq_of_pairwise (le:=fun x y=>(!(Go.Proofs.ltOf befI) y x)=true) ?_ (List.pairwise_mergeSort ht hc a) (List.pairwise_mergeSort ht hc b) ?_
 ·intro x y _ _ h1 h2
  exact totPl x y (by simpa using h2) (by simpa using h1)
 ·exact (List.mergeSort_perm a _).trans (h.trans (List.mergeSort_perm b _).symm)

theorem run_eqIn_pl (w:World) (a b c d:Int):(Op.equalIn 10000 211 (.agg #[.int .i64 a,.int .i64 b]) (.agg #[.int .i64 c,.int .i64 d])).run Tryz.prog w = .ok ((a,b)==(c,d)) w:=run_eq_pl w (a,b) (c,d)
theorem nextOf_snoc (L:List Wr) (v s:Int) (d:List Sec):nextOf (L++[(v,s,d)])=(v,s+d.length):=by
 unfold nextOf;rw [List.getLast?_concat]
theorem sortP_len (ps:List Pl):(sortP ps).length=ps.length:=List.length_mergeSort ..
theorem sortP_mem {ps:List Pl} {p:Pl}:p∈sortP ps↔p∈ps:=(List.mergeSort_perm ps _).mem_iff
theorem PMap.sec {w:World} {b:Nat} {M:Eff} (h:PMap w b M) {p:Pl} (hp:p∈M.map (·.1)):OkSec (getM M p)∧∀ w',PMap w' b M→(Instr.lookup 179 (.map (some b)) (plV p) false).run Tryz.prog w' = .ok (secVal (getM M p)) w':=by
 have hm:=getM_mem h.keys hp
 refine⟨?_,fun w' h'=>h'.lookup hm⟩
 obtain⟨_,_,_,_,_,hok⟩:=h
 exact hok _ hm
theorem PRange.ne_row {w:World} {b r base:Nat} {M todo:Eff} {T:TypeId} {α:Type} {E:Enc α} {S:Nat→Prop} {v:Value} {l:List α} (h:PRange w b r M todo) (ho:Own E w base T S v l):v.ownBlock≠some r∧v.ownBlock≠some b:=by
 obtain⟨es,clock,since,seen,c0,hb,_,_,_,hr,_⟩:=h
 obtain⟨css,hrow,_⟩:=ho
 rcases hrow.2 with ⟨rfl,_⟩ | ⟨g,cap,cur,rfl,_,hh,_⟩
 ·simp [Value.ownBlock]
 ·constructor
  ·intro e
   have:g=r:=by simpa [Value.ownBlock] using e
   subst this
   rw [hr] at hh;cases hh
  ·intro e
   have:g=b:=by simpa [Value.ownBlock] using e
   subst this
   rw [hb] at hh;cases hh
theorem PRange.below {w w':World} {b r:Nat} {M todo:Eff} (h:PRange w b r M todo) (hb:Below w.heap.size w w'):PRange w' b r M todo:=h.kept (hb.block _ h.map.lt) (hb.block _ h.lt)
set_option maxHeartbeats 8000000 in
theorem canonical_any (b:Nat) (M:Eff) (w:World) (h:PMap w b M) (hM:M.length≤100000) (hok:∀ x∈M,0≤x.1.1∧x.1.1<8∧0≤x.1.2∧x.1.2<4096) :
  Calls Tryz.prog 120 #[.map (some b)] w (RetSl encWr (canonL (sortedM M)) w):=by
 have hblt:=h.lt
 have hkeys:=Lib.hid h.keys
 have H:=Lib.hid h;clear h
 have HOK:=Lib.hid hok;clear hok
 obtain⟨cur,hcs,hmk⟩:=makePls M.length hM w
 have HCS:=Lib.hid hcs;clear hcs
 go_enter Tryz.func120,Tryz.ntmps120
 go_wp2_with (at_len;refine Hid.out ?_)
 change wpList _ _ _ _ _ _
 refine wpList_len_pl _ rfl _ rfl b M rfl H.out ?_
 go_wp2_with (at_range;refine Hid.out ?_)
 change wpList _ _ _ _ _ _
 refine wpList_range_pl _ rfl _ rfl b M rfl (H.out.alloc _) ?_
 intro w1 hR hg1 hs1
 have hsz1:w1.heap.size=w.heap.size+2:=by rw [hs1];simp
 have HR:=Lib.hid hR;clear hR
 have hB1:Below w.heap.size w w1:=(((Below.refl w.heap.size w).alloc (Nat.le_refl _) (.cells cur 211)).grown hg1 (by simp) (by simp))
 have hO1:Hid (Own encExt w1 w.heap.size 211 (fun _=>False) (.slice (some ⟨w.heap.size,0,none⟩) 0 M.length) []):=by
  refine Own.blk (Own.made (cur:=cur) (Nat.le_refl _) (by simp [maxLen];omega) HCS.out (fun h=>h)) (fun g hg => ?_)
  rcases hg with hg | hg
  ·exact hg.elim
  ·have:w.heap.size=g:=by simpa [Value.ownBlock] using hg
   exact hg1.block g (by simp;omega) (by simp)
 have HS1:=Lib.hid hsz1;clear hsz1 hs1 hmk
 simp only [World.size_alloc] at HR ⊢
 go_frame
 go_wp2
 go_loopw [3] (fun v wr=>∃ (A:Option Addr) (c:Nat) (ps:List Pl) (todo:Eff),v = .slice A ps.length c∧Hid (PRange wr b (w.heap.size+1) M todo)∧Below w.heap.size w wr∧Hid (Own encExt wr w.heap.size 211 (fun _=>False) (.slice A ps.length c) ps)∧Hid ((M.map (·.1)).Perm (ps++todo.map (·.1)))) (fun _ wr=>wr.rangeLeft b (w.heap.size+1))
 case atStart=>exact⟨some ⟨w.heap.size,0,none⟩,M.length,[],M,rfl,HR.out,hB1,hO1,by simp [Hid]⟩
 case round =>
  obtain⟨A,c,ps,todo,rfl,hR,hB,hO,hP⟩:=hrel
  have hlen:ps.length+todo.length≤100000:=by have:=hP.out.length_eq;simp at this;omega
  go_wp2_with (at_next;refine Hid.out ?_)
  change wpList _ _ _ _ _ _
  refine wpList_next_pl _ rfl _ rfl b (w.heap.size+1) M todo rfl hR.out ?done ?more
  case more =>
   rintro ⟨⟨p1,p2⟩,sc⟩ todo' w2 hperm hR2 hg2 hs2 hen
   simp only [plV] at hen ⊢
   have hne:=hR.out.ne_row hO.out
   have hO2:Own encExt w2 w.heap.size 211 (fun _=>False) (.slice A ps.length c) ps:=hO.out.blk (fun g hg=>hg2.block g (by
    rcases hg with hg | hg
    ·exact hg.elim
    ·exact (hO.out.lt g hg).2) (by
    rcases hg with hg | hg
    ·exact hg.elim
    ·intro e;exact hne.1 (by rw [hg];exact e)))
   have hkey:(p1,p2)∈M.map (·.1):=hP.out.mem_iff.2 (List.mem_append_right _ (List.mem_map.2 ⟨_,hperm.mem_iff.2 (List.mem_cons_self ..),rfl⟩))
   obtain⟨y,hy1,hy2⟩:=List.mem_map.1 hkey
   have hyb:=HOK.out y hy1
   rw [hy2] at hyb
   simp only at hyb
   obtain⟨k1,k2,k3,k4⟩:=hyb
   have hsz:=hB.size
   have hR2':=Lib.hid hR2;clear hR2
   have hs2':=Lib.hid hs2;clear hs2
   have hsz2:wr.heap.size=w2.heap.size:=hs2'.out.symm
   have HS2:=Lib.hid hsz2
   have hszl:wr.heap.size≤w2.heap.size:=by omega
   have hO3:=Lib.hid ((hO2.alloc (fun _ h=>h.elim) (.cells #[.int .i64 p1,.int .i64 p2] 211)).alloc (fun _ h=>h.elim) (.cells #[.int .i64 p1,.int .i64 p2] 211))
   have hlen':ps.length≤100000:=by omega
   clear hsz2 hy1 hy2 hkey hO2
   go_wp2_with (at_builtin;refine Hid.out ?_)
   change wpList _ _ _ _ _ _
   refine wpList_app1 (E:=encExt) tyPls rfl _ _ rfl rfl hO3.out (p1,p2) [.int .i64 p1,.int .i64 p2] rfl (ext_mk (x:=(p1,p2)) (by unfold I64;simp only;omega) (by unfold I64;simp only;omega)) (heap_new2 _ _ _) (fun _ h=>h.elim) (by simp;omega) (by simp [maxLen];omega) (by omega) ?_
   intro A' c' w5 hO5 hg5 hat5
   have hne2:=hR2'.out.ne_row (Own.blk hO.out (w':=w2) (fun g hg=>hg2.block g (by
    rcases hg with hg | hg
    ·exact hg.elim
    ·exact (hO.out.lt g hg).2) (by
    rcases hg with hg | hg
    ·exact hg.elim
    ·intro e;exact hne.1 (by rw [hg];exact e))))
   have hR5:=Lib.hid (((hR2'.out.below ((Below.refl _ _).alloc (Nat.le_refl _) (.cells #[.int .i64 p1,.int .i64 p2] 211))).below ((Below.refl _ _).alloc (Nat.le_refl _) (.cells #[.int .i64 p1,.int .i64 p2] 211))).kept (w':=w5) (hg5.block _ (by have:=hR2'.out.map.lt;simp;omega) (fun e=>hne2.2 e.symm)) (hg5.block _ (by have:=hR2'.out.lt;simp;omega) (fun e=>hne2.1 e.symm)))
   have hB2:Below w.heap.size w w2:=hB.grown hg2 hB.size (fun k e=>by injection e with e;omega)
   have hB5:=Lib.hid (((hB2.alloc (by omega) (.cells #[.int .i64 p1,.int .i64 p2] 211)).alloc (by simp;omega) (.cells #[.int .i64 p1,.int .i64 p2] 211)).grown hg5 (by simp;omega) (fun g h=>(hO.out.lt g h).1))
   have hpl:=hR.out.left
   go_frame
   go_wp2
   go_roundw
   case rel =>
    refine⟨A',c',ps++[(p1,p2)],todo',by simp,hR5.out,hB5.out,by simpa [Hid] using hO5, ?_⟩
    refine hP.out.trans ?_
    have h2:=hperm.map (·.1)
    simp only [List.map_cons] at h2
    rw [List.append_assoc]
    exact List.Perm.append_left ps h2
   case measure =>
    rw [hpl,hR5.out.left,hperm.length_eq];simp
  case done =>
   intro ht
   subst ht
   have hP2:Hid (sortP ps=sortP (M.map (·.1))):=sortP_perm (by have:=hP.out;simpa using this.symm)
   have hpsl:ps.length≤100000:=by omega
   have hpok:Hid (∀ p∈ps,0≤p.1∧p.1<8∧0≤p.2∧p.2<4096):=fun p hp=>by
    have:p∈M.map (·.1):=hP.out.mem_iff.2 (List.mem_append_left _ hp)
    obtain⟨y,hy1,rfl⟩:=List.mem_map.1 this
    exact HOK.out y hy1
   go_frame
   go_wp2_with fail
   refine (sortPl_any A w.heap.size c 211 _ ps wr hO.out (by omega) (fun p hp=>by have:=hpok.out p hp;unfold I64;omega)).mono ?_
   rintro e ws ⟨⟨vr,rfl⟩,hSl,hgs⟩
   have hglt:∀ g,(Value.slice A ps.length c).ownBlock=some g→w.heap.size≤g∧g<wr.heap.size:=hO.out.lt
   have hszs:=hgs.size
   have hBs:Below w.heap.size w ws:=hB.grown hgs hB.size (fun g hg=>(hglt g hg).1)
   have hMs:=hR.out.map.kept (w':=ws) (hgs.block _ hR.out.map.lt (fun e=>(hR.out.ne_row hO.out).2 e.symm))
   have hSl2:SlAt encExt ws (Bl ws.heap.size) A (sortP ps):=hSl.more (fun g hg=>by
    have:(Value.slice A ps.length c).ownBlock=some g:=by rw [hg];rfl
    have:=(hglt g this).2
    exact Nat.lt_of_lt_of_le this hszs)
   have HSL:Hid (∀ w',Below ws.heap.size ws w'→SlAt encExt w' (Bl ws.heap.size) A (sortP ps)):=fun w' hb=>hSl2.below hb
   have HMS:Hid (∀ w',Below ws.heap.size ws w'→PMap w' b M):=fun w' hb=>hMs.kept (hb.block _ hMs.lt)
   have hbs:b<ws.heap.size:=hMs.lt
   have hszb:=hB.size
   obtain⟨sp,hsp⟩:∃ sp,Hid (sp=sortP ps):=⟨_,Lib.hid rfl⟩
   rw [← hsp.out] at HSL hP2
   have hspl:sp.length=ps.length:=by rw [hsp.out];exact sortP_len ps
   have hspok:Hid (∀ p∈sp,(p∈M.map (·.1))∧0≤p.1∧p.1<8∧0≤p.2∧p.2<4096):=fun p hp=>by
    have hp':p∈ps:=by rw [hsp.out] at hp;exact sortP_mem.1 hp
    exact⟨hP.out.mem_iff.2 (List.mem_append_left _ hp'),hpok.out p hp'⟩
   have hfin:Hid (canonL (sortedM M)=canonL (sp.map fun p=>(p,getM M p))):=by rw [sortedM, ← hP2.out];exact rfl
   have HSPL:=Lib.hid hspl
   have hsl1:(ps.length:Int)=sp.length:=by omega
   rw [← hspl]
   have hspb:sp.length≤100000:=by omega
   clear hsl1 hspl hSl hSl2 hMs hglt hlen hP hpok hR hO hP2 hg1 hB1 hO1 HS1 HR HCS hgs
   go_wp2
   go_loopw [5,28] (fun v i wr2=>∃ (k:Nat) (L:List Wr) (A2:Option Addr) (c2:Nat),k≤sp.length∧i = .int .i64 k∧v = .slice A2 L.length c2∧Below ws.heap.size ws wr2∧Hid (L=canonL ((sp.take k).map fun p=>(p,getM M p)))∧Hid (CanOwn wr2 (ws.heap.size+1) (.slice A2 L.length c2) L)∧Hid (wr2.heap[ws.heap.size]? = some (.cells #[.int .i64 (nextOf L).1,.int .i64 (nextOf L).2] 211 (0,0)))) (fun _ i _=>sp.length - (intOf i).toNat)
   case atStart=>exact⟨0,[],none,0,by omega,rfl,rfl,(Below.refl _ _).alloc (Nat.le_refl _) _,rfl,Or.inl ⟨rfl,rfl⟩,heap_alloc_new _ _⟩
   case round =>
    obtain⟨k,L,A2,c2,hk,rfl,rfl,hB2,hL,hCan,hbox⟩:=hrel
    by_cases hlt:k<sp.length
    ·obtain⟨gb,off,hA,hgb,g0,g1,i1,i2⟩:=(HSL.out wr hB2).ext hlt
     have hgbl:gb<ws.heap.size:=hgb
     subst hA
     have hki:(k:Int)<sp.length:=by omega
     have hnn:(0:Int)≤k:=by omega
     have hsz2:=hB2.size
     obtain⟨hkm,hp1,hp2,hp3,hp4⟩:=hspok.out _ (List.getElem_mem hlt)
     have hLl:=canonL_len ((sp.take k).map fun p=>(p,getM M p))
     rw [← hL.out,List.length_map,List.length_take,Nat.min_eq_left (Nat.le_of_lt hlt)] at hLl
     obtain⟨hL1,hL2⟩:=hLl
     have HL2:=Lib.hid hL2;clear hL2
     have hst:Hid (canonL ((sp.take (k+1)).map fun p=>(p,getM M p))=canonStep L (sp[k],getM M sp[k])):=by
      rw [List.take_succ_eq_append_getElem hlt,List.map_append,List.map_singleton,canonL_snoc, ← hL.out];exact rfl
     obtain⟨hsec,hlook⟩:=(HMS.out wr hB2).sec hkm
     obtain⟨⟨p1,p2⟩,hpe⟩:∃ p,p=sp[k]:=⟨_,rfl⟩
     rw [← hpe] at g0 g1 hp1 hp2 hp3 hp4 hst hsec hlook
     simp only at g0 g1 hp1 hp2 hp3 hp4
     have HPE:=Lib.hid hpe;clear hpe hkm
     obtain⟨x0,x1,x2,x3,x4,x5,x6,x7,hx⟩:=sec8 hsec
     rw [hx] at hst hsec
     have HLK:Hid (∀ w',PMap w' b M→(Instr.lookup 179 (.map (some b)) (.agg #[.int .i64 p1,.int .i64 p2]) false).run Tryz.prog w' = .ok (.agg #[.int .u8 x0,.int .u8 x1,.int .u8 x2,.int .u8 x3,.int .u8 x4,.int .u8 x5,.int .u8 x6,.int .u8 x7]) w'):=fun w' h'=>by
      have:=hlook w' h'
      rw [hx] at this
      exact this
     clear hlook hx i1 i2
     obtain⟨n1,n2,hn⟩:∃ n1 n2,Hid (nextOf L=(n1,n2)):=⟨_,_,Lib.hid rfl⟩
     have hbox':=hbox.out
     rw [hn.out] at hbox'
     simp only at hbox'
     obtain⟨q0,q1,qf⟩:=blk2 hbox'
     have HBX:=Lib.hid hbox';clear hbox' hbox
     have hq:=fun W=>run_eqIn_pl W p1 p2 n1 n2
     have hbxl:ws.heap.size<wr.heap.size:=(Array.getElem?_eq_some_iff.1 HBX.out).1
     generalize hqq:((p1,p2)==(n1,n2))=q at hq
     have HQ:=Lib.hid hqq;clear hqq
     cases q with
     | false =>
       have hCan2:=Lib.hid ((hCan.out.below ((Below.refl _ _).alloc (Nat.le_refl _) (.cells #[.int .i64 p1,.int .i64 p2] 211))).below ((Below.refl _ _).alloc (Nat.le_refl _) (.cells #[.int .i64 p1,.int .i64 p2,.slice none 0 0] 45)))
       go_wp2_with (at_builtin;refine Hid.out ?_)
       change wpList _ _ _ _ _ _
       refine wpList_push _ rfl _ _ rfl rfl hCan2.out p1 p2 rfl (heap_new2 _ _ _) (by unfold I64;omega) (by unfold I64;omega) (by simp;omega) (by omega) ?_
       intro g c' w3 hC3 hg3 hgb3 hgl3
       obtain⟨init,vol,st,d,D,dc,css,g',hLe,hge,_,v1,v2,hrow,hall,hownd,hcell,hfz,hgb4,hgl4,hneD⟩:=hC3.last (by simp)
       have hge':g=g':=by injection hge with hge;injection hge
       subst hge'
       obtain⟨ea,eb⟩:=List.append_inj' hLe rfl
       injection eb with eb
       injection eb with ec ed
       injection ed with ed ef
       subst ea ec ed
       have HDE:=Lib.hid ef;clear ef
       have hbx3:w3.heap[wr.heap.size]? = some (.cells #[.int .i64 p1,.int .i64 p2] 211 (0,0)):=(hg3.block _ (by simp;omega) (fun e=>by have:=(hCan.out.blockLt _ e.symm).2;omega)).trans ((Below.heap_alloc _ _ _ (by simp)).trans (heap_alloc_new _ _))
       have hnb3:w3.heap[ws.heap.size]? = some (.cells #[.int .i64 n1,.int .i64 n2] 211 (0,0)):=(hg3.block _ (by simp;omega) (fun e=>by have:=(hCan.out.blockLt _ e.symm).1;omega)).trans ((Below.heap_alloc _ _ _ (by simp;omega)).trans ((Below.heap_alloc _ _ _ hbxl).trans HBX.out))
       have hB3:Below ws.heap.size ws w3:=((hB2.alloc (by omega) _).alloc (by simp;omega) _).grown hg3 (by simp;omega) (fun g hg=>by have:=(hCan.out.blockLt g hg).1;omega)
       have hsz3:=hg3.size
       simp only [World.size_alloc] at hsz3
       obtain⟨b0,b1,bf⟩:=blk2 hbx3
       obtain⟨m0,m1,mf⟩:=blk2 hnb3
       have HROW:=Lib.hid hrow;have HALL:=Lib.hid hall;have HOWND:=Lib.hid hownd;have HBX3:=Lib.hid hbx3;have HNB3:=Lib.hid hnb3
       have HND:=Lib.hid hneD
       clear hrow hall hownd hbx3 hnb3 hneD hq g0 g1 q0 q1 qf hge hCan2
       have hdl:d.length≤100000:=by rw [← HDE.out];simp
       have hwrl:wr.heap.size<w3.heap.size:=by omega
       have hstep:Hid (L++[(p1,p2,d++[[x0,x1,x2,x3,x4,x5,x6,x7]])]=canonStep L ((p1,p2),[x0,x1,x2,x3,x4,x5,x6,x7])):=by
        rw [canonStep_new (fun e=>by have h1:=HQ.out;rw [e,hn.out] at h1;simp at h1), ← HDE.out];exact rfl
       have hnext:Hid ((p1,p2+(((d++[[x0,x1,x2,x3,x4,x5,x6,x7]]):List Sec).length:Int))=(p1,p2+1)):=by rw [← HDE.out];exact rfl
       have hM3:PMap w3 b M:=HMS.out w3 hB3
       have hlk3:=HLK.out (w3).drew (hM3.kept rfl)
       have hown4:=Lib.hid ((HOWND.out.alloc (fun _ h=>h.elim) (.cells #[.int .u8 x0,.int .u8 x1,.int .u8 x2,.int .u8 x3,.int .u8 x4,.int .u8 x5,.int .u8 x6,.int .u8 x7] 95)).blk (w':=((w3).alloc (.cells #[.int .u8 x0,.int .u8 x1,.int .u8 x2,.int .u8 x3,.int .u8 x4,.int .u8 x5,.int .u8 x6,.int .u8 x7] 95)).drew) (fun _ _=>rfl))
       have hfz2:=hfz (L.length * 3+2)
       have HFZ:=Lib.hid hfz;clear hfz
       have hb1s:ws.heap.size+1≤(w3).heap.size:=by omega
       have hgnb:Hid (g≠wr.heap.size):=fun e=>row_ne_blk HROW.out HBX3.out (by decide) (by rw [← e];rfl)
       have hDnb:Hid ((Value.slice D d.length dc).ownBlock≠some wr.heap.size):=HOWND.out.ne_blk HBX3.out (by decide)
       go_wp2
       go_region_law (first | (refine step_app1 (E:=encSec) tySecs rfl _ _ rfl rfl hown4.out [x0,x1,x2,x3,x4,x5,x6,x7] [.int .u8 x0,.int .u8 x1,.int .u8 x2,.int .u8 x3,.int .u8 x4,.int .u8 x5,.int .u8 x6,.int .u8 x7] rfl ⟨rfl,hsec⟩ (heap_alloc_new _ _) (fun _ h=>h.elim) (by simp;omega) (by simp [maxLen];omega) (by omega) ?_;intro A' c5 w5 hown5 hg5 hat5;have hw5:=Lib.hid ((hg5.block g (by simp;omega) (fun e=>HND.out e.symm)).trans (Below.heap_alloc _ _ _ hgl4));have t5:=(World.cell?_of_block (a:=⟨g,L.length * 3+2,none⟩) hw5.out).trans hcell;have f5:=(World.frozen?_of_block (a:=⟨g,L.length * 3+2,none⟩) hw5.out).trans hfz2))
       all_goals
        have hgc:=Lib.hid (CanOwn.grow2 (w0:=w3) (w':=w5) (((Below.refl (w3).heap.size (w3)).alloc (Nat.le_refl _) (.cells #[.int .u8 x0,.int .u8 x1,.int .u8 x2,.int .u8 x3,.int .u8 x4,.int .u8 x5,.int .u8 x6,.int .u8 x7] 95)).drew) v1 v2 HROW.out HALL.out HOWND.out hg5 hown5 hat5)
        have hsz5:=hg5.size
        simp only [World.size_alloc,World.drew] at hsz5
        have hbx6:(w5.setCell ⟨g,L.length * 3+2,none⟩ (.slice A' (d.length+1) c5)).heap[wr.heap.size]? = some (.cells #[.int .i64 p1,.int .i64 p2] 211 (0,0)):=(Below.heap_setCell _ _ _ _ (fun e=>hgnb.out e.symm)).trans ((hg5.block _ (by simp;omega) (fun e=>hDnb.out e.symm)).trans ((Below.heap_alloc _ _ _ hwrl).trans HBX3.out))
        have hnb6:(w5.setCell ⟨g,L.length * 3+2,none⟩ (.slice A' (d.length+1) c5)).heap[ws.heap.size]? = some (.cells #[.int .i64 n1,.int .i64 n2] 211 (0,0)):=(Below.heap_setCell _ _ _ _ (by simp only;omega)).trans ((hg5.block _ (by simp;omega) (fun e=>by have:=(HOWND.out.lt _ e.symm).1;omega)).trans ((Below.heap_alloc _ _ _ (by omega)).trans HNB3.out))
        have hB6:Below ws.heap.size ws (w5.setCell ⟨g,L.length * 3+2,none⟩ (.slice A' (d.length+1) c5)):=((((hB3.alloc (by omega) _).drew).grown hg5 (by simp [World.drew];omega) (fun g hg=>by have:=(HOWND.out.lt g hg).1;omega)).setCell (p:=⟨g,L.length * 3+2,none⟩) (by simp only;omega) _)
        have hsz6:ws.heap.size+1<w5.heap.size:=by omega
        clear hfz2 hcell b0 b1 bf m0 m1 mf t5 f5 hlk3 hM3
        obtain⟨w6,hw6⟩:∃ w6,w6=w5.setCell ⟨g,L.length * 3+2,none⟩ (.slice A' (d.length+1) c5):=⟨_,rfl⟩
        have hs6:w6.heap.size=w5.heap.size:=by rw [hw6];simp [World.setCell]
        rw [← hw6] at hgc hbx6 hnb6 hB6 ⊢
        have HW6:=Lib.hid hw6;clear hw6
        have hs6':ws.heap.size+1<w6.heap.size:=by omega
        have HS6:=Lib.hid hs6;clear hs6
        obtain⟨b0,b1,bf⟩:=blk2 hbx6
        have HBX6:=Lib.hid hbx6;have HNB6:=Lib.hid hnb6
        clear hbx6 hnb6
        go_wp2_with fail
        refine (behind_any p1 p2 w6 (by omega) (by omega)).mono ?_
        rintro e w7 ⟨rfl,hb7⟩
        have hnb7:w7.heap[ws.heap.size]? = some (.cells #[.int .i64 n1,.int .i64 n2] 211 (0,0)):=(hb7.block _ (by omega)).trans HNB6.out
        obtain⟨m0,m1,mf⟩:=blk2 hnb7
        have hset:=Lib.hid (blk2_set hnb7 (.int .i64 p1) (.int .i64 (p2+1)))
        clear hnb7 b0 b1 bf
        go_wp2
        go_roundw
        case rel =>
         refine⟨k+1,L++[(p1,p2,d++[[x0,x1,x2,x3,x4,x5,x6,x7]])],some ⟨g,0,none⟩,c',hlt,by go_num,by simp, ?_, ?_, ?_, ?_⟩
         ·exact ((hB6.trans (hb7.mono (by omega))).setCell (p:=⟨ws.heap.size,0,none⟩) (by simp) _).setCell (p:=⟨ws.heap.size,1,none⟩) (by simp) _
         ·rw [hst.out];exact hstep.out
         ·have h7:=hgc.out.below hb7
          have h8:=h7.keep (w':=(w7.setCell ⟨ws.heap.size,0,none⟩ (.int .i64 p1)).setCell ⟨ws.heap.size,1,none⟩ (.int .i64 (p2+1))) (fun b hb _=>(Below.heap_setCell _ _ _ _ (by simp only;omega)).trans (Below.heap_setCell _ _ _ _ (by simp only;omega))) (by simp [World.setCell])
          simpa [Hid] using h8
         ·have:=hset.out
          rw [nextOf_snoc,hnext.out]
          exact this
        case measure=>simp [intOf];omega
     | true =>
       have hpn:(p1,p2)=nextOf L:=by rw [hn.out];exact eq_of_beq HQ.out
       have hLne:L≠[]:=by
        intro e
        rw [e] at hpn
        have:p1 = -1:=congrArg Prod.fst hpn
        omega
       obtain⟨w3,hw3⟩:∃ w3,w3=wr.alloc (.cells #[.int .i64 p1,.int .i64 p2] 211):=⟨_,rfl⟩
       have hb3:Below wr.heap.size wr w3:=by rw [hw3];exact (Below.refl _ _).alloc (Nat.le_refl _) _
       have hs3:w3.heap.size=wr.heap.size+1:=by rw [hw3];simp
       have hbx3:w3.heap[wr.heap.size]? = some (.cells #[.int .i64 p1,.int .i64 p2] 211 (0,0)):=by rw [hw3];exact heap_alloc_new _ _
       obtain⟨init,vol,st,d,D,dc,css,g,hLe,hge,_,v1,v2,hrow,hall,hownd,hcell,hfz,hgb4,hgl4,hneD⟩:=(hCan.out.below hb3).last hLne
       have hnb3:w3.heap[ws.heap.size]? = some (.cells #[.int .i64 n1,.int .i64 n2] 211 (0,0)):=(hb3.block _ hbxl).trans HBX.out
       have hB3:Below ws.heap.size ws w3:=hB2.trans (hb3.mono hsz2)
       have hdl:d.length≤100000:=by
        have:=HL2.out (vol,st,d) (by rw [hLe];simp)
        simp only at this
        omega
       have hpe2:(p1,p2)=(vol,st+(d.length:Int)):=by rw [hpn,hLe,nextOf_snoc]
       have hstep:Hid (init++[(vol,st,d++[[x0,x1,x2,x3,x4,x5,x6,x7]])]=canonStep L ((p1,p2),[x0,x1,x2,x3,x4,x5,x6,x7])):=by
        rw [hLe] at hpn ⊢
        exact (canonStep_more hpn).symm
       have hnext:Hid ((vol,st+(((d++[[x0,x1,x2,x3,x4,x5,x6,x7]]):List Sec).length:Int))=(p1,p2+1)):=by
        injection hpe2 with e1 e2
        rw [e1,e2,List.length_append,List.length_singleton]
        refine Prod.ext rfl ?_
        simp only
        omega
       have hil:init.length≤100000:=by rw [hLe] at hL1;simp at hL1;omega
       have hwrl:wr.heap.size<w3.heap.size:=by omega
       obtain⟨b0,b1,bf⟩:=blk2 hbx3
       obtain⟨m0,m1,mf⟩:=blk2 hnb3
       have HROW:=Lib.hid hrow;have HALL:=Lib.hid hall;have HOWND:=Lib.hid hownd;have HBX3:=Lib.hid hbx3;have HNB3:=Lib.hid hnb3
       have HND:=Lib.hid hneD
       have hLl:Hid (L.length=init.length+1):=by rw [hLe];simp [Hid]
       have HLE:=Lib.hid hLe
       subst hge
       clear hrow hall hownd hbx3 hnb3 hneD hLe hpn hpe2 hL1
       go_upto_region 14 with (fail)
       rw [← hw3,hLl.out]
       have HW3:=Lib.hid hw3;clear hw3
       have HS3:=Lib.hid hs3;clear hs3
       clear hq g0 g1 q0 q1 qf
       have hM3:PMap w3 b M:=HMS.out w3 hB3
       have hlk3:=HLK.out (w3).drew (hM3.kept rfl)
       have hown4:=Lib.hid ((HOWND.out.alloc (fun _ h=>h.elim) (.cells #[.int .u8 x0,.int .u8 x1,.int .u8 x2,.int .u8 x3,.int .u8 x4,.int .u8 x5,.int .u8 x6,.int .u8 x7] 95)).blk (w':=((w3).alloc (.cells #[.int .u8 x0,.int .u8 x1,.int .u8 x2,.int .u8 x3,.int .u8 x4,.int .u8 x5,.int .u8 x6,.int .u8 x7] 95)).drew) (fun _ _=>rfl))
       have hfz2:=hfz (init.length * 3+2)
       have HFZ:=Lib.hid hfz;clear hfz
       have hb1s:ws.heap.size+1≤(w3).heap.size:=by omega
       have hgnb:Hid (g≠wr.heap.size):=fun e=>row_ne_blk HROW.out HBX3.out (by decide) (by rw [← e];rfl)
       have hDnb:Hid ((Value.slice D d.length dc).ownBlock≠some wr.heap.size):=HOWND.out.ne_blk HBX3.out (by decide)
       go_wp2
       go_region_law (first | (refine step_app1 (E:=encSec) tySecs rfl _ _ rfl rfl hown4.out [x0,x1,x2,x3,x4,x5,x6,x7] [.int .u8 x0,.int .u8 x1,.int .u8 x2,.int .u8 x3,.int .u8 x4,.int .u8 x5,.int .u8 x6,.int .u8 x7] rfl ⟨rfl,hsec⟩ (heap_alloc_new _ _) (fun _ h=>h.elim) (by simp;omega) (by simp [maxLen];omega) (by omega) ?_;intro A' c5 w5 hown5 hg5 hat5;have hw5:=Lib.hid ((hg5.block g (by simp;omega) (fun e=>HND.out e.symm)).trans (Below.heap_alloc _ _ _ hgl4));have t5:=(World.cell?_of_block (a:=⟨g,init.length * 3+2,none⟩) hw5.out).trans hcell;have f5:=(World.frozen?_of_block (a:=⟨g,init.length * 3+2,none⟩) hw5.out).trans hfz2))
       all_goals
        have hgc:=Lib.hid (CanOwn.grow2 (w0:=w3) (w':=w5) (((Below.refl (w3).heap.size (w3)).alloc (Nat.le_refl _) (.cells #[.int .u8 x0,.int .u8 x1,.int .u8 x2,.int .u8 x3,.int .u8 x4,.int .u8 x5,.int .u8 x6,.int .u8 x7] 95)).drew) v1 v2 HROW.out HALL.out HOWND.out hg5 hown5 hat5)
        have hsz5:=hg5.size
        simp only [World.size_alloc,World.drew] at hsz5
        have hbx6:(w5.setCell ⟨g,init.length * 3+2,none⟩ (.slice A' (d.length+1) c5)).heap[wr.heap.size]? = some (.cells #[.int .i64 p1,.int .i64 p2] 211 (0,0)):=(Below.heap_setCell _ _ _ _ (fun e=>hgnb.out e.symm)).trans ((hg5.block _ (by simp;omega) (fun e=>hDnb.out e.symm)).trans ((Below.heap_alloc _ _ _ hwrl).trans HBX3.out))
        have hnb6:(w5.setCell ⟨g,init.length * 3+2,none⟩ (.slice A' (d.length+1) c5)).heap[ws.heap.size]? = some (.cells #[.int .i64 n1,.int .i64 n2] 211 (0,0)):=(Below.heap_setCell _ _ _ _ (by simp only;omega)).trans ((hg5.block _ (by simp;omega) (fun e=>by have:=(HOWND.out.lt _ e.symm).1;omega)).trans ((Below.heap_alloc _ _ _ (by omega)).trans HNB3.out))
        have hB6:Below ws.heap.size ws (w5.setCell ⟨g,init.length * 3+2,none⟩ (.slice A' (d.length+1) c5)):=((((hB3.alloc (by omega) _).drew).grown hg5 (by simp [World.drew];omega) (fun g hg=>by have:=(HOWND.out.lt g hg).1;omega)).setCell (p:=⟨g,init.length * 3+2,none⟩) (by simp only;omega) _)
        have hsz6:ws.heap.size+1<w5.heap.size:=by omega
        clear hfz2 hcell b0 b1 bf m0 m1 mf t5 f5 hlk3 hM3
        obtain⟨w6,hw6⟩:∃ w6,w6=w5.setCell ⟨g,init.length * 3+2,none⟩ (.slice A' (d.length+1) c5):=⟨_,rfl⟩
        have hs6:w6.heap.size=w5.heap.size:=by rw [hw6];simp [World.setCell]
        rw [← hw6] at hgc hbx6 hnb6 hB6 ⊢
        have HW6:=Lib.hid hw6;clear hw6
        have hs6':ws.heap.size+1<w6.heap.size:=by omega
        have HS6:=Lib.hid hs6;clear hs6
        obtain⟨b0,b1,bf⟩:=blk2 hbx6
        have HBX6:=Lib.hid hbx6;have HNB6:=Lib.hid hnb6
        clear hbx6 hnb6
        go_wp2_with fail
        refine (behind_any p1 p2 w6 (by omega) (by omega)).mono ?_
        rintro e w7 ⟨rfl,hb7⟩
        have hnb7:w7.heap[ws.heap.size]? = some (.cells #[.int .i64 n1,.int .i64 n2] 211 (0,0)):=(hb7.block _ (by omega)).trans HNB6.out
        obtain⟨m0,m1,mf⟩:=blk2 hnb7
        have hset:=Lib.hid (blk2_set hnb7 (.int .i64 p1) (.int .i64 (p2+1)))
        clear hnb7 b0 b1 bf
        go_wp2
        go_roundw
        case rel =>
         refine⟨k+1,init++[(vol,st,d++[[x0,x1,x2,x3,x4,x5,x6,x7]])],some ⟨g,0,none⟩,c2,hlt,by go_num,by simp, ?_, ?_, ?_, ?_⟩
         ·exact ((hB6.trans (hb7.mono (by omega))).setCell (p:=⟨ws.heap.size,0,none⟩) (by simp) _).setCell (p:=⟨ws.heap.size,1,none⟩) (by simp) _
         ·rw [hst.out];exact hstep.out
         ·have h7:=hgc.out.below hb7
          have h8:=h7.keep (w':=(w7.setCell ⟨ws.heap.size,0,none⟩ (.int .i64 p1)).setCell ⟨ws.heap.size,1,none⟩ (.int .i64 (p2+1))) (fun b hb _=>(Below.heap_setCell _ _ _ _ (by simp only;omega)).trans (Below.heap_setCell _ _ _ _ (by simp only;omega))) (by simp [World.setCell])
          simpa [Hid] using h8
         ·have:=hset.out
          rw [nextOf_snoc,hnext.out]
          exact this
        case measure=>simp [intOf];omega
    ·have hkk:k=sp.length:=by omega
     subst hkk
     go_wp2
     go_ret
     have e:=hL.out
     rw [List.take_length] at e
     rw [hfin.out, ← e]
     obtain⟨_,r1,r2,r3⟩:=hCan.out.own.parts
     exact⟨A2,c2,rfl,r1,r2,r3.more (fun g h=>h.mono (by omega) (Nat.le_refl _)),hBs.trans (hB2.mono (by omega))⟩
end Go.Proofs.YtgndgkjefgjamaaGreat
namespace Go.Proofs.YtgndgkjefgjamaaGreat

def plLt (p q:Pl):Prop:=p.1<q.1∨(p.1=q.1∧p.2<q.2)
def plOf (l:List Wr):List Pl:=(List.range 8).flatMap fun (v:Nat)=>(secsOf l v).map fun s=>((v:Int),s)
theorem secsOf_sorted (l:List Wr) (v:Int):(secsOf l v).Pairwise (· < ·):=by
 unfold secsOf
 rw [List.pairwise_map]
 exact (List.Pairwise.filter _ List.pairwise_lt_range).imp (fun h=>by show (_:Int)<_;exact Int.ofNat_lt.2 h)
theorem plOf_sorted (l:List Wr):(plOf l).Pairwise plLt:=by
 unfold plOf
 rw [List.pairwise_flatMap]
 refine⟨fun v _ => ?_, ?_⟩
 ·rw [List.pairwise_map]
  exact (secsOf_sorted l v).imp (fun h=>Or.inr ⟨rfl,h⟩)
 ·refine List.pairwise_lt_range.imp (fun {a b} hab x hx y hy => ?_)
  obtain⟨s,_,rfl⟩:=List.mem_map.1 hx
  obtain⟨t,_,rfl⟩:=List.mem_map.1 hy
  exact Or.inl (by simp only;omega)
theorem secsOf_iff (l:List Wr) (v s:Int):s∈secsOf l v↔0≤s∧s<4096∧(look l v s).isSome=true:=by
 unfold secsOf
 rw [List.mem_map]
 constructor
 ·rintro ⟨i,hi,rfl⟩
  obtain⟨h1,h2⟩:=List.mem_filter.1 hi
  have:=List.mem_range.1 h1
  exact⟨Int.natCast_nonneg i,by show (i:Int)<4096;omega,h2⟩
 ·rintro ⟨h1,h2,h3⟩
  refine⟨s.toNat,List.mem_filter.2 ⟨List.mem_range.2 (by omega), ?_⟩,by show ((s.toNat:Nat):Int)=s;omega⟩
  rw [show ((s.toNat:Nat):Int)=s from by omega]
  exact h3
theorem plOf_iff (l:List Wr) (p:Pl):p∈plOf l↔0≤p.1∧p.1<8∧0≤p.2∧p.2<4096∧(look l p.1 p.2).isSome=true:=by
 unfold plOf
 rw [List.mem_flatMap]
 constructor
 ·rintro ⟨v,hv,hp⟩
  obtain⟨s,hs,rfl⟩:=List.mem_map.1 hp
  have h1:=List.mem_range.1 hv
  obtain⟨h2,h3,h4⟩:=(secsOf_iff l v s).1 hs
  exact⟨by simp only;omega,by simp only;omega,h2,h3,h4⟩
 ·rintro ⟨h1,h2,h3,h4,h5⟩
  refine⟨p.1.toNat,List.mem_range.2 (by omega),List.mem_map.2 ⟨p.2, ?_, ?_⟩⟩
  ·rw [show ((p.1.toNat:Nat):Int)=p.1 from by omega]
   exact (secsOf_iff l p.1 p.2).2 ⟨h3,h4,h5⟩
  ·exact Prod.ext (by show ((p.1.toNat:Nat):Int)=p.1;omega) rfl
theorem assoc_eq (l:List Wr):assoc l=(plOf l).map fun p=>(p,(look l p.1 p.2).getD zsec):=by
 unfold assoc plOf
 rw [List.map_flatMap]
 refine congrArg (fun f=>List.flatMap f (List.range 8)) (funext fun v => ?_)
 unfold assocV
 rw [List.map_map]
 rfl

def lastE (m:Eff) (p:Pl):Option Sec:=m.foldl (fun r x=>if p=x.1 then some x.2 else r) none
theorem lastE_snoc (m:Eff) (x:Pl × Sec) (p:Pl):lastE (m++[x]) p=if p=x.1 then some x.2 else lastE m p:=by simp [lastE]
theorem hits_ext (v st V S:Int) (d:List Sec) (s:Sec):hits (v,st,d++[s]) V S↔hits (v,st,d) V S∨(V,S)=(v,st+(d.length:Int)):=by
 unfold hits
 simp only [List.length_append,List.length_singleton,Prod.mk.injEq]
 omega
theorem look_canon (m:Eff) (V S:Int):look (canonL m) V S=lastE m (V,S):=by
 induction m using snocRec with
 | h0=>rfl
 | h1 m x ih =>
   obtain⟨⟨p1,p2⟩,s⟩:=x
   rw [canonL_snoc,lastE_snoc, ← ih]
   have hnew:∀ L,look (L++[(p1,p2,[s])]) V S=if (V,S)=(p1,p2) then some s else look L V S:=by
    intro L
    rw [look_snoc]
    by_cases h:(V,S)=(p1,p2)
    ·injection h with h1 h2
     subst h1 h2
     rw [if_pos rfl,if_pos ⟨rfl,by simp;omega⟩]
     simp [datum]
    ·rw [if_neg h,if_neg]
     intro hh
     obtain⟨h1,h2,h3⟩:=hh
     simp at h1 h2 h3
     exact h (Prod.ext h1.symm (by simp only;omega))
   unfold canonStep
   split
   ·rename_i v st d hg
    obtain⟨init,hi⟩:=List.getLast?_eq_some_iff.1 hg
    rw [hi]
    split
    ·rename_i he
     rw [List.dropLast_concat,look_snoc,look_snoc]
     injection he with e1 e2
     subst e1 e2
     by_cases h:(V,S)=(v,st+(d.length:Int))
     ·rw [if_pos ((hits_ext v st V S d s).2 (Or.inr h)),if_pos h]
      injection h with h1 h2
      subst h1 h2
      have:(st+(d.length:Int) - st).toNat=d.length:=by omega
      simp [datum,this]
     ·rw [if_neg h]
      by_cases h2:hits (v,st,d) V S
      ·rw [if_pos ((hits_ext v st V S d s).2 (Or.inl h2)),if_pos h2]
       obtain⟨_,h3,h4⟩:=h2
       simp only at h3 h4
       have:(S - st).toNat<d.length:=by omega
       simp [datum,List.getElem?_append_left this]
      ·rw [if_neg (fun hh=>by rcases (hits_ext v st V S d s).1 hh with hh | hh;exact h2 hh;exact h hh),if_neg h2]
    ·exact hnew _
   ·rename_i hg
    have h0:=List.getLast?_eq_none_iff.1 hg
    rw [h0]
    exact hnew []
theorem lastE_assoc (l:List Wr) (p:Pl):lastE (assoc l) p=if p∈plOf l then some ((look l p.1 p.2).getD zsec) else none:=by
 rw [assoc_eq]
 generalize plOf l=ps
 induction ps using snocRec with
 | h0=>simp [lastE]
 | h1 ps q ih =>
   rw [List.map_append,List.map_singleton,lastE_snoc,ih]
   by_cases h:p=q
   ·subst h;simp
   ·simp [h]
theorem look_range {l:List Wr} (hl:∀ x∈l,placedN x=0) {V S:Int} (h:(look l V S).isSome=true):0≤V∧V<8∧0≤S∧S<4096:=by
 induction l using snocRec with
 | h0=>simp [look_nil] at h
 | h1 l x ih =>
   rw [look_snoc] at h
   split at h
   ·rename_i hh
    obtain⟨a,b,_,c,d⟩:=placed_ok (hl x (by simp))
    obtain⟨h1,h2,h3⟩:=hh
    omega
   ·exact ih (fun y hy=>hl y (by simp [hy])) h
theorem look_fold {l:List Wr} (hl:∀ x∈l,placedN x=0) (V S:Int):look (foldS l) V S=look l V S:=by
 unfold foldS
 rw [look_canon,lastE_assoc]
 cases h:look l V S with
 | none =>
   rw [if_neg]
   intro hp
   have:=((plOf_iff l (V,S)).1 hp).2.2.2.2
   simp only [h] at this
   cases this
 | some s =>
   have hr:=look_range hl (V:=V) (S:=S) (by rw [h];rfl)
   rw [if_pos ((plOf_iff l (V,S)).2 ⟨hr.1,hr.2.1,hr.2.2.1,hr.2.2.2,by simp only [h];rfl⟩)]
   simp
theorem withPrev_snoc (L:List Wr) (x:Wr):withPrev (L++[x])=withPrev L++[(L.getLast?,x)]:=by
 unfold withPrev
 induction L using snocRec with
 | h0=>rfl
 | h1 M y _ =>
   have e1:(none :: List.map some (M++[y]++[x]))=(none :: M.map some)++[some y,some x]:=by simp
   have e2:(none :: List.map some (M++[y]))=(none :: M.map some)++[some y]:=by simp
   have e3:((none :: M.map some)++[some y]).zip (M++[y])=(none :: M.map some).zip (M++[y]):=by
    have:=List.zip_append (l₁:=none :: M.map some) (r₁:=[some y]) (l₂:=M++[y]) (r₂:=([]:List Wr)) (by simp)
    simpa using this
   rw [e1,e2,e3,List.zip_append (by simp),List.getLast?_concat]
   rfl
theorem chkN_zero_iff (f:Wr→Int) (L:List Wr):chkN f L=0↔∀ p∈withPrev L,stepErr f p=0:=by
 constructor
 ·intro h p hp
  rcases Decidable.em (stepErr f p=0) with h0 | h0
  ·exact h0
  ·exfalso
   unfold chkN errOf at h
   cases hf:(withPrev L).find? (fun x=>stepErr f x != 0) with
   | none=>have:=List.find?_eq_none.1 hf p hp;simp at this;exact h0 this
   | some q =>
     rw [hf] at h
     have h1:=List.find?_some hf
     simp only [Option.map_some,Option.getD_some] at h
     rw [h] at h1
     simp at h1
 ·intro h
  exact errOf_zero h
theorem placed_mk {v s:Int} {d:List Sec} (h1:0≤v) (h2:v<8) (h3:0<d.length) (h4:0≤s) (h5:s+d.length≤4096):placedN (v,s,d)=0:=by
 unfold placedN
 simp only
 rw [if_neg (by omega),if_neg (by omega),if_neg (by omega)]
theorem canon_ok (m:Eff) (hs:(m.map (·.1)).Pairwise plLt) (hr:∀ x∈m,0≤x.1.1∧x.1.1<8∧0≤x.1.2∧x.1.2<4096) :
  (∀ p∈withPrev (canonL m),stepErr placedN p=0)∧(∀ v st d,(canonL m).getLast? = some (v,st,d)→0<d.length∧placedN (v,st,d)=0∧(m.map (·.1)).getLast? = some (v,st+d.length - 1)):=by
 induction m using snocRec with
 | h0=>simp [canonL,withPrev]
 | h1 m x ih =>
   obtain⟨⟨p1,p2⟩,s⟩:=x
   rw [List.map_append,List.pairwise_append] at hs
   obtain⟨ih1,ih2⟩:=ih hs.1 (fun y hy=>hr y (by simp [hy]))
   obtain⟨r1,r2,r3,r4⟩:=hr ((p1,p2),s) (by simp)
   simp only at r1 r2 r3 r4
   have hlt:=fun q hq=>hs.2.2 q hq (p1,p2) (by simp)
   rw [canonL_snoc,canonStep]
   split
   ·rename_i v st d hg
    obtain⟨hd,hpl,hlast⟩:=ih2 v st d hg
    obtain⟨a1,a2,_,a4,a5⟩:=placed_ok hpl
    simp only at a1 a2 a4 a5
    obtain⟨init,hi⟩:=List.getLast?_eq_some_iff.1 hg
    have hltp:=hlt _ (List.mem_of_getLast? hlast)
    unfold plLt at hltp
    simp only at hltp
    split
    ·rename_i he
     injection he with e1 e2
     have hp':placedN (v,st,d++[s])=0:=placed_mk a1 a2 (by simp) a4 (by simp;omega)
     refine⟨?_, ?_⟩
     ·rw [hi,List.dropLast_concat,withPrev_snoc]
      rw [hi,withPrev_snoc] at ih1
      intro p hp
      rcases List.mem_append.1 hp with hp | hp
      ·exact ih1 p (by simp [hp])
      ·rw [List.mem_singleton.1 hp]
       have h0:=ih1 (init.getLast?,(v,st,d)) (by simp)
       unfold stepErr at h0 ⊢
       rw [if_neg (by rw [hpl];simp)] at h0
       rw [if_neg (by rw [hp'];simp)]
       exact h0
     ·intro v' st' d' hg'
      rw [List.getLast?_concat] at hg'
      injection hg' with hg'
      injection hg' with e3 e4
      injection e4 with e4 e5
      subst e3 e4 e5
      refine⟨by simp,hp', ?_⟩
      rw [List.map_append,List.map_singleton,List.getLast?_concat, ← e1, ← e2]
      simp;omega
    ·rename_i hne
     have hp':placedN (p1,p2,[s])=0:=placed_mk r1 r2 (by simp) r3 (by simp;omega)
     refine⟨?_, ?_⟩
     ·rw [withPrev_snoc]
      intro p hp
      rcases List.mem_append.1 hp with hp | hp
      ·exact ih1 p hp
      ·rw [List.mem_singleton.1 hp,hg]
       unfold stepErr
       rw [if_neg (by rw [hp'];simp)]
       simp only
       rw [if_neg]
       intro hc
       have:(v,st+(d.length:Int))≠(p1,p2):=hne
       have h3:¬ (v=p1∧st+(d.length:Int)=p2):=fun h=>this (Prod.ext h.1 h.2)
       omega
     ·intro v' st' d' hg'
      rw [List.getLast?_concat] at hg'
      injection hg' with hg'
      injection hg' with e3 e4
      injection e4 with e4 e5
      subst e3 e4 e5
      refine⟨by simp,hp', ?_⟩
      rw [List.map_append,List.map_singleton,List.getLast?_concat]
      simp
   ·rename_i hg
    have h0:=List.getLast?_eq_none_iff.1 hg
    have hp':placedN (p1,p2,[s])=0:=placed_mk r1 r2 (by simp) r3 (by simp;omega)
    refine⟨?_, ?_⟩
    ·intro p hp
     simp [withPrev] at hp
     subst hp
     unfold stepErr
     rw [if_neg (by rw [hp'];simp)]
    ·intro v' st' d' hg'
     simp at hg'
     obtain⟨e3,e4,e5⟩:=hg'
     subst e3 e4 e5
     refine⟨by simp,hp', ?_⟩
     rw [List.map_append,List.map_singleton,List.getLast?_concat]
     simp
theorem assoc_places (l:List Wr):(assoc l).map (·.1)=plOf l:=by
 rw [assoc_eq,List.map_map]
 exact List.map_id' _
theorem chk_fold (l:List Wr):chkN placedN (foldS l)=0:=by
 rw [chkN_zero_iff]
 refine (canon_ok (assoc l) ?_ ?_).1
 ·rw [assoc_places];exact plOf_sorted l
 ·intro x hx
  have:x.1∈plOf l:=by rw [← assoc_places];exact List.mem_map.2 ⟨x,hx,rfl⟩
  have:=(plOf_iff l x.1).1 this
  exact⟨this.1,this.2.1,this.2.2.1,this.2.2.2.1⟩
theorem placed_fold (l:List Wr):∀ x∈foldS l,placedN x=0:=chk_all (chk_fold l)
end Go.Proofs.YtgndgkjefgjamaaGreat

namespace Go.Proofs.YtgndgkjefgjamaaGreat

def optM (M:Eff) (p:Pl):Option Sec:=(M.find? fun x=>x.1==p).map (·.2)
theorem getM_opt (M:Eff) (p:Pl):getM M p=(optM M p).getD zsec:=rfl
theorem optM_put (M:Eff) (p q:Pl) (s:Sec):optM (putE M p s) q=if q=p then some s else optM M q:=by
 induction M with
 | nil =>
   by_cases h:q=p
   ·subst h;simp [putE,optM]
   ·have:(p==q)=false:=by rw [beq_eq_false_iff_ne];exact fun e=>h e.symm
    simp [putE,optM,h,this]
 | cons x M ih =>
   unfold putE
   by_cases hx:x.1=p
   ·rw [if_pos hx]
    by_cases h:q=p
    ·subst h;simp [optM]
    ·have h1:(p==q)=false:=by rw [beq_eq_false_iff_ne];exact fun e=>h e.symm
     have h2:(x.1==q)=false:=by rw [hx];exact h1
     simp [optM,h1,h2,h]
   ·rw [if_neg hx]
    by_cases hq:x.1=q
    ·have:q≠p:=fun e=>hx (hq.trans e)
     simp [optM,hq,this]
    ·have h2:(x.1==q)=false:=by rw [beq_eq_false_iff_ne];exact hq
     have e1:optM (x :: putE M p s) q=optM (putE M p s) q:=by simp [optM,h2]
     have e2:optM (x :: M) q=optM M q:=by simp [optM,h2]
     rw [e1,e2,ih]
theorem keys_put (M:Eff) (p:Pl) (s:Sec):∀ y∈putE M p s,y.1=p∨∃ z∈M,z.1=y.1:=by
 induction M with
 | nil=>intro y hy;simp [putE] at hy;exact Or.inl (by rw [hy])
 | cons x M ih =>
   intro y hy
   unfold putE at hy
   split at hy
   ·rcases List.mem_cons.1 hy with h | h
    ·exact Or.inl (by rw [h])
    ·exact Or.inr ⟨y,by simp [h],rfl⟩
   ·rcases List.mem_cons.1 hy with h | h
    ·exact Or.inr ⟨x,by simp,by rw [h]⟩
    ·rcases ih y h with h | ⟨z,hz,e⟩
     ·exact Or.inl h
     ·exact Or.inr ⟨z,by simp [hz],e⟩
theorem optM_effW (M:Eff) (x:Wr) (q:Pl) (j:Nat) (hj:j≤x.2.2.length):optM (effW M x j) q=if q.1=x.1∧x.2.1≤q.2∧q.2<x.2.1+j then some (datum x q.2) else optM M q:=by
 induction j with
 | zero =>
   have:¬ (q.1=x.1∧x.2.1≤q.2∧q.2<x.2.1+((0:Nat):Int)):=by omega
   rw [if_neg this];rfl
 | succ j ih =>
   rw [effW_succ,optM_put,ih (by omega)]
   by_cases h:q=(x.1,x.2.1+(j:Int))
   ·rw [if_pos h,if_pos (by rw [h];exact⟨rfl,by simp only;omega,by simp only;omega⟩)]
    rw [h]
    simp only [datum]
    rw [show (x.2.1+(j:Int) - x.2.1).toNat=j from by omega]
   ·rw [if_neg h]
    by_cases h2:q.1=x.1∧x.2.1≤q.2∧q.2<x.2.1+j
    ·rw [if_pos h2,if_pos (by omega)]
    ·rw [if_neg h2,if_neg]
     intro h3
     have:q.2=x.2.1+(j:Int):=by omega
     exact h (Prod.ext h3.1 this)
theorem optM_eff (l:List Wr) (q:Pl):optM (effM l) q=look l q.1 q.2:=by
 induction l using snocRec with
 | h0=>rfl
 | h1 l x ih =>
   rw [effM_snoc,look_snoc,optM_effW _ _ _ _ (Nat.le_refl _),ih]
   by_cases h:hits x q.1 q.2
   ·rw [if_pos h,if_pos ⟨h.1.symm,h.2⟩]
   ·rw [if_neg h,if_neg (fun h'=>h ⟨h'.1.symm,h'.2⟩)]
theorem effW_ok (M:Eff) (x:Wr) (hx:placedN x=0) (h:∀ y∈M,0≤y.1.1∧y.1.1<8∧0≤y.1.2∧y.1.2<4096) (j:Nat) (hj:j≤x.2.2.length):∀ y∈effW M x j,0≤y.1.1∧y.1.1<8∧0≤y.1.2∧y.1.2<4096:=by
 obtain⟨a,b,_,c,d⟩:=placed_ok hx
 induction j with
 | zero=>exact h
 | succ j ih =>
   intro y hy
   rw [effW_succ] at hy
   rcases keys_put _ _ _ y hy with e | ⟨z,hz,e⟩
   ·rw [e];simp only;omega
   ·rw [← e];exact ih (by omega) z hz
theorem eff_ok (l:List Wr) (hl:∀ x∈l,placedN x=0):∀ y∈effM l,0≤y.1.1∧y.1.1<8∧0≤y.1.2∧y.1.2<4096:=by
 induction l using snocRec with
 | h0=>simp [effM]
 | h1 l x ih =>
   rw [effM_snoc]
   exact effW_ok _ x (hl x (by simp)) (ih (fun y hy=>hl y (by simp [hy]))) _ (Nat.le_refl _)
theorem optM_mem (M:Eff) (p:Pl):(optM M p).isSome↔p∈M.map (·.1):=by
 unfold optM
 rw [Option.isSome_map,List.find?_isSome,List.mem_map]
 constructor
 ·rintro ⟨x,hx,e⟩;exact⟨x,hx,by simpa using e⟩
 ·rintro ⟨x,hx,e⟩;exact⟨x,hx,by simpa using e⟩
theorem nodup_len:∀ (n:Nat) (l:List Nat),l.Nodup→(∀ x∈l,x<n)→l.length≤n
 | 0,l,_,h=>by
   cases l with
   | nil=>simp
   | cons x l=>exact absurd (h x (by simp)) (by omega)
 | n+1,l,hn,h=>by
   have h1:=nodup_len n (l.filter (· != n)) (List.filter_sublist.nodup hn) (fun x hx=>by
    have:=List.mem_filter.1 hx
    have h2:=h x this.1
    have h3:x≠n:=by simpa using this.2
    omega)
   have h2:∀ m:List Nat,m.Nodup→m.length≤(m.filter (· != n)).length+1:=by
    intro m
    induction m with
    | nil=>simp
    | cons x m ih =>
      intro hm
      rw [List.nodup_cons] at hm
      by_cases hx:x=n
      ·have e:m.filter (· != n)=m:=List.filter_eq_self.2 (fun y hy=>by
        rw [bne_iff_ne];intro e;exact hm.1 (by rw [hx, ← e];exact hy))
       have:(x != n)=false:=by simp [hx]
       rw [List.filter_cons_of_neg (by simp [hx]),e];simp
      ·rw [List.filter_cons_of_pos (by simpa using hx)]
       have:=ih hm.2
       simp;omega
   have:=h2 l hn
   omega
theorem keys_len (M:Eff) (hn:(M.map (·.1)).Nodup) (h:∀ y∈M,0≤y.1.1∧y.1.1<8∧0≤y.1.2∧y.1.2<4096):M.length≤32768:=by
 have h1:=nodup_len 32768 (M.map fun y=>(y.1.1 * 4096+y.1.2).toNat) (by
  rw [List.nodup_iff_pairwise_ne,List.pairwise_map] at hn ⊢
  refine (List.Pairwise.and_mem.1 hn).imp (fun {a b} hab e => ?_)
  obtain⟨ha,hb,hne⟩:=hab
  have h1:=h a ha
  have h2:=h b hb
  exact hne (Prod.ext (by omega) (by omega))) (by
  intro x hx
  obtain⟨y,hy,rfl⟩:=List.mem_map.1 hx
  have:=h y hy
  omega)
 simpa using h1

theorem sortP_plOf (l:List Wr) (hn:((effM l).map (·.1)).Nodup) (hl:∀ x∈l,placedN x=0):sortP ((effM l).map (·.1))=plOf l:=by
 have ht:∀ x y z:Pl,(!(Go.Proofs.ltOf befI) y x)=true→(!(Go.Proofs.ltOf befI) z y)=true→(!(Go.Proofs.ltOf befI) z x)=true:=by
  intro x y z h1 h2
  rw [befI_lt] at *;simp at *;omega
 have hc:∀ x y:Pl,((!(Go.Proofs.ltOf befI) y x) || (!(Go.Proofs.ltOf befI) x y))=true:=by
  intro x y
  rw [befI_lt,befI_lt];simp;omega
 refine List.Perm.eq_of_pairwise (le:=fun x y=>(!(Go.Proofs.ltOf befI) y x)=true) ?_ (List.pairwise_mergeSort ht hc _) ?_ ?_
 ·intro x y _ _ h1 h2
  exact totPl x y (by simpa using h2) (by simpa using h1)
 ·refine (plOf_sorted l).imp (fun {x y} h => ?_)
  rw [befI_lt]
  unfold plLt at h
  simp;omega
 ·refine (List.mergeSort_perm _ _).trans ((List.perm_ext_iff_of_nodup hn ?_).2 (fun p => ?_))
  ·rw [List.nodup_iff_pairwise_ne]
   refine (plOf_sorted l).imp (fun {x y} h e => ?_)
   subst e
   unfold plLt at h
   omega
  ·rw [← optM_mem,optM_eff,plOf_iff]
   constructor
   ·intro h
    have hm:p∈(effM l).map (·.1):=(optM_mem _ _).1 (by rw [optM_eff];exact h)
    obtain⟨y,hy,rfl⟩:=List.mem_map.1 hm
    obtain⟨a,b,c,d⟩:=eff_ok l hl y hy
    exact⟨a,b,c,d,h⟩
   ·exact fun h=>h.2.2.2.2
theorem sortedM_assoc (l:List Wr) (hn:((effM l).map (·.1)).Nodup) (hl:∀ x∈l,placedN x=0):sortedM (effM l)=assoc l:=by
 rw [sortedM,sortP_plOf l hn hl,assoc_eq]
 refine List.map_congr_left fun p _ => ?_
 rw [getM_opt,optM_eff]
end Go.Proofs.YtgndgkjefgjamaaGreat

namespace Go.Proofs.YtgndgkjefgjamaaGreat
open Go.RowKit Go.ChangeMaps

theorem placed8 (v s:Int) (n:Nat) (D:Option Addr) (c:Nat) (w:World) (hn:n≤9223372036854775807) (data:List Sec) (hd:data.length=n) (pn:Int) (hp:placedN (v,s,data)=pn) :
  Calls Tryz.prog 118 #[.agg #[.int .i64 v,.int .i64 s,.slice D n c]] w fun e w'=>e = .returned (.int .i64 pn)∧Below w.heap.size w w':=by
 subst hp
 exact placed_any v s n D c w hn data hd

set_option maxHeartbeats 2000000 in
theorem fold_any (A:Option Addr) (c:Nat) (l:List Wr) (w:World) (h1:SlAt encWr w (Bl w.heap.size) A l) (hs:l.length≤9223372036854775807) :
  Calls Tryz.prog 63 #[.slice A l.length c] w (RetSlN encWr (foldL l) (errOf placedN l) w):=by
 have H1:Hid (∀ w',Below w.heap.size w w'→SlAt encWr w' (Bl w'.heap.size) A l):=fun w' hb=>h1.belowUp hb hb.size
 have H2:Hid (∀ w',Below w.heap.size w w'→SlAt encWr w' (Bl w.heap.size) A l):=fun w' hb=>h1.below hb
 clear h1
 go_enter Tryz.func63,Tryz.ntmps63
 go_wp2
 go_loopw [9] (fun i wr=>∃ k:Nat,k≤l.length∧i = .int .i64 k∧Below w.heap.size w wr∧Hid (∀ x∈l.take k,placedN x=0)) (fun i _=>l.length - (intOf i).toNat)
 case atStart=>exact⟨0,by omega,rfl,Below.refl _ _,by simp [Hid]⟩
 case round =>
  obtain⟨k,hk,rfl,hB,hz⟩:=hrel
  by_cases hlt:k<l.length
  ·obtain⟨b,off,D,dc,rfl,hb,g0,g1,g2,hD,hn1,hn2,hi1,hi2⟩:=(H2.out wr hB).wr hlt
   have hbl:b<w.heap.size:=hb
   have hnn:(0:Int)≤k:=by omega
   have hki:(k:Int)<l.length:=by omega
   unfold maxLen at hn2
   have hn3:l[k].2.2.length≤9223372036854775807:=by omega
   have hsz:=hB.size
   obtain⟨pn,hpn⟩:∃ pn,Hid (placedN l[k]=pn):=⟨placedN l[k],Lib.hid rfl⟩
   by_cases hp0:pn=0
   ·have hp1:(pn != 0)=false:=by simp [hp0]
    have HP:=Lib.hid hp0;clear hp0
    go_wp2_with fail
    refine (placed8 _ _ _ _ _ _ hn3 l[k].2.2 rfl pn hpn.out).mono ?_
    rintro e w1 ⟨rfl,hb1⟩
    have hB1:Below w.heap.size w w1:=(hB.alloc hsz _).trans (hb1.mono (by simp;omega))
    have HB1:=Lib.hid hB1;clear hB1
    clear g0 g1 g2
    go_wp2
    go_roundw
    case rel =>
     refine⟨k+1,hlt,by go_num,HB1.out, ?_⟩
     intro x hx
     rw [List.take_succ_eq_append_getElem hlt] at hx
     rcases List.mem_append.1 hx with hx | hx
     ·exact hz.out x hx
     ·rw [List.mem_singleton.1 hx,hpn.out,HP.out]
    case measure=>simp [intOf];omega
   ·have hp1:(pn != 0)=true:=by simp [hp0]
    have HP:=Lib.hid hp0;clear hp0
    go_wp2_with fail
    refine (placed8 _ _ _ _ _ _ hn3 l[k].2.2 rfl pn hpn.out).mono ?_
    rintro e w1 ⟨rfl,hb1⟩
    have hB1:Below w.heap.size w w1:=(hB.alloc hsz _).trans (hb1.mono (by simp;omega))
    have HB1:=Lib.hid hB1;clear hB1
    clear g0 g1 g2
    go_wp2
    go_ret2
    have herr:errOf placedN l=pn:=by
     rw [← hpn.out]
     exact errOf_at hlt hz.out (by rw [hpn.out];exact HP.out)
    have hf:foldL l=[]:=by rw [foldL,herr,if_neg HP.out]
    rw [hf,herr]
    exact⟨none,0,rfl,by simp,by simp,SlAt.nil_,HB1.out⟩
  ·have hkk:k=l.length:=by omega
   subst hkk
   have hall:∀ x∈l,placedN x=0:=by have:=hz.out;rw [List.take_length] at this;exact this
   have herr:errOf placedN l=0:=errOf_zero hall
   have hf:foldL l=foldS l:=by rw [foldL,herr,if_pos rfl]
   have HF:=Lib.hid hf
   have HE0:=Lib.hid herr
   have HALL:=Lib.hid hall
   clear hz herr hf hall
   go_wp2_with fail
   refine (effect_any A c l wr (H1.out wr hB) hs HALL.out).mono ?_
   rintro e w1 ⟨b,rfl,hM,hbb,hb1⟩
   have hsz:=hB.size
   have hsz1:=hb1.size
   have hkeys:=hM.keys
   have hokM:=eff_ok l HALL.out
   have HK:=Lib.hid hkeys
   have hcan:=Lib.hid (canonical_any b (effM l) w1 hM (Nat.le_trans (keys_len _ hkeys hokM) (by omega)) hokM)
   clear hkeys hokM hM
   go_wp2_with fail
   refine hcan.out.mono ?_
   rintro e w2 ⟨A2,c2,rfl,r1,r2,r3,hb2⟩
   have HR:=Lib.hid (And.intro r1 (And.intro r2 r3))
   clear r1 r2 r3
   go_wp2
   go_ret2
   obtain⟨r1,r2,r3⟩:=HR.out
   rw [HE0.out,HF.out,foldS]
   rw [sortedM_assoc l HK.out HALL.out] at r1 r3 ⊢
   exact⟨A2,c2,rfl,r1,r2,r3.more (fun g h=>h.mono (by omega) (Nat.le_refl _)),hB.trans ((hb1.mono hsz).trans (hb2.mono (by omega)))⟩
end Go.Proofs.YtgndgkjefgjamaaGreat

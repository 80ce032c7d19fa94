/-
  The code's Build: the walk.; slices.Equal over digests, slices.EqualFunc over levels.; The code's Check: the walk.; The walks of extent.within and extent.Contains.; The layings of the shelf's contracts of slices.SortFunc at this program (written by the kit's lay-plain.mjs).
-/
import Derived.Shelf.SlGeneric
import Derived.Shelf.SlSortCmp.NoneTotal
import Derived.Ground.SlsfProg
import Derived.Test.YtjehedfdikdfpaaProg
import Derived.Test.YtjehedfdikdfpaaZL01
import Derived.Test.YtjehedfdikdfpaaZL03
set_option linter.unusedVariables false
set_option linter.unusedSimpArgs false
set_option linter.unusedSectionVars false
set_option linter.unnecessarySimpa false
namespace Go.Proofs.Ytjehedfdikdfpaa
open Go.RowKit Go.Shelf
attribute [local go_sem] Oper.semAt_some

section
variable {F : Fence} {n : Nat} {P : Program} {α : Type} {E : Enc α} {t e : TypeId} {bytes : Nat} {o : Oper} {ops : Array Oper} {a : Act} {w : World} {Q : Exit → Act → World → Prop}
/-- append of one element at a step of a region that draws its order, inside a fence -/
theorem stepIn_app1 {K : Act → World → Prop} {X : Prop} (hT : SliceTy P t e E.size bytes) (hgd : o.guard = none) (s x : Operand) (ho : o.op = .call { callee := .builtin .append, args := #[s, x], argTypes := #[t, t] })
    {base : Nat} {S : Nat → Prop} {v : Value} {l : List α} (hs : a.eval s = v) (hown : Own E w base e S v l) {b c : Nat} (y : α) (cs : List Value) (hx : a.eval x = .slice (some ⟨b, 0, none⟩) 1 c)
    (hcs : E.rd w S cs y) (hnews : w.heap[b]? = some (.cells cs.toArray e (0, 0))) (hS : ∀ b, S b → b < w.heap.size) (hbase : base ≤ w.heap.size)
    (h63 : l.length + 1 ≤ maxLen) (hbytes : (l.length + 1) * bytes ≤ 140737488355328)
    (h : ∀ A c' w', Own E w' base e S (.slice A (l.length + 1) c') (l ++ [y]) → w.grownBy w' v.ownBlock → ((Value.slice A (l.length + 1) c').ownBlock = v.ownBlock ∨ (Value.slice A (l.length + 1) c').ownBlock = some w.heap.size) → K (a.put o.dst (.slice A (l.length + 1) c')) w') :
    if Region.wanted o (yielded ops a.tmps) = true then Oper.wpIn F n P o a w K Q else X := by
  have hw : Region.wanted o (yielded ops a.tmps) = true := by simp [Region.wanted, hgd]
  rw [if_pos hw]
  obtain ⟨A, c', w', hr, h2, h3, h4⟩ := run_app (P := P) (c := c) (m := 1) (news := [y]) (css := [cs]) (ad := some ⟨b, 0, none⟩) hT o.type hown rfl ⟨hcs, trivial⟩ (fun _ => ⟨_, rfl, fun j u hu => by
    have hadd : (⟨b, 0, none⟩ : Addr).add j = ⟨b, j, none⟩ := by unfold Addr.add; split <;> simp_all
    rw [hadd, cell_of_row w b j _ e (0, 0) hnews]
    simpa using hu⟩) hS hbase h63 hbytes
  unfold Oper.wpIn
  refine ⟨?_, ?_⟩
  · simp [Oper.about, ho, resolve, Target.leads, Sem.run_pure]
  · rw [Oper.semAt_plain F _ _ (by rw [ho]; intro c hc'; cases hc')]
    simp only [execOp, ho, resolve, invoke, builtin, Sem.run_bind, Sem.run_pure, Result.andThen_ok, List.map_toArray, List.map_cons, List.map_nil, hs, hx, hr]
    exact h A c' w' h2 h3 h4
end
theorem BoxOwn.appended3 {α : Type} {E : Enc α} {W w1 : World} {n₀ b : Nat} {t e : TypeId} {l l' : List α} {v v' : Value} {tmp : Obj} (hv : Boxed W b t v) (hte : t ≠ e) (hrow : Own E W n₀ e (fun _ => False) v l)
    (hown : Own E w1 n₀ e (fun _ => False) v' l') (hgrow : (W.alloc tmp).grownBy w1 v.ownBlock) :
    Boxed w1 b t v ∧ BoxOwn E n₀ b t e l' (w1.setCell ⟨b, 0, none⟩ v') ∧ KeepsOthers W (w1.setCell ⟨b, 0, none⟩ v') := by
  have hne : some b ≠ v.ownBlock := fun e' => by
    obtain ⟨_, cs, fr, h1⟩ := hrow.cellsOf b e'.symm
    rw [show W.heap[b]? = _ from hv] at h1; cases h1; exact hte rfl
  have hv1 : Boxed w1 b t v := (hv.alloc tmp).kept hgrow hne
  have hne' : v'.ownBlock ≠ some b := fun e' => by
    obtain ⟨_, cs, fr, h1⟩ := hown.cellsOf b e'
    rw [show w1.heap[b]? = _ from hv1] at h1; cases h1; exact hte rfl
  have hw : Own E (W.alloc tmp) n₀ e (fun _ => False) v l := hrow.alloc (fun _ h => h.elim) tmp
  refine ⟨hv1, ⟨v', hv1.set v', hown.blk (fun g hg => ?_)⟩, ?_⟩
  · rcases hg with hg | hg
    · exact hg.elim
    · exact Below.heap_setCell _ _ _ _ (fun e' => hne' (by rw [hg, e']))
  · refine ((KeepsOthers.alloc W tmp).trans (KeepsOthers.of_grownBy hgrow fun j o ej hj => ?_)).trans (KeepsOthers.setCell _ _ _)
    obtain ⟨_, cs, fr, h1⟩ := hw.cellsOf j ej
    rw [h1] at hj; cases hj; rfl
theorem cell_putObj_dead {W : World} {D : Nat} {o o' : Obj} (hD : W.heap[D]? = some o) (ho : o.isCells = false) (ho' : o'.isCells = false) (p : Addr) : (W.putObj D o').cell? p = W.cell? p := by
  by_cases e : p.block = D
  · have h1 : (W.putObj D o').heap[p.block]? = some o' := by rw [e]; exact World.putObj_heap_same (Array.getElem?_eq_some_iff.1 hD).1
    have h2 : W.heap[p.block]? = some o := by rw [e]; exact hD
    unfold World.cell?
    rw [h1, h2]
    cases o <;> cases o' <;> simp_all [Obj.isCells]
  · exact World.cell?_of_block (World.putObj_heap_other (by omega))
theorem lkRes' {W : World} {D : Nat} {ob o' : Obj} (hD : W.heap[D]? = some ob) (ho : ob.isCells = false) {k : Nat} {cs : Array Value} {T : TypeId} {fr : Nat × Nat} (h : W.heap[k]? = some (.cells cs T fr)) : (W.putObj D o').heap[k]? = some (.cells cs T fr) :=
  (World.putObj_heap_other (fun e => by subst e; rw [hD] at h; cases h; cases ho)).trans h
theorem below_others {W W' : World} (h : Below W.heap.size W W') : KeepsOthers W W' := ⟨h.size, fun k o hk _ => (h.block k (Array.getElem?_eq_some_iff.1 hk).1).trans hk⟩
set_option maxRecDepth 100000 in
set_option maxHeartbeats 4000000 in
theorem build_any (A : Option Addr) (c n : Nat) (l : List Sec) (leaf : Int) (w : World) (hn : l.length = n) (hc : n ≤ c ∧ c ≤ maxLen) (h1 : SlAt encSec w (Bl w.heap.size) A l) (hl : n ≤ 100000) (hlf : I64 leaf) :
    Calls Try.prog 60 #[.slice A n c, .int .i64 leaf] w (TreeRetE (buildT l leaf) (buildErr l leaf) w.heap.size w) := by
  subst hn
  unfold I64 at hlf
  obtain ⟨hlf1, hlf2⟩ := hlf
  have hl2 : ((l.length : Nat) : Int) ≤ 100000 := by omega
  have HL := Lib.hid (limN_cases l.length leaf)
  obtain ⟨W0, hW0⟩ : ∃ W0, w.alloc (.cells #[.int .i64 0, .int .i64 0, .slice none 0 0] 24) = W0 := ⟨_, rfl⟩
  have hrow0 : W0.heap[w.heap.size]? = some (.cells #[.int .i64 0, .int .i64 0, .slice none 0 0] 24 (0, 0)) := by rw [← hW0]; exact heap_alloc_new _ _
  have hs0 : W0.heap.size = w.heap.size + 1 := by rw [← hW0]; simp
  have hB0 : Below w.heap.size w W0 := by rw [← hW0]; exact ext_alloc (Below.refl _ _)
  have HS0 := Lib.hid hs0; clear hs0
  obtain ⟨r0, r1, r2, rf⟩ := blk3 hrow0
  have H1 : Hid (∀ w', Below W0.heap.size W0 w' → SlAt encSec w' (Bl w.heap.size) A l) := fun w' hb => (h1.below hB0).below (hb.mono hB0.size)
  clear h1
  have HLM := Lib.hid (limits_any (l.length : Int) leaf (limN l.length leaf) W0 rfl)
  obtain ⟨nn, hnn⟩ : ∃ n : Nat, 4 ≤ n := ⟨4, Nat.le_refl _⟩
  refine (callsIn_wide (n := nn)).1 ?_
  refine callsIn_of_wp_marks Try.func60 rfl trivial ?_ rfl
  simp only [Try.ntmps60, List.size_toArray, List.length_cons, List.length_nil, Nat.reduceAdd, Nat.reduceSub, Array.replicate_succ, Array.replicate_zero, List.push_toArray, List.append_toArray, List.nil_append, List.cons_append]
  gi_wp2_with fail
  refine ⟨trivial, fun _ => by omega, CallsIn.mono (callsIn_wide.2 HLM.out) ?_⟩
  rintro e W0 ⟨rfl, rfl⟩
  rcases HL.out with ⟨g1, g2⟩ | ⟨g1, g2, g3, g4⟩ | ⟨g1, g2, g3, g4, g5⟩
  · have HT : Hid (buildT l leaf = zTree) := buildT_err (by rw [g1]; decide)
    have HE : Hid (buildErr l leaf = 2) := g1
    rw [g1]
    clear g1 HL
    gi_wp2_with fail
    rw [HT.out, HE.out]
    have hend := treeRetE_end (w := w) (lo := w.heap.size) hrow0 (Nat.le_refl w.heap.size) hB0 zTree none 0 2 (by simp [zTree]) (by decide) SlAt.nil_
    obtain ⟨hz, hret⟩ := hend
    change bodyPostM _ _ _ _ _ _ _ (set3 W0 w.heap.size (.int .i64 (zTree : Tr).1) (.int .i64 (zTree : Tr).2.1) (.slice none (zTree : Tr).2.2.length 0))
    generalize set3 W0 w.heap.size (.int .i64 (zTree : Tr).1) (.int .i64 (zTree : Tr).2.1) (.slice none (zTree : Tr).2.2.length 0) = W3 at hz hret ⊢
    obtain ⟨z0, z1, z2, _⟩ := blk3 hz
    refine ⟨.tuple #[.agg #[.int .i64 (zTree : Tr).1, .int .i64 (zTree : Tr).2.1, .slice none (zTree : Tr).2.2.length 0], .int .i64 2], ?_, hret⟩
    simp [results, Try.results60, Try.f60, go_sem, z0, z1, z2, zTree]
  · have HT : Hid (buildT l leaf = zTree) := buildT_err (by rw [g1]; decide)
    have HE : Hid (buildErr l leaf = 1) := g1
    rw [g1]
    clear g1 HL
    gi_wp2_with fail
    rw [HT.out, HE.out]
    have hend := treeRetE_end (w := w) (lo := w.heap.size) hrow0 (Nat.le_refl w.heap.size) hB0 zTree none 0 1 (by simp [zTree]) (by decide) SlAt.nil_
    obtain ⟨hz, hret⟩ := hend
    change bodyPostM _ _ _ _ _ _ _ (set3 W0 w.heap.size (.int .i64 (zTree : Tr).1) (.int .i64 (zTree : Tr).2.1) (.slice none (zTree : Tr).2.2.length 0))
    generalize set3 W0 w.heap.size (.int .i64 (zTree : Tr).1) (.int .i64 (zTree : Tr).2.1) (.slice none (zTree : Tr).2.2.length 0) = W3 at hz hret ⊢
    obtain ⟨z0, z1, z2, _⟩ := blk3 hz
    refine ⟨.tuple #[.agg #[.int .i64 (zTree : Tr).1, .int .i64 (zTree : Tr).2.1, .slice none (zTree : Tr).2.2.length 0], .int .i64 1], ?_, hret⟩
    simp [results, Try.results60, Try.f60, go_sem, z0, z1, z2, zTree]
  · obtain ⟨m, rfl⟩ : ∃ m : Nat, leaf = m := ⟨leaf.toNat, by omega⟩
    have HT : Hid (buildT l (m : Int) = ((l.length : Int), (m : Int), levels (digests l m))) := buildT_ok g1
    have HE : Hid (buildErr l (m : Int) = 0) := g1
    rw [g1]
    clear g1 HL
    have hm1 : 1 ≤ m := by omega
    have hm2 : m ≤ 4096 := by omega
    have hn1 : 1 ≤ l.length := by omega
    have hn2 : l.length ≤ 4096 := by omega
    gi_wp2_with fail
    refine ⟨trivial, fun _ => by omega, CallsIn.mono (callsIn_wide.2 (chunk_any A l.length c (m : Int) (by omega) _)) ?_⟩
    rintro e w1 ⟨rfl, rfl⟩
    obtain ⟨b, off, rfl, hbA⟩ := (H1.out W0 (Below.refl _ _)).some_ (fun e => by rw [e] at hn1; simp at hn1)
    obtain ⟨W1, hW1⟩ : ∃ W1, ((W0.alloc (.cells #[.slice none 0 0] 72)).alloc (.cells #[.slice (some ⟨b, off, none⟩) l.length c] 69)).alloc (.cells #[.int .i64 m] 3) = W1 := ⟨_, rfl⟩
    have hs1 : W1.heap.size = W0.heap.size + 3 := by rw [← hW1]; simp
    have hB1 : Below W0.heap.size W0 W1 := by rw [← hW1]; exact ext_alloc (ext_alloc (ext_alloc (Below.refl _ _)))
    have a1 := heap_alloc_new W0 (.cells #[.slice none 0 0] 72)
    have a2 := heap_alloc_new (W0.alloc (.cells #[.slice none 0 0] 72)) (.cells #[.slice (some ⟨b, off, none⟩) l.length c] 69)
    have a3 := heap_alloc_new ((W0.alloc (.cells #[.slice none 0 0] 72)).alloc (.cells #[.slice (some ⟨b, off, none⟩) l.length c] 69)) (.cells #[.int .i64 m] 3)
    simp only [World.size_alloc] at a1 a2 a3
    have hbx : Boxed W1 W0.heap.size 72 (.slice none 0 0) := by rw [← hW1]; exact (Below.heap_alloc _ _ _ (by simp; omega)).trans ((Below.heap_alloc _ _ _ (by simp)).trans a1)
    have hcs : W1.cell? ⟨W0.heap.size + 1, 0, none⟩ = some (.slice (some ⟨b, off, none⟩) l.length c) := by rw [← hW1]; exact cell_of_row _ _ 0 _ _ _ ((Below.heap_alloc _ _ _ (by simp)).trans a2)
    have hcn : W1.cell? ⟨W0.heap.size + 1 + 1, 0, none⟩ = some (.int .i64 m) := by rw [← hW1]; exact cell_of_row _ _ 0 _ _ _ a3
    have hmx : Try.prog.follows .mixedOrders = true := by kernel_rfl
    have HST := Lib.hid (chunk_stops (nn - 1) (by omega) (W0.heap.size + 1) (W0.heap.size + 1 + 1) c b off m l hm1 hm2 hn1 hn2 hc.1 hc.2 W1 (by omega) (by omega) hcs hcn)
    clear a1 a2 a3 hcs hcn
    gi_wp2
    clear hW1
    refine wpIn_rangeFunc_ownT (own := fun _ => False) rfl (by omega) (gf := 88) (lb := #[.pointer (some ⟨W0.heap.size + 1, 0, none⟩), .pointer (some ⟨W0.heap.size + 1 + 1, 0, none⟩)]) rfl trivial (enters_of Try.func88 (by kernel_rfl) rfl) HST.out KpC.trans (fun W l o o' hl h _ _ => KpC.blk (World.putObj_heap_other (by omega)) (World.putObj_heap_other (by omega))) (Below.refl _ _) (fun _ => rfl)
      (fun pre W => BoxOwn encU64 W1.heap.size W0.heap.size 72 77 (pre.map fun k => digS (leafAt l m k)) W ∧ Below W0.heap.size W1 W)
      (fun _ _ _ => False)
      (OwnT.and (boxOwn_ownT (fun pre : List Nat => pre.map fun k => digS (leafAt l m k)) (fun h => h) (fun h => h)) (ownT_below (by omega) (by omega)))
      (fun _ _ _ _ _ hs _ _ => hs)
      ⟨⟨_, hbx, Own.nil_⟩, Below.refl _ _⟩
      (fun x a' W => a' = { tmps := #[.slice (some ⟨b, off, none⟩) l.length c, .int .i64 m, undef, undef, .pointer (some ⟨w.heap.size, 0, none⟩), .int .i64 0, .int .i64 0, .pointer (some ⟨W0.heap.size, 0, none⟩), .slice (some ⟨b, off + x * m * 8, none⟩) (leafAt l m x).length (leafAt l m x).length, .slice (some ⟨b, off, none⟩) l.length c, .int .i64 l.length, .int .i64 m, .int .i64 0, .int .i64 0, .bool false, undef, undef, .slice (some ⟨b, off, none⟩) l.length c, .int .i64 m, .func (.func 88) #[] #[.pointer (some ⟨W0.heap.size + 1, 0, none⟩), .pointer (some ⟨W0.heap.size + 1 + 1, 0, none⟩)], .slice (some ⟨b, off + x * m * 8, none⟩) (leafAt l m x).length (leafAt l m x).length, undef, undef, undef, undef, undef, undef, undef, undef, undef, undef], defers := [] }) ?hAx ?assign ?body ?done ?stop
    case hAx => exact fun x a' s X Y row h _ _ => h
    case assign =>
      rintro y pre x W K ⟨hi, hB⟩ hK
      unfold chE
      have HI := Lib.hid hi; clear hi
      gi_wp2
      exact hK _ _ (KeepsFrom.refl _ _) ⟨rfl, rfl⟩ ⟨HI.out, hB⟩ rfl
    case body =>
      rintro y pre x a' W _ _ ⟨⟨v, hv, hrow⟩, hB⟩ rfl hlen
      have hc := hv.cell
      have hf := hv.frozen
      have hsz := hB.size
      have hB9 : Below W0.heap.size W0 W := hB1.trans hB
      have hat : SlAt encSec W (Bl W.heap.size) (some ⟨b, off + x * m * 8, none⟩) (leafAt l m x) := (((H1.out W hB9).drop (k := x * m)).take).more (fun g hg => Nat.lt_of_lt_of_le hg (Nat.le_trans hB0.size hB9.size))
      obtain ⟨d, hd⟩ : ∃ d, digS (leafAt l m x) = d := ⟨_, rfl⟩
      have HD := Lib.hid (fun W' (hb : Below W.heap.size W W') => digestSecs_any (some ⟨b, off + x * m * 8, none⟩) (leafAt l m x).length _ (leafAt l m x) d W' rfl hd (hat.belowUp hb hb.size) (by rw [leafAt_len]; omega))
      have HDR : Hid (U64 d) := by rw [← hd]; exact dig_range _
      have hlen2 : pre.length < 100000 := Nat.lt_of_lt_of_le hlen (Nat.le_trans (leavesN_le hm1) (by omega))
      have HDE := Lib.hid hd; clear hd hat hlen
      have HV := Lib.hid hv; have HROW := Lib.hid hrow
      clear hv hrow
      gi_wp2
      refine wpIn_region_any hmx ?_
      change wpAnyIn _ _ _ _ _ _ _ _ _ (World.drew _)
      refine wpAnyIn_ready (rs := [0, 1]) (by kernel_rfl) (by simp) ?_
      refine AllReadyIn.cons rfl (fun K hK => ?_) (AllReadyIn.cons rfl (fun K hK => ?_) AllReadyIn.nil)
      · go_simp
        refine hK _ _ ?_
        clear hK K
        refine wpAnyIn_ready (rs := [1]) (by kernel_rfl) (by simp) ?_
        refine AllReadyIn.cons rfl (fun K hK => ?_) AllReadyIn.nil
        go_simp
        refine hK _ _ ?_
        clear hK K
        refine wpAnyIn_ready (rs := [2]) (by kernel_rfl) (by simp) ?_
        refine AllReadyIn.cons rfl (fun K hK => ?_) AllReadyIn.nil
        gi_wp2_with fail
        refine ⟨trivial, fun _ => by omega, CallsIn.mono (CallsIn.inRound y (callsIn_wide.2 (HD.out _ (Below.refl _ _).drew))) ?_⟩
        rintro e w3 ⟨rfl, hb3⟩
        refine hK _ _ ?_
        clear hK K
        have hbw : Below W.heap.size W w3 := bUn hb3
        have hc3 : w3.cell? ⟨W0.heap.size, 0, none⟩ = some v := (hbw.cell (p := ⟨W0.heap.size, 0, none⟩) HV.out.lt).trans hc
        have hf3 : w3.frozen? ⟨W0.heap.size, 0, none⟩ = false := (hbw.frozen (p := ⟨W0.heap.size, 0, none⟩) HV.out.lt).trans hf
        have hlt3 : W0.heap.size < w3.heap.size := Nat.lt_of_lt_of_le HV.out.lt hbw.size
        refine wpAnyIn_ready (rs := [3]) (by kernel_rfl) (by simp) ?_
        refine AllReadyIn.cons rfl (fun K hK => ?_) AllReadyIn.nil
        go_simp
        refine hK _ _ ?_
        clear hK K
        have hrow3 := HROW.out.below hbw (fun _ h => h.elim)
        have hv3 : Boxed w3 W0.heap.size 72 v := (hbw.block _ HV.out.lt).trans HV.out
        have hs3 := hbw.size
        refine wpAnyIn_ready (rs := [4]) (by kernel_rfl) (by simp) ?_
        refine AllReadyIn.cons rfl (fun K hK => ?_) AllReadyIn.nil
        refine stepIn_app1 (E := encU64) tyU64s rfl _ _ rfl rfl (Own.alloc hrow3 (fun _ h => h.elim) (.cells #[.int .u64 d] 77)) d [.int .u64 d] rfl ⟨rfl, HDR.out⟩ (heap_alloc_new _ _) (fun _ h => h.elim) (by simp; omega) (by rw [List.length_map]; unfold maxLen; omega) (by rw [List.length_map]; omega) ?_
        intro A' c5 w5 hown5 hg5 hat5
        refine hK _ _ ?_
        clear hK K
        obtain ⟨hv5, hbo5, hk5⟩ := BoxOwn.appended3 hv3 (by decide) hrow3 hown5 hg5
        have hc5 := hv5.cell
        have hf5 := hv5.frozen
        have hl3 := hrow3.lt
        have hkp : KpC (W0.heap.size + 1) (W0.heap.size + 1 + 1) W (w5.setCell ⟨W0.heap.size, 0, none⟩ (.slice A' ((pre.map fun k => digS (leafAt l m k)).length + 1) c5)) := KpC.blk
          ((Below.heap_setCell _ _ _ _ (by simp)).trans ((hg5.block _ (by simp; omega) (fun e => by have := (hl3 _ e.symm).1; omega)).trans ((Below.heap_alloc _ _ _ (by omega)).trans (hbw.block _ (by omega)))))
          ((Below.heap_setCell _ _ _ _ (by simp; omega)).trans ((hg5.block _ (by simp; omega) (fun e => by have := (hl3 _ e.symm).1; omega)).trans ((Below.heap_alloc _ _ _ (by omega)).trans (hbw.block _ (by omega)))))
        have hB6 : Below W0.heap.size W1 (w5.setCell ⟨W0.heap.size, 0, none⟩ (.slice A' ((pre.map fun k => digS (leafAt l m k)).length + 1) c5)) := (((hB.trans (hbw.mono (by omega))).alloc (by omega) (.cells #[.int .u64 d] 77)).grown hg5 (by simp; omega) (fun g e => by have := (hl3 g e).1; omega)).setCell (p := ⟨W0.heap.size, 0, none⟩) (Nat.le_refl W0.heap.size) _
        have HF := Lib.hid (And.intro (((below_others hbw).trans hk5).from W1.heap.size) (And.intro hkp (And.intro hbo5 hB6)))
        clear hk5 hkp hbo5 hB6 hown5 hg5 hat5
        refine wpAnyIn_ready (rs := [5]) (by kernel_rfl) (by simp) ?_
        refine AllReadyIn.cons rfl (fun K hK => ?_) AllReadyIn.nil
        go_simp
        refine hK _ _ ?_
        clear hK K
        refine wpAnyIn_done (by kernel_rfl) ?_ _
        gi_wp2
        have HF' := HF.out
        simp only [List.length_map] at HF'
        refine ⟨HF'.1, HF'.2.1, ?_, HF'.2.2.2⟩
        rw [List.map_append, List.map_singleton, HDE.out]
        exact HF'.2.2.1
      · go_simp
        refine hK _ _ ?_
        clear hK K
        refine wpAnyIn_ready (rs := [0, 2]) (by kernel_rfl) (by simp) ?_
        refine AllReadyIn.cons rfl (fun K hK => ?_) (AllReadyIn.cons rfl (fun K hK => ?_) AllReadyIn.nil)
        · go_simp
          refine hK _ _ ?_
          clear hK K
          refine wpAnyIn_ready (rs := [2]) (by kernel_rfl) (by simp) ?_
          refine AllReadyIn.cons rfl (fun K hK => ?_) AllReadyIn.nil
          gi_wp2_with fail
          refine ⟨trivial, fun _ => by omega, CallsIn.mono (CallsIn.inRound y (callsIn_wide.2 (HD.out _ (Below.refl _ _).drew))) ?_⟩
          rintro e w3 ⟨rfl, hb3⟩
          refine hK _ _ ?_
          clear hK K
          have hbw : Below W.heap.size W w3 := bUn hb3
          have hc3 : w3.cell? ⟨W0.heap.size, 0, none⟩ = some v := (hbw.cell (p := ⟨W0.heap.size, 0, none⟩) HV.out.lt).trans hc
          have hf3 : w3.frozen? ⟨W0.heap.size, 0, none⟩ = false := (hbw.frozen (p := ⟨W0.heap.size, 0, none⟩) HV.out.lt).trans hf
          have hlt3 : W0.heap.size < w3.heap.size := Nat.lt_of_lt_of_le HV.out.lt hbw.size
          refine wpAnyIn_ready (rs := [3]) (by kernel_rfl) (by simp) ?_
          refine AllReadyIn.cons rfl (fun K hK => ?_) AllReadyIn.nil
          go_simp
          refine hK _ _ ?_
          clear hK K
          have hrow3 := HROW.out.below hbw (fun _ h => h.elim)
          have hv3 : Boxed w3 W0.heap.size 72 v := (hbw.block _ HV.out.lt).trans HV.out
          have hs3 := hbw.size
          refine wpAnyIn_ready (rs := [4]) (by kernel_rfl) (by simp) ?_
          refine AllReadyIn.cons rfl (fun K hK => ?_) AllReadyIn.nil
          refine stepIn_app1 (E := encU64) tyU64s rfl _ _ rfl rfl (Own.alloc hrow3 (fun _ h => h.elim) (.cells #[.int .u64 d] 77)) d [.int .u64 d] rfl ⟨rfl, HDR.out⟩ (heap_alloc_new _ _) (fun _ h => h.elim) (by simp; omega) (by rw [List.length_map]; unfold maxLen; omega) (by rw [List.length_map]; omega) ?_
          intro A' c5 w5 hown5 hg5 hat5
          refine hK _ _ ?_
          clear hK K
          obtain ⟨hv5, hbo5, hk5⟩ := BoxOwn.appended3 hv3 (by decide) hrow3 hown5 hg5
          have hc5 := hv5.cell
          have hf5 := hv5.frozen
          have hl3 := hrow3.lt
          have hkp : KpC (W0.heap.size + 1) (W0.heap.size + 1 + 1) W (w5.setCell ⟨W0.heap.size, 0, none⟩ (.slice A' ((pre.map fun k => digS (leafAt l m k)).length + 1) c5)) := KpC.blk
            ((Below.heap_setCell _ _ _ _ (by simp)).trans ((hg5.block _ (by simp; omega) (fun e => by have := (hl3 _ e.symm).1; omega)).trans ((Below.heap_alloc _ _ _ (by omega)).trans (hbw.block _ (by omega)))))
            ((Below.heap_setCell _ _ _ _ (by simp; omega)).trans ((hg5.block _ (by simp; omega) (fun e => by have := (hl3 _ e.symm).1; omega)).trans ((Below.heap_alloc _ _ _ (by omega)).trans (hbw.block _ (by omega)))))
          have hB6 : Below W0.heap.size W1 (w5.setCell ⟨W0.heap.size, 0, none⟩ (.slice A' ((pre.map fun k => digS (leafAt l m k)).length + 1) c5)) := (((hB.trans (hbw.mono (by omega))).alloc (by omega) (.cells #[.int .u64 d] 77)).grown hg5 (by simp; omega) (fun g e => by have := (hl3 g e).1; omega)).setCell (p := ⟨W0.heap.size, 0, none⟩) (Nat.le_refl W0.heap.size) _
          have HF := Lib.hid (And.intro (((below_others hbw).trans hk5).from W1.heap.size) (And.intro hkp (And.intro hbo5 hB6)))
          clear hk5 hkp hbo5 hB6 hown5 hg5 hat5
          refine wpAnyIn_ready (rs := [5]) (by kernel_rfl) (by simp) ?_
          refine AllReadyIn.cons rfl (fun K hK => ?_) AllReadyIn.nil
          go_simp
          refine hK _ _ ?_
          clear hK K
          refine wpAnyIn_done (by kernel_rfl) ?_ _
          gi_wp2
          have HF' := HF.out
          simp only [List.length_map] at HF'
          refine ⟨HF'.1, HF'.2.1, ?_, HF'.2.2.2⟩
          rw [List.map_append, List.map_singleton, HDE.out]
          exact HF'.2.2.1
        · gi_wp2_with fail
          refine ⟨trivial, fun _ => by omega, CallsIn.mono (CallsIn.inRound y (callsIn_wide.2 (HD.out _ (Below.refl _ _).drew))) ?_⟩
          rintro e w3 ⟨rfl, hb3⟩
          refine hK _ _ ?_
          clear hK K
          have hbw : Below W.heap.size W w3 := bUn hb3
          have hc3 : w3.cell? ⟨W0.heap.size, 0, none⟩ = some v := (hbw.cell (p := ⟨W0.heap.size, 0, none⟩) HV.out.lt).trans hc
          have hf3 : w3.frozen? ⟨W0.heap.size, 0, none⟩ = false := (hbw.frozen (p := ⟨W0.heap.size, 0, none⟩) HV.out.lt).trans hf
          have hlt3 : W0.heap.size < w3.heap.size := Nat.lt_of_lt_of_le HV.out.lt hbw.size
          refine wpAnyIn_ready (rs := [0, 3]) (by kernel_rfl) (by simp) ?_
          refine AllReadyIn.cons rfl (fun K hK => ?_) (AllReadyIn.cons rfl (fun K hK => ?_) AllReadyIn.nil)
          · go_simp
            refine hK _ _ ?_
            clear hK K
            refine wpAnyIn_ready (rs := [3]) (by kernel_rfl) (by simp) ?_
            refine AllReadyIn.cons rfl (fun K hK => ?_) AllReadyIn.nil
            go_simp
            refine hK _ _ ?_
            clear hK K
            have hrow3 := HROW.out.below hbw (fun _ h => h.elim)
            have hv3 : Boxed w3 W0.heap.size 72 v := (hbw.block _ HV.out.lt).trans HV.out
            have hs3 := hbw.size
            refine wpAnyIn_ready (rs := [4]) (by kernel_rfl) (by simp) ?_
            refine AllReadyIn.cons rfl (fun K hK => ?_) AllReadyIn.nil
            refine stepIn_app1 (E := encU64) tyU64s rfl _ _ rfl rfl (Own.alloc hrow3 (fun _ h => h.elim) (.cells #[.int .u64 d] 77)) d [.int .u64 d] rfl ⟨rfl, HDR.out⟩ (heap_alloc_new _ _) (fun _ h => h.elim) (by simp; omega) (by rw [List.length_map]; unfold maxLen; omega) (by rw [List.length_map]; omega) ?_
            intro A' c5 w5 hown5 hg5 hat5
            refine hK _ _ ?_
            clear hK K
            obtain ⟨hv5, hbo5, hk5⟩ := BoxOwn.appended3 hv3 (by decide) hrow3 hown5 hg5
            have hc5 := hv5.cell
            have hf5 := hv5.frozen
            have hl3 := hrow3.lt
            have hkp : KpC (W0.heap.size + 1) (W0.heap.size + 1 + 1) W (w5.setCell ⟨W0.heap.size, 0, none⟩ (.slice A' ((pre.map fun k => digS (leafAt l m k)).length + 1) c5)) := KpC.blk
              ((Below.heap_setCell _ _ _ _ (by simp)).trans ((hg5.block _ (by simp; omega) (fun e => by have := (hl3 _ e.symm).1; omega)).trans ((Below.heap_alloc _ _ _ (by omega)).trans (hbw.block _ (by omega)))))
              ((Below.heap_setCell _ _ _ _ (by simp; omega)).trans ((hg5.block _ (by simp; omega) (fun e => by have := (hl3 _ e.symm).1; omega)).trans ((Below.heap_alloc _ _ _ (by omega)).trans (hbw.block _ (by omega)))))
            have hB6 : Below W0.heap.size W1 (w5.setCell ⟨W0.heap.size, 0, none⟩ (.slice A' ((pre.map fun k => digS (leafAt l m k)).length + 1) c5)) := (((hB.trans (hbw.mono (by omega))).alloc (by omega) (.cells #[.int .u64 d] 77)).grown hg5 (by simp; omega) (fun g e => by have := (hl3 g e).1; omega)).setCell (p := ⟨W0.heap.size, 0, none⟩) (Nat.le_refl W0.heap.size) _
            have HF := Lib.hid (And.intro (((below_others hbw).trans hk5).from W1.heap.size) (And.intro hkp (And.intro hbo5 hB6)))
            clear hk5 hkp hbo5 hB6 hown5 hg5 hat5
            refine wpAnyIn_ready (rs := [5]) (by kernel_rfl) (by simp) ?_
            refine AllReadyIn.cons rfl (fun K hK => ?_) AllReadyIn.nil
            go_simp
            refine hK _ _ ?_
            clear hK K
            refine wpAnyIn_done (by kernel_rfl) ?_ _
            gi_wp2
            have HF' := HF.out
            simp only [List.length_map] at HF'
            refine ⟨HF'.1, HF'.2.1, ?_, HF'.2.2.2⟩
            rw [List.map_append, List.map_singleton, HDE.out]
            exact HF'.2.2.1
          · go_simp
            refine hK _ _ ?_
            clear hK K
            refine wpAnyIn_ready (rs := [0]) (by kernel_rfl) (by simp) ?_
            refine AllReadyIn.cons rfl (fun K hK => ?_) AllReadyIn.nil
            go_simp
            refine hK _ _ ?_
            clear hK K
            have hrow3 := HROW.out.below hbw (fun _ h => h.elim)
            have hv3 : Boxed w3 W0.heap.size 72 v := (hbw.block _ HV.out.lt).trans HV.out
            have hs3 := hbw.size
            refine wpAnyIn_ready (rs := [4]) (by kernel_rfl) (by simp) ?_
            refine AllReadyIn.cons rfl (fun K hK => ?_) AllReadyIn.nil
            refine stepIn_app1 (E := encU64) tyU64s rfl _ _ rfl rfl (Own.alloc hrow3 (fun _ h => h.elim) (.cells #[.int .u64 d] 77)) d [.int .u64 d] rfl ⟨rfl, HDR.out⟩ (heap_alloc_new _ _) (fun _ h => h.elim) (by simp; omega) (by rw [List.length_map]; unfold maxLen; omega) (by rw [List.length_map]; omega) ?_
            intro A' c5 w5 hown5 hg5 hat5
            refine hK _ _ ?_
            clear hK K
            obtain ⟨hv5, hbo5, hk5⟩ := BoxOwn.appended3 hv3 (by decide) hrow3 hown5 hg5
            have hc5 := hv5.cell
            have hf5 := hv5.frozen
            have hl3 := hrow3.lt
            have hkp : KpC (W0.heap.size + 1) (W0.heap.size + 1 + 1) W (w5.setCell ⟨W0.heap.size, 0, none⟩ (.slice A' ((pre.map fun k => digS (leafAt l m k)).length + 1) c5)) := KpC.blk
              ((Below.heap_setCell _ _ _ _ (by simp)).trans ((hg5.block _ (by simp; omega) (fun e => by have := (hl3 _ e.symm).1; omega)).trans ((Below.heap_alloc _ _ _ (by omega)).trans (hbw.block _ (by omega)))))
              ((Below.heap_setCell _ _ _ _ (by simp; omega)).trans ((hg5.block _ (by simp; omega) (fun e => by have := (hl3 _ e.symm).1; omega)).trans ((Below.heap_alloc _ _ _ (by omega)).trans (hbw.block _ (by omega)))))
            have hB6 : Below W0.heap.size W1 (w5.setCell ⟨W0.heap.size, 0, none⟩ (.slice A' ((pre.map fun k => digS (leafAt l m k)).length + 1) c5)) := (((hB.trans (hbw.mono (by omega))).alloc (by omega) (.cells #[.int .u64 d] 77)).grown hg5 (by simp; omega) (fun g e => by have := (hl3 g e).1; omega)).setCell (p := ⟨W0.heap.size, 0, none⟩) (Nat.le_refl W0.heap.size) _
            have HF := Lib.hid (And.intro (((below_others hbw).trans hk5).from W1.heap.size) (And.intro hkp (And.intro hbo5 hB6)))
            clear hk5 hkp hbo5 hB6 hown5 hg5 hat5
            refine wpAnyIn_ready (rs := [5]) (by kernel_rfl) (by simp) ?_
            refine AllReadyIn.cons rfl (fun K hK => ?_) AllReadyIn.nil
            go_simp
            refine hK _ _ ?_
            clear hK K
            refine wpAnyIn_done (by kernel_rfl) ?_ _
            gi_wp2
            have HF' := HF.out
            simp only [List.length_map] at HF'
            refine ⟨HF'.1, HF'.2.1, ?_, HF'.2.2.2⟩
            rw [List.map_append, List.map_singleton, HDE.out]
            exact HF'.2.2.1
    case done =>
      rintro D ys W hD hS ⟨⟨v, hv, hrow⟩, hB⟩ hK
      have HS := Lib.hid hS; clear hS
      have hc := hv.cell
      have hB9 : Below W0.heap.size W0 W := hB1.trans hB
      have hsz := hB.size
      have HDG : Hid ((ys.map fun k => digS (leafAt l m k)) = digests l m) := by rw [Hid, HS.out]; rfl
      rw [HDG.out] at hrow
      obtain ⟨B, vc, rfl⟩ := hrow.form
      have hw : OwnW encU64 W W1.heap.size W1.heap.size 77 (.slice B (digests l m).length vc) (digests l m) := Own.more hrow (fun _ h => h.elim) (fun g e h => h.2 e)
      obtain ⟨_, p1, p2, p3⟩ := hw.parts
      have hdl : Hid ((digests l m).length = leavesN l.length m) := by simp [Hid, digests]
      have HAB := Lib.hid (above_any B vc (digests l m).length W1.heap.size (l.length : Int) (m : Int) (digests l m) W rfl (by rw [hdl.out]; exact leavesN_pos hn1 hm1) hsz ⟨p1, p2⟩ p3 (by rw [hdl.out]; exact Nat.le_trans (leavesN_le hm1) (by omega)))
      have HK := Lib.hid hK
      clear hK p3 hrow
      have HV := Lib.hid hv; clear hv
      gi_wp2_with fail
      refine ⟨trivial, fun _ => by omega, CallsIn.mono (callsIn_wide.2 HAB.out) ?_⟩
      rintro e w4 ⟨A4, c4, rfl, t1, t2, t3, t4⟩
      have hrow4 : w4.heap[w.heap.size]? = some (.cells #[.int .i64 0, .int .i64 0, .slice none 0 0] 24 (0, 0)) := (t4.block _ (by have := HS0.out; omega)).trans ((hB9.block _ (by have := HS0.out; omega)).trans hrow0)
      obtain ⟨u0, u1, u2, uf⟩ := blk3 hrow4
      have hB4 : Below w.heap.size w w4 := hB0.trans ((hB9.trans (t4.mono hB9.size)).mono hB0.size)
      have T3 := Lib.hid (t3.more (S' := fun g => Nw w.heap.size w4.heap.size g ∧ g ≠ w.heap.size) (fun g hg => ⟨hg.mono (by have := HS0.out; omega) (Nat.le_refl _), by have := hg.1; have := HS0.out; omega⟩))
      have hK4 : w4.heap[D]? = some (.deferred (some [])) := (t4.block _ (Array.getElem?_eq_some_iff.1 HK.out).1).trans HK.out
      clear t3 HAB
      gi_wp2_with fail
      obtain ⟨hz, A5, c5, he, y1, y2, y3, y4⟩ := treeRetE_end (w := w) (lo := w.heap.size) hrow4 (Nat.le_refl w.heap.size) hB4 ((l.length : Int), (m : Int), levels (digests l m)) A4 c4 0 t1 t2 T3.out
      change bodyPostM _ _ _ _ _ _ _ (set3 w4 w.heap.size (.int .i64 (l.length : Int)) (.int .i64 (m : Int)) (.slice A4 (levels (digests l m)).length c4))
      have hK5 : (set3 w4 w.heap.size (.int .i64 (l.length : Int)) (.int .i64 (m : Int)) (.slice A4 (levels (digests l m)).length c4)).heap[D]? = some (.deferred (some [])) := (blk3_other (by have := HS0.out; omega) _ _ _).trans hK4
      simp only at hz y3 y4 he
      generalize set3 w4 w.heap.size (.int .i64 (l.length : Int)) (.int .i64 (m : Int)) (.slice A4 (levels (digests l m)).length c4) = W5 at hz y3 y4 hK5 ⊢
      refine ⟨by simp, .inl ⟨_, _, rfl, run_takeDeferred hK5, ?_⟩⟩
      obtain ⟨z0, z1, z2, _⟩ := blk3 (lkRes' (o' := .deferred none) hK5 rfl hz)
      refine ⟨.tuple #[.agg #[.int .i64 (l.length : Int), .int .i64 (m : Int), .slice A4 (levels (digests l m)).length c4], .int .i64 0], ?_, ?_⟩
      · simp [results, Try.results60, Try.f60, go_sem, z0, z1, z2]
      · rw [HT.out, HE.out]
        refine ⟨A5, c5, he, y1, y2, y3.keep (fun p _ => cell_putObj_dead hK5 rfl rfl p) (fun g hg => ⟨hg.1, Nat.lt_of_lt_of_le hg.2 (grownBy_putObj' W5 D (.deferred none)).size⟩), y4.grown (grownBy_putObj' W5 D (.deferred none)) y4.size (fun k e => by cases e; have := HS0.out; omega)⟩
    case stop =>
      rintro D c' pre W hD hS h
      exact h.elim
end Go.Proofs.Ytjehedfdikdfpaa
namespace Go.Proofs.Ytjehedfdikdfpaa
open Go.RowKit Go.Shelf
attribute [local go_sem] Oper.semAt_some

set_option maxHeartbeats 4000000 in
theorem eqU64_any (A A' : Option Addr) (c c' n n' : Nat) (S S' : Nat → Prop) (l m : List Int) (r : Bool) (w : World) (hn : l.length = n) (hn' : m.length = n') (hr : decide (l = m) = r) (h1 : SlAt encU64 w S A l) (h2 : SlAt encU64 w S' A' m) (hs : n ≤ 9223372036854775807) (ht : n' ≤ 9223372036854775807) :
    Calls Try.prog 69 #[.slice A n c, .slice A' n' c'] w fun e w' => e = .returned (.bool r) ∧ Drew w w' := by
  subst hn hn'
  have HR := Lib.hid hr; clear hr
  by_cases hl : l.length = m.length
  · have hl' : (((l.length : Nat) : Int) != (m.length : Int)) = false := by simp [hl]
    have HL := Lib.hid hl; clear hl
    go_enter Try.func69, Try.ntmps69
    go_wp2
    go_loopw [13] (fun i wr => ∃ k : Nat, k ≤ l.length ∧ i = .int .i64 k ∧ Drew w wr ∧ Hid (l.take k = m.take k)) (fun i _ => l.length - (intOf i).toNat)
    case atStart => exact ⟨0, by omega, rfl, Drew.refl _, by simp [Hid]⟩
    case round =>
      obtain ⟨wo, rfl⟩ : ∃ wo : World, wo = wr := ⟨_, rfl⟩
      obtain ⟨k, hk, rfl, hd, hp⟩ := hrel
      replace h1 := h1.drew hd
      replace h2 := h2.drew hd
      by_cases hlt : k < l.length
      · have hlt2 : k < m.length := by have := HL.out; omega
        obtain ⟨b, off, rfl, _, g0, _, _⟩ := h1.u64 hlt
        obtain ⟨b', off', rfl, _, g0', _, _⟩ := h2.u64 hlt2
        have hnn : (0 : Int) ≤ k := by omega
        have hki : (k : Int) < l.length := by omega
        have hki2 : (k : Int) < m.length := by omega
        obtain ⟨x, hx⟩ : ∃ x, Hid (x = l[k]'hlt) := ⟨_, Lib.hid rfl⟩
        obtain ⟨y, hy⟩ : ∃ y, Hid (y = m[k]'hlt2) := ⟨_, Lib.hid rfl⟩
        rw [← hx.out] at g0
        rw [← hy.out] at g0'
        by_cases hxy : x = y
        · have hxy' : (x != y) = false := by simp [hxy]
          have HXY := Lib.hid hxy; clear hxy
          go_wp2_with fail
          go_quiet (fail)
          go_wp2
          go_roundw
          case rel => exact ⟨k + 1, hlt, by go_num, hd.step _, take_step hlt hlt2 hp.out (by rw [← hx.out, ← hy.out]; exact HXY.out)⟩
          case measure => simp [intOf]; omega
        · have hxy' : (x != y) = true := by simp [hxy]
          have hne : Hid (decide (l = m) = false) := by
            rw [Hid, decide_eq_false_iff_not]
            rintro rfl
            exact hxy (hx.out.trans hy.out.symm)
          clear hxy
          go_wp2_with fail
          go_quiet (fail)
          go_wp2
          go_ret
          rw [← HR.out, hne.out]
          exact ⟨rfl, hd.step _⟩
      · have hkk : k = l.length := by omega
        subst hkk
        go_wp2
        go_ret
        have e := hp.out
        rw [List.take_length, HL.out, List.take_length] at e
        rw [← HR.out]
        exact ⟨by simp [e], hd⟩
  · have hl' : (((l.length : Nat) : Int) != (m.length : Int)) = true := by simp; omega
    have hne : Hid (decide (l = m) = false) := by
      rw [Hid, decide_eq_false_iff_not]
      rintro rfl
      exact hl rfl
    clear hl
    go_enter Try.func69, Try.ntmps69
    go_wp2
    go_ret
    rw [← HR.out, hne.out]
    exact ⟨rfl, Drew.refl _⟩
set_option maxHeartbeats 4000000 in
theorem eqLevels_any (A A' : Option Addr) (c c' n n' : Nat) (S S' : Nat → Prop) (l m : List (List Int)) (r : Bool) (w : World) (hn : l.length = n) (hn' : m.length = n') (hr : decide (l = m) = r) (h1 : SlAt (encSl encU64) w S A l) (h2 : SlAt (encSl encU64) w S' A' m) (hs : n ≤ 9223372036854775807) (ht : n' ≤ 9223372036854775807) :
    Calls Try.prog 68 #[.slice A n c, .slice A' n' c', .func (.func 69) #[] #[]] w fun e w' => e = .returned (.bool r) ∧ Drew w w' := by
  subst hn hn'
  have HR := Lib.hid hr; clear hr
  by_cases hl : l.length = m.length
  · have hl' : (((l.length : Nat) : Int) != (m.length : Int)) = false := by simp [hl]
    have HL := Lib.hid hl; clear hl
    go_enter Try.func68, Try.ntmps68
    go_wp2
    go_loopw [17] (fun i wr => ∃ k : Nat, k ≤ l.length ∧ i = .int .i64 k ∧ Drew w wr ∧ Hid (l.take k = m.take k)) (fun i _ => l.length - (intOf i).toNat)
    case atStart => exact ⟨0, by omega, rfl, Drew.refl _, by simp [Hid]⟩
    case round =>
      obtain ⟨wo, rfl⟩ : ∃ wo : World, wo = wr := ⟨_, rfl⟩
      obtain ⟨k, hk, rfl, hd, hp⟩ := hrel
      replace h1 := h1.drew hd
      replace h2 := h2.drew hd
      by_cases hlt : k < l.length
      · have hlt2 : k < m.length := by have := HL.out; omega
        obtain ⟨b, off, D, dc, rfl, _, g0, hD, hd1, hd2⟩ := h1.sl hlt
        obtain ⟨b', off', D', dc', rfl, _, g0', hD', hd1', hd2'⟩ := h2.sl hlt2
        have hnn : (0 : Int) ≤ k := by omega
        have hki : (k : Int) < l.length := by omega
        have hki2 : (k : Int) < m.length := by omega
        obtain ⟨q, hq⟩ : ∃ q, Hid (decide (l[k]'hlt = m[k]'hlt2) = q) := ⟨_, Lib.hid rfl⟩
        have HE := Lib.hid (eqU64_any D D' dc dc' _ _ _ _ (l[k]'hlt) (m[k]'hlt2) q wo rfl rfl hq.out hD hD' (by unfold maxLen at hd2; omega) (by unfold maxLen at hd2'; omega))
        clear hD hD' hd1 hd2 hd1' hd2'
        go_wp2_with fail
        refine HE.out.mono ?_
        rintro e w1 ⟨rfl, hd1⟩
        clear HE
        cases q with
        | true =>
          go_wp2
          go_roundw
          case rel => exact ⟨k + 1, hlt, by go_num, hd.trans hd1, take_step hlt hlt2 hp.out (of_decide_eq_true hq.out)⟩
          case measure => simp [intOf]; omega
        | false =>
          have hne : Hid (decide (l = m) = false) := by
            rw [Hid, decide_eq_false_iff_not]
            rintro rfl
            exact of_decide_eq_false hq.out rfl
          go_wp2
          go_ret
          rw [← HR.out, hne.out]
          exact ⟨rfl, hd.trans hd1⟩
      · have hkk : k = l.length := by omega
        subst hkk
        go_wp2
        go_ret
        have e := hp.out
        rw [List.take_length, HL.out, List.take_length] at e
        rw [← HR.out]
        exact ⟨by simp [e], hd⟩
  · have hl' : (((l.length : Nat) : Int) != (m.length : Int)) = true := by simp; omega
    have hne : Hid (decide (l = m) = false) := by
      rw [Hid, decide_eq_false_iff_not]
      rintro rfl
      exact hl rfl
    clear hl
    go_enter Try.func68, Try.ntmps68
    go_wp2
    go_ret
    rw [← HR.out, hne.out]
    exact ⟨rfl, Drew.refl _⟩
end Go.Proofs.Ytjehedfdikdfpaa
namespace Go.Proofs.Ytjehedfdikdfpaa
open Go.RowKit Go.Shelf
attribute [local go_sem] Oper.semAt_some

theorem shC_drop {n m k : Nat} {l : List (List Int)} (h : shC n l = shC m (l.drop k)) (hk : k < l.length) : shC n l = ((l[k].length == m) && (m != 1 || (l.drop (k + 1)).isEmpty) && shC (((if m = 1 then 0 else m) + 1) / 2) (l.drop (k + 1))) := by
  rw [h, List.drop_eq_getElem_cons hk]; rfl
theorem lvT_ne {n g k k' : Nat} {W : World} (h : LvT (Bl n) k' W g) (hn : n ≤ k) (hk : k < k') : g ≠ k := by
  rcases h with h | h
  · have : g < n := h; omega
  · have := h.1; omega
theorem lvT_lt {n g k : Nat} {W : World} (h : LvT (Bl n) k W g) (hn : n ≤ W.heap.size) : g < W.heap.size := by
  rcases h with h | h
  · have : g < n := h; omega
  · exact h.2
set_option maxHeartbeats 4000000 in
theorem check_any (s lf : Int) (A : Option Addr) (c n : Nat) (l : List (List Int)) (r : Int) (w : World) (hn : l.length = n) (hr : checkT (s, lf, l) = r) (h1 : SlAt (encSl encU64) w (Bl w.heap.size) A l) (hs : n ≤ 100000) (hc : n ≤ c ∧ c ≤ maxLen) (hI : I64 s ∧ I64 lf) :
    Calls Try.prog 36 #[.agg #[.int .i64 s, .int .i64 lf, .slice A n c]] w fun e w' => e = .returned (.int .i64 r) ∧ Below w.heap.size w w' := by
  subst hn
  have HR := Lib.hid hr; clear hr
  have H1 : Hid (∀ w', Below w.heap.size w w' → SlAt (encSl encU64) w' (Bl w.heap.size) A l) := fun w' hb => h1.below hb
  clear h1
  obtain ⟨W0, hW0⟩ : ∃ W0, w.alloc (.cells #[.int .i64 s, .int .i64 lf, .slice A l.length c] 24) = W0 := ⟨_, rfl⟩
  have hB0 : Below w.heap.size w W0 := by rw [← hW0]; exact ext_alloc (Below.refl _ _)
  have hrow : W0.heap[w.heap.size]? = some (.cells #[.int .i64 s, .int .i64 lf, .slice A l.length c] 24 (0, 0)) := by rw [← hW0]; exact heap_alloc_new _ _
  obtain ⟨r0, r1, r2, rf⟩ := blk3 hrow
  have HROW := Lib.hid hrow; clear hrow rf
  have HLM := Lib.hid (limits_any s lf (limN s lf) W0 rfl)
  have HL := Lib.hid (limN_cases s lf)
  obtain ⟨⟨hs1, hs2⟩, hf1, hf2⟩ := hI
  go_enter Try.func36, Try.ntmps36
  go_wp2_with fail
  refine HLM.out.mono ?_
  rintro e W0 ⟨rfl, rfl⟩
  by_cases hl0 : limN s lf = 0
  · have h0' : (limN s lf != 0) = false := by simp [hl0]
    obtain ⟨a1, a2, a3, a4⟩ : 1 ≤ s ∧ s ≤ 4096 ∧ 1 ≤ lf ∧ lf ≤ 4096 := by
      rcases HL.out with ⟨g1, _⟩ | ⟨g1, _⟩ | ⟨_, g2⟩
      · rw [g1] at hl0; cases hl0
      · rw [g1] at hl0; cases hl0
      · exact g2
    obtain ⟨sn, rfl⟩ : ∃ sn : Nat, s = sn := ⟨s.toNat, by omega⟩
    obtain ⟨m0, rfl⟩ : ∃ m0 : Nat, lf = m0 := ⟨lf.toNat, by omega⟩
    have HLV := Lib.hid (leaves_any sn m0 W0 ⟨by omega, by omega⟩ ⟨by omega, by omega⟩)
    have HNP := Lib.hid (leavesN_pos (n := sn) (m := m0) (by omega) (by omega))
    have HNL := Lib.hid (leavesN_le (n := sn) (m := m0) (by omega))
    have HL0 := Lib.hid hl0
    obtain ⟨N, hN⟩ : ∃ N, leavesN sn m0 = N := ⟨_, rfl⟩
    have HCT : Hid (checkT ((sn : Int), (m0 : Int), l) = if shC N l = false then 3 else if levels (l.headD []) ≠ l then 22 else 0) := by
      rw [Hid, checkT, if_neg (by simp [hl0]), shC_eq l N (by have := HNP.out; omega), ← hN]
      rfl
    rw [hN] at HLV HNP HNL
    clear hl0
    go_wp2_with fail
    refine HLV.out.mono ?_
    rintro e W0 ⟨rfl, rfl⟩
    clear HLM HL HLV
    have hNle : N ≤ 4096 := by have := HNL.out; omega
    go_wp2_with fail
    go_loopw [4, 24] (fun v i wr => ∃ (k m : Nat), k ≤ l.length ∧ m ≤ 4096 ∧ i = .int .i64 (k : Nat) ∧ v = .int .i64 (m : Nat) ∧ wr = W0 ∧ Hid (shC N l = shC m (l.drop k))) (fun _ i _ => l.length - (intOf i).toNat)
    case atStart => exact ⟨0, N, by omega, hNle, rfl, rfl, rfl, rfl⟩
    case round =>
      obtain ⟨k, m, hk, hm, rfl, rfl, rfl, hsh⟩ := hrel
      by_cases hlt : k < l.length
      · obtain ⟨b, off, D, dc, rfl, hb, g0, hD, hd1, hd2⟩ := (H1.out _ hB0).sl hlt
        have hnn : (0 : Int) ≤ k := by omega
        have hki : (k : Int) < l.length := by omega
        have HST := Lib.hid (shC_drop hsh.out hlt)
        obtain ⟨q, hq⟩ : ∃ q, Hid (q = (l[k]'hlt).length) := ⟨_, Lib.hid rfl⟩
        rw [← hq.out] at g0 HST
        clear hD hd1 hd2
        by_cases hqm : q = m
        · subst hqm
          by_cases hm1 : q = 1
          · have hm1' : ((q : Int) == 1) = true := by simp [hm1]
            by_cases hk2 : k + 1 < l.length
            · have hk2' : (k : Int) + 1 < l.length := by omega
              have hf : Hid (shC N l = false) := by
                have he : (l.drop (k + 1)).isEmpty = false := by rw [List.isEmpty_eq_false_iff, Ne, List.drop_eq_nil_iff]; omega
                rw [Hid, HST.out, he]; simp [hm1]
              clear hm1
              go_wp2_with fail
              go_ret
              rw [← HR.out, HCT.out, hf.out]
              exact ⟨rfl, hB0⟩
            · have hk2' : ¬ (k : Int) + 1 < l.length := by omega
              have hf : Hid (shC N l = shC 0 (l.drop (k + 1))) := by
                have he : (l.drop (k + 1)).isEmpty = true := by rw [List.isEmpty_iff, List.drop_eq_nil_iff]; omega
                rw [Hid, HST.out, he]; simp [hm1]
              clear hm1
              go_wp2_with fail
              go_roundw
              case rel => exact ⟨k + 1, 0, hlt, by omega, by go_num, by go_num, by trivial, hf.out⟩
              case measure => simp [intOf]; omega
          · have hm1' : ((q : Int) == 1) = false := by simp; omega
            have hf : Hid (shC N l = shC ((q + 1) / 2) (l.drop (k + 1))) := by rw [Hid, HST.out]; simp [hm1]
            clear hm1
            go_wp2_with fail
            go_roundw
            case rel => exact ⟨k + 1, (q + 1) / 2, hlt, by omega, by go_num, by go_num, by trivial, hf.out⟩
            case measure => simp [intOf]; omega
        · have hqm' : ((q : Int) != (m : Int)) = true := by simp; omega
          have hf : Hid (shC N l = false) := by rw [Hid, HST.out]; simp [hqm]
          go_wp2_with fail
          go_ret
          rw [← HR.out, HCT.out, hf.out]
          exact ⟨rfl, hB0⟩
      · have hkk : k = l.length := by omega
        subst hkk
        have HSE : Hid (shC N l = (m == 0)) := by rw [Hid, hsh.out, List.drop_length]; rfl
        by_cases hm0 : m = 0
        · have hm0' : ((m : Int) != 0) = false := by simp [hm0]
          have hst : Hid (shC N l = true) := by rw [Hid, HSE.out]; simp [hm0]
          clear hm0
          have hl0 : 0 < l.length := by
            rcases Nat.eq_zero_or_pos l.length with h | h
            · have e := List.eq_nil_of_length_eq_zero h
              have h5 := hst.out
              rw [e, shC] at h5
              have := HNP.out
              have h6 : N = 0 := by simpa using h5
              omega
            · exact h
          have hl0N : Hid ((l[0]'hl0).length = N) := by
            have h5 := hst.out
            rw [shC_drop (m := N) (k := 0) rfl hl0] at h5
            simp only [Bool.and_eq_true] at h5
            simpa [Hid] using h5.1.1
          obtain ⟨b, off, D, dc, rfl, hb, g0, hD, hd1, hd2⟩ := (H1.out _ hB0).sl hl0
          have hhd : Hid (l.headD [] = l[0]'hl0) := by
            rw [Hid]
            cases l with
            | nil => simp at hl0
            | cons x r => rfl
          obtain ⟨x, hx⟩ : ∃ x, Hid (x = l[0]'hl0) := ⟨_, Lib.hid rfl⟩
          rw [← hx.out] at g0 hD hd1 hl0N hhd
          have hxl := hl0N.out
          have hb0 : b < wr.heap.size := Nat.lt_of_lt_of_le hb hB0.size
          have hnx : x.length ≤ 4096 := by omega
          have hnx1 : 1 ≤ x.length := by have := HNP.out; omega
          have HAB := Lib.hid (fun W' (hw : Below wr.heap.size wr W') => above_anyS D dc x.length (Bl w.heap.size) (sn : Int) (m0 : Int) x W' rfl hnx1 (fun g hg => Nat.lt_of_lt_of_le hg (Nat.le_trans hB0.size hw.size)) ⟨hd1, hd2⟩ (hD.below (hw.mono hB0.size)) (by omega))
          have hki : (0 : Int) < l.length := by omega
          clear hD hd1 hd2 hxl hnx hnx1
          go_upto_region 16 with (fail)
          have hb1 : w.heap.size < wr.heap.size := (Array.getElem?_eq_some_iff.1 HROW.out).1
          have HC : Hid (∀ w', Below wr.heap.size wr w' → w'.cell? ⟨w.heap.size, 0, none⟩ = some (.int .i64 sn) ∧ w'.cell? ⟨w.heap.size, 1, none⟩ = some (.int .i64 m0) ∧ w'.cell? ⟨w.heap.size, 2, none⟩ = some (.slice (some ⟨b, off, none⟩) l.length c) ∧ w'.cell? ⟨b, off, none⟩ = some (.slice D x.length dc)) := fun w' hw => ⟨(hw.cell (p := ⟨w.heap.size, 0, none⟩) hb1).trans r0, (hw.cell (p := ⟨w.heap.size, 1, none⟩) hb1).trans r1, (hw.cell (p := ⟨w.heap.size, 2, none⟩) hb1).trans r2, (hw.cell (p := ⟨b, off, none⟩) hb0).trans (by simpa using g0)⟩
          have hc0 := HC.out wr.drew (Below.refl _ _).drew
          go_region_held3 (fun w' => w'.cell? ⟨w.heap.size, 0, none⟩ = some (.int .i64 sn) ∧ w'.cell? ⟨w.heap.size, 1, none⟩ = some (.int .i64 m0) ∧ w'.cell? ⟨w.heap.size, 2, none⟩ = some (.slice (some ⟨b, off, none⟩) l.length c) ∧ w'.cell? ⟨b, off, none⟩ = some (.slice D x.length dc)) (first | exact hc0 | exact HC.out _ (ext_alloc (Below.refl _ _)).drew | exact HC.out _ hx4 | exact HC.out _ (ext_alloc hx4) | exact HC.out _ (((hx4.setCell (p := ⟨wr.heap.size, 0, none⟩) (Nat.le_refl wr.heap.size) _).setCell (p := ⟨wr.heap.size, 1, none⟩) (Nat.le_refl wr.heap.size) _).setCell (p := ⟨wr.heap.size, 2, none⟩) (Nat.le_refl wr.heap.size) _) | go_keep) (first | (go_at_call 67; refine (HAB.out wr.drew (Below.refl _ _).drew).mono ?_; rintro e w4 ⟨A4, c4, rfl, t1, t2, t3, t4⟩; have hx4 : Below wr.heap.size wr w4 := bUn t4) | (go_at_call 67; refine (HAB.out _ (ext_alloc (Below.refl _ _)).drew).mono ?_; rintro e w4 ⟨A4, c4, rfl, t1, t2, t3, t4⟩; have hx4 : Below wr.heap.size wr w4 := ext_trans (ext_alloc (Below.refl _ _)).drew t4; have zr : w4.heap[wr.heap.size]? = some (.cells #[.int .i64 0, .int .i64 0, .slice none 0 0] 24 (0, 0)) := (t4.block _ (by simp [World.drew])).trans (heap_alloc_new wr _); obtain ⟨y0, y1, y2, yf⟩ := blk3 zr))
          all_goals first
            | (have hz := heap_alloc_new w4 (.cells #[.int .i64 sn, .int .i64 m0, .slice A4 (levels x).length c4] 24)
               have hB5 := hx4.trans (Below.alloc (Below.refl wr.heap.size w4) hx4.size (.cells #[.int .i64 sn, .int .i64 m0, .slice A4 (levels x).length c4] 24))
               have hS5 := t3.blk (fun g hg => Below.heap_alloc w4 (.cells #[.int .i64 sn, .int .i64 m0, .slice A4 (levels x).length c4] 24) g (lvT_lt hg (Nat.le_trans hB0.size hx4.size)))
               clear t3 t4 hx4
               change Exit.then _ _ _ _ (w4.alloc (.cells #[.int .i64 sn, .int .i64 m0, .slice A4 (levels x).length c4] 24))
               generalize (w4.alloc (.cells #[.int .i64 sn, .int .i64 m0, .slice A4 (levels x).length c4] 24)) = W5 at hz hB5 hS5 ⊢
               generalize w4.heap.size = g5 at hz hS5 ⊢)
            | (have hz := blk3_all zr (.int .i64 sn) (.int .i64 m0) (.slice A4 (levels x).length c4)
               have hB5 := ((hx4.setCell (p := ⟨wr.heap.size, 0, none⟩) (Nat.le_refl wr.heap.size) (.int .i64 sn)).setCell (p := ⟨wr.heap.size, 1, none⟩) (Nat.le_refl wr.heap.size) (.int .i64 m0)).setCell (p := ⟨wr.heap.size, 2, none⟩) (Nat.le_refl wr.heap.size) (.slice A4 (levels x).length c4)
               have hS5 := t3.blk (fun g hg => blk3_other (b := wr.heap.size) (u := .int .i64 sn) (v := .int .i64 m0) (t := .slice A4 (levels x).length c4) (lvT_ne hg hB0.size (by simp [World.drew])))
               clear zr y0 y1 y2 yf t3 t4 hx4
               change Exit.then _ _ _ _ (((w4.setCell ⟨wr.heap.size, 0, none⟩ (.int .i64 sn)).setCell ⟨wr.heap.size, 1, none⟩ (.int .i64 m0)).setCell ⟨wr.heap.size, 2, none⟩ (.slice A4 (levels x).length c4))
               obtain ⟨W5, hW5⟩ : ∃ W5, (((w4.setCell ⟨wr.heap.size, 0, none⟩ (.int .i64 sn)).setCell ⟨wr.heap.size, 1, none⟩ (.int .i64 m0)).setCell ⟨wr.heap.size, 2, none⟩ (.slice A4 (levels x).length c4)) = W5 := ⟨_, rfl⟩
               rw [hW5] at hz hB5 hS5 ⊢
               clear hW5)
          all_goals
            obtain ⟨z0, z1, z2, _⟩ := blk3 hz
            have q2 := (hB5.cell (p := ⟨w.heap.size, 2, none⟩) hb1).trans r2
            have HEQ := Lib.hid (fun W6 (h6 : Drew W5 W6) => eqLevels_any A4 (some ⟨b, off, none⟩) c4 c (levels x).length l.length _ (Bl w.heap.size) (levels x) l _ W6 rfl rfl rfl (hS5.drew h6) ((H1.out _ (hB0.trans (hB5.mono hB0.size))).drew h6) (by have := levels_len x; have := hl0N.out; omega) (by omega))
            clear hS5 hz r0 r1 r2 g0 hc0 HAB HC
            go_wp2_with fail
            refine (HEQ.out W5 (Drew.refl _)).mono ?_
            rintro e W6 ⟨rfl, h6⟩
            have hB6 := hB0.trans ((hB5.mono hB0.size).trans (h6.below _))
            clear HEQ
            obtain ⟨rb, hrb⟩ : ∃ rb, rb = decide (levels x = l) := ⟨_, rfl⟩
            rw [← hrb]
            have hrr : Hid (r = if rb = true then 0 else 22) := by
              have h1 := HR.out
              rw [HCT.out, hst.out, hhd.out] at h1
              rw [Hid, ← h1, hrb]
              by_cases hh : levels x = l
              · simp [hh]
              · simp [hh]
            clear hrb HR HCT
            cases rb
            · go_wp2_with fail
              go_ret
              rw [hrr.out]
              exact ⟨rfl, hB6⟩
            · go_wp2_with fail
              go_ret
              rw [hrr.out]
              exact ⟨rfl, hB6⟩
        · have hm0' : ((m : Int) != 0) = true := by simp; omega
          have hf : Hid (shC N l = false) := by rw [Hid, HSE.out]; simp [hm0]
          clear hm0
          go_wp2_with fail
          go_ret
          rw [← HR.out, HCT.out, hf.out]
          exact ⟨rfl, hB0⟩
  · have h0' : (limN s lf != 0) = true := by simp [hl0]
    have HCT : Hid (checkT (s, lf, l) = limN s lf) := by rw [Hid, checkT, if_pos hl0]
    clear hl0
    go_wp2_with fail
    go_ret
    rw [← HR.out, HCT.out]
    exact ⟨rfl, hB0⟩
end Go.Proofs.Ytjehedfdikdfpaa
namespace Go.Proofs.Ytjehedfdikdfpaa
open Go.RowKit

/-- what within returns: the part of an extent in 0 to 4096 -/
def WithinRet (e0 : Ext) (w : World) (e : Ending) (w' : World) : Prop :=
  ∃ f t q, e = .returned (.tuple #[.int .i64 f, .int .i64 t, .bool q]) ∧ (q = true ↔ f < t) ∧ 0 ≤ f ∧ t ≤ 4096 ∧ (q = true → ∀ x : Int, (f ≤ x ∧ x < t) ↔ (0 ≤ x ∧ x < 4096 ∧ e0.1 ≤ x ∧ x < e0.1 + e0.2)) ∧ (q = false → ∀ x : Int, ¬ (0 ≤ x ∧ x < 4096 ∧ e0.1 ≤ x ∧ x < e0.1 + e0.2)) ∧ Below w.heap.size w w'
theorem WithinRet.mk {s n f t : Int} {q : Bool} {w w' : World} (hq : q = decide (f < t)) (hf : 0 ≤ f) (ht : t ≤ 4096) (h : ∀ x : Int, (f ≤ x ∧ x < t) ↔ (0 ≤ x ∧ x < 4096 ∧ s ≤ x ∧ x < s + n)) (hb : Below w.heap.size w w') :
    WithinRet (s, n) w (.returned (.tuple #[.int .i64 f, .int .i64 t, .bool q])) w' := by
  subst hq
  refine ⟨f, t, _, rfl, by simp, hf, ht, fun _ => h, fun hq x hx => ?_, hb⟩
  have := (h x).2 hx
  have h2 : ¬ f < t := by simpa using hq
  omega
theorem within_any (s n : Int) (w : World) (hs : I64 s) (hn : I64 n) : Calls Try.prog 96 #[.agg #[.int .i64 s, .int .i64 n]] w (WithinRet (s, n) w) := by
  obtain ⟨hs1, hs2⟩ := hs
  obtain ⟨hn1, hn2⟩ := hn
  have hb1 : Hid (∀ o, Below w.heap.size w (w.alloc o)) := fun o => (Below.refl _ _).alloc (Nat.le_refl _) o
  by_cases c1 : n ≤ 0
  · go_enter Try.func96, Try.ntmps96
    go_wp2
    go_ret3
    exact WithinRet.mk (by simp) (by omega) (by omega) (fun x => by omega) (hb1.out _)
  · by_cases c2 : s < 0
    · by_cases c3 : s + n ≤ 4096
      · go_enter Try.func96, Try.ntmps96
        go_wp2
        go_ret3
        exact WithinRet.mk rfl (by omega) (by omega) (fun x => by omega) (hb1.out _)
      · go_enter Try.func96, Try.ntmps96
        go_wp2
        go_ret3
        exact WithinRet.mk rfl (by omega) (by omega) (fun x => by omega) (hb1.out _)
    · by_cases c3 : n < 4096 - s
      · go_enter Try.func96, Try.ntmps96
        go_wp2
        all_goals go_ret3
        all_goals exact WithinRet.mk rfl (by omega) (by omega) (fun x => by omega) (hb1.out _)
      · go_enter Try.func96, Try.ntmps96
        go_wp2
        all_goals go_ret3
        all_goals exact WithinRet.mk rfl (by omega) (by omega) (fun x => by omega) (hb1.out _)
end Go.Proofs.Ytjehedfdikdfpaa
namespace Go.Proofs
open Go.Shelf
def Try.sortEnd_ren : Go.Shelf.Ren := ⟨fun | 6 => 97 | 15 => 102 | 14 => 101 | 28 => 112 | 29 => 113 | 20 => 104 | 21 => 105 | 22 => 106 | 23 => 107 | 24 => 108 | 25 => 109 | 26 => 110 | 27 => 111 | 46 => 114 | 47 => 115 | 48 => 116 | 49 => 117 | 50 => 118 | 57 => 119 | n => n, fun | 22 => 148 | 24 => 152 | 25 => 160 | 3 => 3 | 39 => 153 | 0 => 0 | 53 => 172 | 55 => 77 | 4 => 4 | 46 => 165 | 45 => 164 | 50 => 169 | 5 => 5 | 9 => 9 | 66 => 174 | 70 => 178 | 76 => 180 | 77 => 63 | n => n, fun | n => n⟩
theorem Try.sortEnd : Go.Proofs.SlLaysF0.n6 Try.prog Try.sortEnd_ren := {
  mixed := by kernel_rfl
  f6 := ⟨Try.f97.name, by decide, Try.func97.trans (congrArg some (by kernel_rfl))⟩
  f14 := ⟨Try.f101.name, by decide, Try.func101.trans (congrArg some (by kernel_rfl))⟩
  f15 := Try.func102.trans (congrArg some (by kernel_rfl))
  f20 := ⟨Try.f104.name, by decide, Try.func104.trans (congrArg some (by kernel_rfl))⟩
  f21 := ⟨Try.f105.name, by decide, Try.func105.trans (congrArg some (by kernel_rfl))⟩
  f22 := ⟨Try.f106.name, by decide, Try.func106.trans (congrArg some (by kernel_rfl))⟩
  f23 := ⟨Try.f107.name, by decide, Try.func107.trans (congrArg some (by kernel_rfl))⟩
  f24 := ⟨Try.f108.name, by decide, Try.func108.trans (congrArg some (by kernel_rfl))⟩
  f25 := ⟨Try.f109.name, by decide, Try.func109.trans (congrArg some (by kernel_rfl))⟩
  f26 := ⟨Try.f110.name, by decide, Try.func110.trans (congrArg some (by kernel_rfl))⟩
  f27 := ⟨Try.f111.name, by decide, Try.func111.trans (congrArg some (by kernel_rfl))⟩
  f28 := Try.func112.trans (congrArg some (by kernel_rfl))
  f29 := Try.func113.trans (congrArg some (by kernel_rfl))
  f46 := ⟨Try.f114.name, by decide, Try.func114.trans (congrArg some (by kernel_rfl))⟩
  f47 := Try.func115.trans (congrArg some (by kernel_rfl))
  f48 := Try.func116.trans (congrArg some (by kernel_rfl))
  f49 := ⟨Try.f117.name, by decide, Try.func117.trans (congrArg some (by kernel_rfl))⟩
  f50 := ⟨Try.f118.name, by decide, Try.func118.trans (congrArg some (by kernel_rfl))⟩
  f57 := ⟨Try.f119.name, by decide, Try.func119.trans (congrArg some (by kernel_rfl))⟩
  t0 := Try.underlying0
  a0 := Try.isAgg0
  z0 := Try.sizeOf0
  v0 := Try.zeroValue0
  t3 := Try.underlying3
  a3 := Try.isAgg3
  z3 := Try.sizeOf3
  v3 := Try.zeroValue3
  t4 := Try.underlying4
  a4 := Try.isAgg4
  z4 := Try.sizeOf4
  v4 := Try.zeroValue4
  t5 := Try.underlying5
  a5 := Try.isAgg5
  z5 := Try.sizeOf5
  v5 := Try.zeroValue5
  t9 := Try.underlying9
  a9 := Try.isAgg9
  z9 := Try.sizeOf9
  v9 := Try.zeroValue9
  t22 := Try.underlying148
  a22 := Try.isAgg148
  z22 := Try.sizeOf148
  v22 := Try.zeroValue148
  t25 := Try.underlying160
  a25 := Try.isAgg160
  z25 := Try.sizeOf160
  v25 := Try.zeroValue160
  t39 := Try.underlying153
  a39 := Try.isAgg153
  z39 := Try.sizeOf153
  v39 := Try.zeroValue153
  t45 := Try.underlying164
  a45 := Try.isAgg164
  z45 := Try.sizeOf164
  v45 := Try.zeroValue164
  t46 := Try.underlying165
  a46 := Try.isAgg165
  z46 := Try.sizeOf165
  v46 := Try.zeroValue165
  t50 := Try.underlying169
  a50 := Try.isAgg169
  z50 := Try.sizeOf169
  v50 := Try.zeroValue169
  t53 := Try.underlying172
  a53 := Try.isAgg172
  z53 := Try.sizeOf172
  v53 := Try.zeroValue172
  t55 := Try.underlying77
  a55 := Try.isAgg77
  z55 := Try.sizeOf77
  v55 := Try.zeroValue77
  t66 := Try.underlying174
  a66 := Try.isAgg174
  z66 := Try.sizeOf174
  v66 := Try.zeroValue174
  t70 := Try.underlying178
  a70 := Try.isAgg178
  z70 := Try.sizeOf178
  v70 := Try.zeroValue178
  t76 := Try.underlying180
  a76 := Try.isAgg180
  z76 := Try.sizeOf180
  v76 := Try.zeroValue180
  t77 := Try.underlying63
  a77 := Try.isAgg63
  z77 := Try.sizeOf63
  v77 := Try.zeroValue63 }
end Go.Proofs

/-
  The code's Build: the walk.
-/
import Derived.Test.YthneomehfmjbkaaHm
set_option linter.unusedVariables false
set_option linter.unusedSimpArgs false
set_option linter.unusedSectionVars false
set_option linter.unnecessarySimpa false
namespace Go.Proofs.Ythneomehfmjbkaa
open Go.RowKit Go.Shelf
attribute [local go_sem] Oper.semAt_some

section
variable {F : Fence} {n : Nat} {P : Program} {α : Type} {E : Enc α} {t e : TypeId} {bytes : Nat} {o : Oper} {ops : Array Oper} {a : Act} {w : World} {Q : Exit → Act → World → Prop}
/-- append of one element at a step of a region that draws its order, inside a fence -/
theorem stepIn_app1 {K : Act → World → Prop} {X : Prop} (hT : SliceTy P t e E.size bytes) (hgd : o.guard = none) (s x : Operand) (ho : o.op = .call { callee := .builtin .append, args := #[s, x], argTypes := #[t, t] })
    {base : Nat} {S : Nat → Prop} {v : Value} {l : List α} (hs : a.eval s = v) (hown : Own E w base e S v l) {b c : Nat} (y : α) (cs : List Value) (hx : a.eval x = .slice (some ⟨b, 0, none⟩) 1 c)
    (hcs : E.rd w S cs y) (hnews : w.heap[b]? = some (.cells cs.toArray e (0, 0))) (hS : ∀ b, S b → b < w.heap.size) (hbase : base ≤ w.heap.size)
    (h63 : l.length + 1 ≤ maxLen) (hbytes : (l.length + 1) * bytes ≤ 140737488355328)
    (h : ∀ A c' w', Own E w' base e S (.slice A (l.length + 1) c') (l ++ [y]) → w.grownBy w' v.ownBlock → ((Value.slice A (l.length + 1) c').ownBlock = v.ownBlock ∨ (Value.slice A (l.length + 1) c').ownBlock = some w.heap.size) → K (a.put o.dst (.slice A (l.length + 1) c')) w') :
    if Region.wanted o (yielded ops a.tmps) = true then Oper.wpIn F n P o a w K Q else X := by
  have hw : Region.wanted o (yielded ops a.tmps) = true := by simp [Region.wanted, hgd]
  rw [if_pos hw]
  obtain ⟨A, c', w', hr, h2, h3, h4⟩ := run_app (P := P) (c := c) (m := 1) (news := [y]) (css := [cs]) (ad := some ⟨b, 0, none⟩) hT o.type hown rfl ⟨hcs, trivial⟩ (fun _ => ⟨_, rfl, fun j u hu => by
    have hadd : (⟨b, 0, none⟩ : Addr).add j = ⟨b, j, none⟩ := by unfold Addr.add; split <;> simp_all
    rw [hadd, cell_of_row w b j _ e (0, 0) hnews]
    simpa using hu⟩) hS hbase h63 hbytes
  unfold Oper.wpIn
  refine ⟨?_, ?_⟩
  · simp [Oper.about, ho, resolve, Target.leads, Sem.run_pure]
  · rw [Oper.semAt_plain F _ _ (by rw [ho]; intro c hc'; cases hc')]
    simp only [execOp, ho, resolve, invoke, builtin, Sem.run_bind, Sem.run_pure, Result.andThen_ok, List.map_toArray, List.map_cons, List.map_nil, hs, hx, hr]
    exact h A c' w' h2 h3 h4
end
theorem BoxOwn.appended3 {α : Type} {E : Enc α} {W w1 : World} {n₀ b : Nat} {t e : TypeId} {l l' : List α} {v v' : Value} {tmp : Obj} (hv : Boxed W b t v) (hte : t ≠ e) (hrow : Own E W n₀ e (fun _ => False) v l)
    (hown : Own E w1 n₀ e (fun _ => False) v' l') (hgrow : (W.alloc tmp).grownBy w1 v.ownBlock) :
    Boxed w1 b t v ∧ BoxOwn E n₀ b t e l' (w1.setCell ⟨b, 0, none⟩ v') ∧ KeepsOthers W (w1.setCell ⟨b, 0, none⟩ v') := by
  have hne : some b ≠ v.ownBlock := fun e' => by
    obtain ⟨_, cs, fr, h1⟩ := hrow.cellsOf b e'.symm
    rw [show W.heap[b]? = _ from hv] at h1; cases h1; exact hte rfl
  have hv1 : Boxed w1 b t v := (hv.alloc tmp).kept hgrow hne
  have hne' : v'.ownBlock ≠ some b := fun e' => by
    obtain ⟨_, cs, fr, h1⟩ := hown.cellsOf b e'
    rw [show w1.heap[b]? = _ from hv1] at h1; cases h1; exact hte rfl
  have hw : Own E (W.alloc tmp) n₀ e (fun _ => False) v l := hrow.alloc (fun _ h => h.elim) tmp
  refine ⟨hv1, ⟨v', hv1.set v', hown.blk (fun g hg => ?_)⟩, ?_⟩
  · rcases hg with hg | hg
    · exact hg.elim
    · exact Below.heap_setCell _ _ _ _ (fun e' => hne' (by rw [hg, e']))
  · refine ((KeepsOthers.alloc W tmp).trans (KeepsOthers.of_grownBy hgrow fun j o ej hj => ?_)).trans (KeepsOthers.setCell _ _ _)
    obtain ⟨_, cs, fr, h1⟩ := hw.cellsOf j ej
    rw [h1] at hj; cases hj; rfl
theorem cell_putObj_dead {W : World} {D : Nat} {o o' : Obj} (hD : W.heap[D]? = some o) (ho : o.isCells = false) (ho' : o'.isCells = false) (p : Addr) : (W.putObj D o').cell? p = W.cell? p := by
  by_cases e : p.block = D
  · have h1 : (W.putObj D o').heap[p.block]? = some o' := by rw [e]; exact World.putObj_heap_same (Array.getElem?_eq_some_iff.1 hD).1
    have h2 : W.heap[p.block]? = some o := by rw [e]; exact hD
    unfold World.cell?
    rw [h1, h2]
    cases o <;> cases o' <;> simp_all [Obj.isCells]
  · exact World.cell?_of_block (World.putObj_heap_other (by omega))
theorem lkRes' {W : World} {D : Nat} {ob o' : Obj} (hD : W.heap[D]? = some ob) (ho : ob.isCells = false) {k : Nat} {cs : Array Value} {T : TypeId} {fr : Nat × Nat} (h : W.heap[k]? = some (.cells cs T fr)) : (W.putObj D o').heap[k]? = some (.cells cs T fr) :=
  (World.putObj_heap_other (fun e => by subst e; rw [hD] at h; cases h; cases ho)).trans h
theorem below_others {W W' : World} (h : Below W.heap.size W W') : KeepsOthers W W' := ⟨h.size, fun k o hk _ => (h.block k (Array.getElem?_eq_some_iff.1 hk).1).trans hk⟩
set_option maxRecDepth 100000 in
set_option maxHeartbeats 4000000 in
theorem build_any (A : Option Addr) (c n : Nat) (l : List Sec) (leaf : Int) (w : World) (hn : l.length = n) (hc : n ≤ c ∧ c ≤ maxLen) (h1 : SlAt encSec w (Bl w.heap.size) A l) (hl : n ≤ 100000) (hlf : I64 leaf) :
    Calls Try.prog 13 #[.slice A n c, .int .i64 leaf] w (TreeRetE (buildT l leaf) (buildErr l leaf) w.heap.size w) := by
  subst hn
  unfold I64 at hlf
  obtain ⟨hlf1, hlf2⟩ := hlf
  have hl2 : ((l.length : Nat) : Int) ≤ 100000 := by omega
  have HL := Lib.hid (limN_cases l.length leaf)
  obtain ⟨W0, hW0⟩ : ∃ W0, w.alloc (.cells #[.int .i64 0, .int .i64 0, .slice none 0 0] 26) = W0 := ⟨_, rfl⟩
  have hrow0 : W0.heap[w.heap.size]? = some (.cells #[.int .i64 0, .int .i64 0, .slice none 0 0] 26 (0, 0)) := by rw [← hW0]; exact heap_alloc_new _ _
  have hs0 : W0.heap.size = w.heap.size + 1 := by rw [← hW0]; simp
  have hB0 : Below w.heap.size w W0 := by rw [← hW0]; exact ext_alloc (Below.refl _ _)
  have HS0 := Lib.hid hs0; clear hs0
  obtain ⟨r0, r1, r2, rf⟩ := blk3 hrow0
  have H1 : Hid (∀ w', Below W0.heap.size W0 w' → SlAt encSec w' (Bl w.heap.size) A l) := fun w' hb => (h1.below hB0).below (hb.mono hB0.size)
  clear h1
  have HLM := Lib.hid (limits_any (l.length : Int) leaf (limN l.length leaf) W0 rfl)
  obtain ⟨nn, hnn⟩ : ∃ n : Nat, 4 ≤ n := ⟨4, Nat.le_refl _⟩
  refine (callsIn_wide (n := nn)).1 ?_
  refine callsIn_of_wp_marks Try.func13 rfl trivial ?_ rfl
  simp only [Try.ntmps13, List.size_toArray, List.length_cons, List.length_nil, Nat.reduceAdd, Nat.reduceSub, Array.replicate_succ, Array.replicate_zero, List.push_toArray, List.append_toArray, List.nil_append, List.cons_append]
  gi_wp2_with fail
  refine ⟨trivial, fun _ => by omega, CallsIn.mono (callsIn_wide.2 HLM.out) ?_⟩
  rintro e W0 ⟨rfl, rfl⟩
  rcases HL.out with ⟨g1, g2⟩ | ⟨g1, g2, g3, g4⟩ | ⟨g1, g2, g3, g4, g5⟩
  · have HT : Hid (buildT l leaf = zTree) := buildT_err (by rw [g1]; decide)
    have HE : Hid (buildErr l leaf = 2) := g1
    rw [g1]
    clear g1 HL
    gi_wp2_with fail
    rw [HT.out, HE.out]
    have hend := treeRetE_end (w := w) (lo := w.heap.size) hrow0 (Nat.le_refl w.heap.size) hB0 zTree none 0 2 (by simp [zTree]) (by decide) SlAt.nil_
    obtain ⟨hz, hret⟩ := hend
    change bodyPostM _ _ _ _ _ _ _ (set3 W0 w.heap.size (.int .i64 (zTree : Tr).1) (.int .i64 (zTree : Tr).2.1) (.slice none (zTree : Tr).2.2.length 0))
    generalize set3 W0 w.heap.size (.int .i64 (zTree : Tr).1) (.int .i64 (zTree : Tr).2.1) (.slice none (zTree : Tr).2.2.length 0) = W3 at hz hret ⊢
    obtain ⟨z0, z1, z2, _⟩ := blk3 hz
    refine ⟨.tuple #[.agg #[.int .i64 (zTree : Tr).1, .int .i64 (zTree : Tr).2.1, .slice none (zTree : Tr).2.2.length 0], .int .i64 2], ?_, hret⟩
    simp [results, Try.results13, Try.f13, go_sem, z0, z1, z2, zTree]
  · have HT : Hid (buildT l leaf = zTree) := buildT_err (by rw [g1]; decide)
    have HE : Hid (buildErr l leaf = 1) := g1
    rw [g1]
    clear g1 HL
    gi_wp2_with fail
    rw [HT.out, HE.out]
    have hend := treeRetE_end (w := w) (lo := w.heap.size) hrow0 (Nat.le_refl w.heap.size) hB0 zTree none 0 1 (by simp [zTree]) (by decide) SlAt.nil_
    obtain ⟨hz, hret⟩ := hend
    change bodyPostM _ _ _ _ _ _ _ (set3 W0 w.heap.size (.int .i64 (zTree : Tr).1) (.int .i64 (zTree : Tr).2.1) (.slice none (zTree : Tr).2.2.length 0))
    generalize set3 W0 w.heap.size (.int .i64 (zTree : Tr).1) (.int .i64 (zTree : Tr).2.1) (.slice none (zTree : Tr).2.2.length 0) = W3 at hz hret ⊢
    obtain ⟨z0, z1, z2, _⟩ := blk3 hz
    refine ⟨.tuple #[.agg #[.int .i64 (zTree : Tr).1, .int .i64 (zTree : Tr).2.1, .slice none (zTree : Tr).2.2.length 0], .int .i64 1], ?_, hret⟩
    simp [results, Try.results13, Try.f13, go_sem, z0, z1, z2, zTree]
  · obtain ⟨m, rfl⟩ : ∃ m : Nat, leaf = m := ⟨leaf.toNat, by omega⟩
    have HT : Hid (buildT l (m : Int) = ((l.length : Int), (m : Int), levels (digests l m))) := buildT_ok g1
    have HE : Hid (buildErr l (m : Int) = 0) := g1
    rw [g1]
    clear g1 HL
    have hm1 : 1 ≤ m := by omega
    have hm2 : m ≤ 4096 := by omega
    have hn1 : 1 ≤ l.length := by omega
    have hn2 : l.length ≤ 4096 := by omega
    gi_wp2_with fail
    refine ⟨trivial, fun _ => by omega, CallsIn.mono (callsIn_wide.2 (chunk_any A l.length c (m : Int) (by omega) _)) ?_⟩
    rintro e w1 ⟨rfl, rfl⟩
    obtain ⟨b, off, rfl, hbA⟩ := (H1.out W0 (Below.refl _ _)).some_ (fun e => by rw [e] at hn1; simp at hn1)
    obtain ⟨W1, hW1⟩ : ∃ W1, ((W0.alloc (.cells #[.slice none 0 0] 60)).alloc (.cells #[.slice (some ⟨b, off, none⟩) l.length c] 22)).alloc (.cells #[.int .i64 m] 3) = W1 := ⟨_, rfl⟩
    have hs1 : W1.heap.size = W0.heap.size + 3 := by rw [← hW1]; simp
    have hB1 : Below W0.heap.size W0 W1 := by rw [← hW1]; exact ext_alloc (ext_alloc (ext_alloc (Below.refl _ _)))
    have a1 := heap_alloc_new W0 (.cells #[.slice none 0 0] 60)
    have a2 := heap_alloc_new (W0.alloc (.cells #[.slice none 0 0] 60)) (.cells #[.slice (some ⟨b, off, none⟩) l.length c] 22)
    have a3 := heap_alloc_new ((W0.alloc (.cells #[.slice none 0 0] 60)).alloc (.cells #[.slice (some ⟨b, off, none⟩) l.length c] 22)) (.cells #[.int .i64 m] 3)
    simp only [World.size_alloc] at a1 a2 a3
    have hbx : Boxed W1 W0.heap.size 60 (.slice none 0 0) := by rw [← hW1]; exact (Below.heap_alloc _ _ _ (by simp; omega)).trans ((Below.heap_alloc _ _ _ (by simp)).trans a1)
    have hcs : W1.cell? ⟨W0.heap.size + 1, 0, none⟩ = some (.slice (some ⟨b, off, none⟩) l.length c) := by rw [← hW1]; exact cell_of_row _ _ 0 _ _ _ ((Below.heap_alloc _ _ _ (by simp)).trans a2)
    have hcn : W1.cell? ⟨W0.heap.size + 1 + 1, 0, none⟩ = some (.int .i64 m) := by rw [← hW1]; exact cell_of_row _ _ 0 _ _ _ a3
    have hmx : Try.prog.follows .mixedOrders = true := by kernel_rfl
    have HST := Lib.hid (chunk_stops (nn - 1) (by omega) (W0.heap.size + 1) (W0.heap.size + 1 + 1) c b off m l hm1 hm2 hn1 hn2 hc.1 hc.2 W1 (by omega) (by omega) hcs hcn)
    clear a1 a2 a3 hcs hcn
    gi_wp2
    clear hW1
    refine wpIn_rangeFunc_ownT (own := fun _ => False) rfl (by omega) (gf := 56) (lb := #[.pointer (some ⟨W0.heap.size + 1, 0, none⟩), .pointer (some ⟨W0.heap.size + 1 + 1, 0, none⟩)]) rfl trivial (enters_of Try.func56 (by kernel_rfl) rfl) HST.out KpC.trans (fun W l o o' hl h _ _ => KpC.blk (World.putObj_heap_other (by omega)) (World.putObj_heap_other (by omega))) (Below.refl _ _) (fun _ => rfl)
      (fun pre W => BoxOwn encU64 W1.heap.size W0.heap.size 60 58 (pre.map fun k => digS (leafAt l m k)) W ∧ Below W0.heap.size W1 W)
      (fun _ _ _ => False)
      (OwnT.and (boxOwn_ownT (fun pre : List Nat => pre.map fun k => digS (leafAt l m k)) (fun h => h) (fun h => h)) (ownT_below (by omega) (by omega)))
      (fun _ _ _ _ _ hs _ _ => hs)
      ⟨⟨_, hbx, Own.nil_⟩, Below.refl _ _⟩
      (fun x a' W => a' = { tmps := #[.slice (some ⟨b, off, none⟩) l.length c, .int .i64 m, undef, undef, .pointer (some ⟨w.heap.size, 0, none⟩), .int .i64 0, .int .i64 0, .pointer (some ⟨W0.heap.size, 0, none⟩), .slice (some ⟨b, off + x * m * 8, none⟩) (leafAt l m x).length (leafAt l m x).length, .slice (some ⟨b, off, none⟩) l.length c, .int .i64 l.length, .int .i64 m, .int .i64 0, .int .i64 0, .bool false, undef, undef, .slice (some ⟨b, off, none⟩) l.length c, .int .i64 m, .func (.func 56) #[] #[.pointer (some ⟨W0.heap.size + 1, 0, none⟩), .pointer (some ⟨W0.heap.size + 1 + 1, 0, none⟩)], .slice (some ⟨b, off + x * m * 8, none⟩) (leafAt l m x).length (leafAt l m x).length, undef, undef, undef, undef, undef, undef, undef, undef, undef, undef], defers := [] }) ?hAx ?assign ?body ?done ?stop
    case hAx => exact fun x a' s X Y row h _ _ => h
    case assign =>
      rintro y pre x W K ⟨hi, hB⟩ hK
      unfold chE
      have HI := Lib.hid hi; clear hi
      gi_wp2
      exact hK _ _ (KeepsFrom.refl _ _) ⟨rfl, rfl⟩ ⟨HI.out, hB⟩ rfl
    case body =>
      rintro y pre x a' W _ _ ⟨⟨v, hv, hrow⟩, hB⟩ rfl hlen
      have hc := hv.cell
      have hf := hv.frozen
      have hsz := hB.size
      have hB9 : Below W0.heap.size W0 W := hB1.trans hB
      have hat : SlAt encSec W (Bl W.heap.size) (some ⟨b, off + x * m * 8, none⟩) (leafAt l m x) := (((H1.out W hB9).drop (k := x * m)).take).more (fun g hg => Nat.lt_of_lt_of_le hg (Nat.le_trans hB0.size hB9.size))
      obtain ⟨d, hd⟩ : ∃ d, digS (leafAt l m x) = d := ⟨_, rfl⟩
      have HD := Lib.hid (fun W' (hb : Below W.heap.size W W') => digestSecs_any (some ⟨b, off + x * m * 8, none⟩) (leafAt l m x).length _ (leafAt l m x) d W' rfl hd (hat.belowUp hb hb.size) (by rw [leafAt_len]; omega))
      have HDR : Hid (U64 d) := by rw [← hd]; exact dig_range _
      have hlen2 : pre.length < 100000 := Nat.lt_of_lt_of_le hlen (Nat.le_trans (leavesN_le hm1) (by omega))
      have HDE := Lib.hid hd; clear hd hat hlen
      have HV := Lib.hid hv; have HROW := Lib.hid hrow
      clear hv hrow
      gi_wp2
      refine wpIn_region_any hmx ?_
      change wpAnyIn _ _ _ _ _ _ _ _ _ (World.drew _)
      refine wpAnyIn_ready (rs := [0, 1]) (by kernel_rfl) (by simp) ?_
      refine AllReadyIn.cons rfl (fun K hK => ?_) (AllReadyIn.cons rfl (fun K hK => ?_) AllReadyIn.nil)
      · go_simp
        refine hK _ _ ?_
        clear hK K
        refine wpAnyIn_ready (rs := [1]) (by kernel_rfl) (by simp) ?_
        refine AllReadyIn.cons rfl (fun K hK => ?_) AllReadyIn.nil
        go_simp
        refine hK _ _ ?_
        clear hK K
        refine wpAnyIn_ready (rs := [2]) (by kernel_rfl) (by simp) ?_
        refine AllReadyIn.cons rfl (fun K hK => ?_) AllReadyIn.nil
        gi_wp2_with fail
        refine ⟨trivial, fun _ => by omega, CallsIn.mono (CallsIn.inRound y (callsIn_wide.2 (HD.out _ (Below.refl _ _).drew))) ?_⟩
        rintro e w3 ⟨rfl, hb3⟩
        refine hK _ _ ?_
        clear hK K
        have hbw : Below W.heap.size W w3 := bUn hb3
        have hc3 : w3.cell? ⟨W0.heap.size, 0, none⟩ = some v := (hbw.cell (p := ⟨W0.heap.size, 0, none⟩) HV.out.lt).trans hc
        have hf3 : w3.frozen? ⟨W0.heap.size, 0, none⟩ = false := (hbw.frozen (p := ⟨W0.heap.size, 0, none⟩) HV.out.lt).trans hf
        have hlt3 : W0.heap.size < w3.heap.size := Nat.lt_of_lt_of_le HV.out.lt hbw.size
        refine wpAnyIn_ready (rs := [3]) (by kernel_rfl) (by simp) ?_
        refine AllReadyIn.cons rfl (fun K hK => ?_) AllReadyIn.nil
        go_simp
        refine hK _ _ ?_
        clear hK K
        have hrow3 := HROW.out.below hbw (fun _ h => h.elim)
        have hv3 : Boxed w3 W0.heap.size 60 v := (hbw.block _ HV.out.lt).trans HV.out
        have hs3 := hbw.size
        refine wpAnyIn_ready (rs := [4]) (by kernel_rfl) (by simp) ?_
        refine AllReadyIn.cons rfl (fun K hK => ?_) AllReadyIn.nil
        refine stepIn_app1 (E := encU64) tyU64s rfl _ _ rfl rfl (Own.alloc hrow3 (fun _ h => h.elim) (.cells #[.int .u64 d] 58)) d [.int .u64 d] rfl ⟨rfl, HDR.out⟩ (heap_alloc_new _ _) (fun _ h => h.elim) (by simp; omega) (by rw [List.length_map]; unfold maxLen; omega) (by rw [List.length_map]; omega) ?_
        intro A' c5 w5 hown5 hg5 hat5
        refine hK _ _ ?_
        clear hK K
        obtain ⟨hv5, hbo5, hk5⟩ := BoxOwn.appended3 hv3 (by decide) hrow3 hown5 hg5
        have hc5 := hv5.cell
        have hf5 := hv5.frozen
        have hl3 := hrow3.lt
        have hkp : KpC (W0.heap.size + 1) (W0.heap.size + 1 + 1) W (w5.setCell ⟨W0.heap.size, 0, none⟩ (.slice A' ((pre.map fun k => digS (leafAt l m k)).length + 1) c5)) := KpC.blk
          ((Below.heap_setCell _ _ _ _ (by simp)).trans ((hg5.block _ (by simp; omega) (fun e => by have := (hl3 _ e.symm).1; omega)).trans ((Below.heap_alloc _ _ _ (by omega)).trans (hbw.block _ (by omega)))))
          ((Below.heap_setCell _ _ _ _ (by simp; omega)).trans ((hg5.block _ (by simp; omega) (fun e => by have := (hl3 _ e.symm).1; omega)).trans ((Below.heap_alloc _ _ _ (by omega)).trans (hbw.block _ (by omega)))))
        have hB6 : Below W0.heap.size W1 (w5.setCell ⟨W0.heap.size, 0, none⟩ (.slice A' ((pre.map fun k => digS (leafAt l m k)).length + 1) c5)) := (((hB.trans (hbw.mono (by omega))).alloc (by omega) (.cells #[.int .u64 d] 58)).grown hg5 (by simp; omega) (fun g e => by have := (hl3 g e).1; omega)).setCell (p := ⟨W0.heap.size, 0, none⟩) (Nat.le_refl W0.heap.size) _
        have HF := Lib.hid (And.intro (((below_others hbw).trans hk5).from W1.heap.size) (And.intro hkp (And.intro hbo5 hB6)))
        clear hk5 hkp hbo5 hB6 hown5 hg5 hat5
        refine wpAnyIn_ready (rs := [5]) (by kernel_rfl) (by simp) ?_
        refine AllReadyIn.cons rfl (fun K hK => ?_) AllReadyIn.nil
        go_simp
        refine hK _ _ ?_
        clear hK K
        refine wpAnyIn_done (by kernel_rfl) ?_ _
        gi_wp2
        have HF' := HF.out
        simp only [List.length_map] at HF'
        refine ⟨HF'.1, HF'.2.1, ?_, HF'.2.2.2⟩
        rw [List.map_append, List.map_singleton, HDE.out]
        exact HF'.2.2.1
      · go_simp
        refine hK _ _ ?_
        clear hK K
        refine wpAnyIn_ready (rs := [0, 2]) (by kernel_rfl) (by simp) ?_
        refine AllReadyIn.cons rfl (fun K hK => ?_) (AllReadyIn.cons rfl (fun K hK => ?_) AllReadyIn.nil)
        · go_simp
          refine hK _ _ ?_
          clear hK K
          refine wpAnyIn_ready (rs := [2]) (by kernel_rfl) (by simp) ?_
          refine AllReadyIn.cons rfl (fun K hK => ?_) AllReadyIn.nil
          gi_wp2_with fail
          refine ⟨trivial, fun _ => by omega, CallsIn.mono (CallsIn.inRound y (callsIn_wide.2 (HD.out _ (Below.refl _ _).drew))) ?_⟩
          rintro e w3 ⟨rfl, hb3⟩
          refine hK _ _ ?_
          clear hK K
          have hbw : Below W.heap.size W w3 := bUn hb3
          have hc3 : w3.cell? ⟨W0.heap.size, 0, none⟩ = some v := (hbw.cell (p := ⟨W0.heap.size, 0, none⟩) HV.out.lt).trans hc
          have hf3 : w3.frozen? ⟨W0.heap.size, 0, none⟩ = false := (hbw.frozen (p := ⟨W0.heap.size, 0, none⟩) HV.out.lt).trans hf
          have hlt3 : W0.heap.size < w3.heap.size := Nat.lt_of_lt_of_le HV.out.lt hbw.size
          refine wpAnyIn_ready (rs := [3]) (by kernel_rfl) (by simp) ?_
          refine AllReadyIn.cons rfl (fun K hK => ?_) AllReadyIn.nil
          go_simp
          refine hK _ _ ?_
          clear hK K
          have hrow3 := HROW.out.below hbw (fun _ h => h.elim)
          have hv3 : Boxed w3 W0.heap.size 60 v := (hbw.block _ HV.out.lt).trans HV.out
          have hs3 := hbw.size
          refine wpAnyIn_ready (rs := [4]) (by kernel_rfl) (by simp) ?_
          refine AllReadyIn.cons rfl (fun K hK => ?_) AllReadyIn.nil
          refine stepIn_app1 (E := encU64) tyU64s rfl _ _ rfl rfl (Own.alloc hrow3 (fun _ h => h.elim) (.cells #[.int .u64 d] 58)) d [.int .u64 d] rfl ⟨rfl, HDR.out⟩ (heap_alloc_new _ _) (fun _ h => h.elim) (by simp; omega) (by rw [List.length_map]; unfold maxLen; omega) (by rw [List.length_map]; omega) ?_
          intro A' c5 w5 hown5 hg5 hat5
          refine hK _ _ ?_
          clear hK K
          obtain ⟨hv5, hbo5, hk5⟩ := BoxOwn.appended3 hv3 (by decide) hrow3 hown5 hg5
          have hc5 := hv5.cell
          have hf5 := hv5.frozen
          have hl3 := hrow3.lt
          have hkp : KpC (W0.heap.size + 1) (W0.heap.size + 1 + 1) W (w5.setCell ⟨W0.heap.size, 0, none⟩ (.slice A' ((pre.map fun k => digS (leafAt l m k)).length + 1) c5)) := KpC.blk
            ((Below.heap_setCell _ _ _ _ (by simp)).trans ((hg5.block _ (by simp; omega) (fun e => by have := (hl3 _ e.symm).1; omega)).trans ((Below.heap_alloc _ _ _ (by omega)).trans (hbw.block _ (by omega)))))
            ((Below.heap_setCell _ _ _ _ (by simp; omega)).trans ((hg5.block _ (by simp; omega) (fun e => by have := (hl3 _ e.symm).1; omega)).trans ((Below.heap_alloc _ _ _ (by omega)).trans (hbw.block _ (by omega)))))
          have hB6 : Below W0.heap.size W1 (w5.setCell ⟨W0.heap.size, 0, none⟩ (.slice A' ((pre.map fun k => digS (leafAt l m k)).length + 1) c5)) := (((hB.trans (hbw.mono (by omega))).alloc (by omega) (.cells #[.int .u64 d] 58)).grown hg5 (by simp; omega) (fun g e => by have := (hl3 g e).1; omega)).setCell (p := ⟨W0.heap.size, 0, none⟩) (Nat.le_refl W0.heap.size) _
          have HF := Lib.hid (And.intro (((below_others hbw).trans hk5).from W1.heap.size) (And.intro hkp (And.intro hbo5 hB6)))
          clear hk5 hkp hbo5 hB6 hown5 hg5 hat5
          refine wpAnyIn_ready (rs := [5]) (by kernel_rfl) (by simp) ?_
          refine AllReadyIn.cons rfl (fun K hK => ?_) AllReadyIn.nil
          go_simp
          refine hK _ _ ?_
          clear hK K
          refine wpAnyIn_done (by kernel_rfl) ?_ _
          gi_wp2
          have HF' := HF.out
          simp only [List.length_map] at HF'
          refine ⟨HF'.1, HF'.2.1, ?_, HF'.2.2.2⟩
          rw [List.map_append, List.map_singleton, HDE.out]
          exact HF'.2.2.1
        · gi_wp2_with fail
          refine ⟨trivial, fun _ => by omega, CallsIn.mono (CallsIn.inRound y (callsIn_wide.2 (HD.out _ (Below.refl _ _).drew))) ?_⟩
          rintro e w3 ⟨rfl, hb3⟩
          refine hK _ _ ?_
          clear hK K
          have hbw : Below W.heap.size W w3 := bUn hb3
          have hc3 : w3.cell? ⟨W0.heap.size, 0, none⟩ = some v := (hbw.cell (p := ⟨W0.heap.size, 0, none⟩) HV.out.lt).trans hc
          have hf3 : w3.frozen? ⟨W0.heap.size, 0, none⟩ = false := (hbw.frozen (p := ⟨W0.heap.size, 0, none⟩) HV.out.lt).trans hf
          have hlt3 : W0.heap.size < w3.heap.size := Nat.lt_of_lt_of_le HV.out.lt hbw.size
          refine wpAnyIn_ready (rs := [0, 3]) (by kernel_rfl) (by simp) ?_
          refine AllReadyIn.cons rfl (fun K hK => ?_) (AllReadyIn.cons rfl (fun K hK => ?_) AllReadyIn.nil)
          · go_simp
            refine hK _ _ ?_
            clear hK K
            refine wpAnyIn_ready (rs := [3]) (by kernel_rfl) (by simp) ?_
            refine AllReadyIn.cons rfl (fun K hK => ?_) AllReadyIn.nil
            go_simp
            refine hK _ _ ?_
            clear hK K
            have hrow3 := HROW.out.below hbw (fun _ h => h.elim)
            have hv3 : Boxed w3 W0.heap.size 60 v := (hbw.block _ HV.out.lt).trans HV.out
            have hs3 := hbw.size
            refine wpAnyIn_ready (rs := [4]) (by kernel_rfl) (by simp) ?_
            refine AllReadyIn.cons rfl (fun K hK => ?_) AllReadyIn.nil
            refine stepIn_app1 (E := encU64) tyU64s rfl _ _ rfl rfl (Own.alloc hrow3 (fun _ h => h.elim) (.cells #[.int .u64 d] 58)) d [.int .u64 d] rfl ⟨rfl, HDR.out⟩ (heap_alloc_new _ _) (fun _ h => h.elim) (by simp; omega) (by rw [List.length_map]; unfold maxLen; omega) (by rw [List.length_map]; omega) ?_
            intro A' c5 w5 hown5 hg5 hat5
            refine hK _ _ ?_
            clear hK K
            obtain ⟨hv5, hbo5, hk5⟩ := BoxOwn.appended3 hv3 (by decide) hrow3 hown5 hg5
            have hc5 := hv5.cell
            have hf5 := hv5.frozen
            have hl3 := hrow3.lt
            have hkp : KpC (W0.heap.size + 1) (W0.heap.size + 1 + 1) W (w5.setCell ⟨W0.heap.size, 0, none⟩ (.slice A' ((pre.map fun k => digS (leafAt l m k)).length + 1) c5)) := KpC.blk
              ((Below.heap_setCell _ _ _ _ (by simp)).trans ((hg5.block _ (by simp; omega) (fun e => by have := (hl3 _ e.symm).1; omega)).trans ((Below.heap_alloc _ _ _ (by omega)).trans (hbw.block _ (by omega)))))
              ((Below.heap_setCell _ _ _ _ (by simp; omega)).trans ((hg5.block _ (by simp; omega) (fun e => by have := (hl3 _ e.symm).1; omega)).trans ((Below.heap_alloc _ _ _ (by omega)).trans (hbw.block _ (by omega)))))
            have hB6 : Below W0.heap.size W1 (w5.setCell ⟨W0.heap.size, 0, none⟩ (.slice A' ((pre.map fun k => digS (leafAt l m k)).length + 1) c5)) := (((hB.trans (hbw.mono (by omega))).alloc (by omega) (.cells #[.int .u64 d] 58)).grown hg5 (by simp; omega) (fun g e => by have := (hl3 g e).1; omega)).setCell (p := ⟨W0.heap.size, 0, none⟩) (Nat.le_refl W0.heap.size) _
            have HF := Lib.hid (And.intro (((below_others hbw).trans hk5).from W1.heap.size) (And.intro hkp (And.intro hbo5 hB6)))
            clear hk5 hkp hbo5 hB6 hown5 hg5 hat5
            refine wpAnyIn_ready (rs := [5]) (by kernel_rfl) (by simp) ?_
            refine AllReadyIn.cons rfl (fun K hK => ?_) AllReadyIn.nil
            go_simp
            refine hK _ _ ?_
            clear hK K
            refine wpAnyIn_done (by kernel_rfl) ?_ _
            gi_wp2
            have HF' := HF.out
            simp only [List.length_map] at HF'
            refine ⟨HF'.1, HF'.2.1, ?_, HF'.2.2.2⟩
            rw [List.map_append, List.map_singleton, HDE.out]
            exact HF'.2.2.1
          · go_simp
            refine hK _ _ ?_
            clear hK K
            refine wpAnyIn_ready (rs := [0]) (by kernel_rfl) (by simp) ?_
            refine AllReadyIn.cons rfl (fun K hK => ?_) AllReadyIn.nil
            go_simp
            refine hK _ _ ?_
            clear hK K
            have hrow3 := HROW.out.below hbw (fun _ h => h.elim)
            have hv3 : Boxed w3 W0.heap.size 60 v := (hbw.block _ HV.out.lt).trans HV.out
            have hs3 := hbw.size
            refine wpAnyIn_ready (rs := [4]) (by kernel_rfl) (by simp) ?_
            refine AllReadyIn.cons rfl (fun K hK => ?_) AllReadyIn.nil
            refine stepIn_app1 (E := encU64) tyU64s rfl _ _ rfl rfl (Own.alloc hrow3 (fun _ h => h.elim) (.cells #[.int .u64 d] 58)) d [.int .u64 d] rfl ⟨rfl, HDR.out⟩ (heap_alloc_new _ _) (fun _ h => h.elim) (by simp; omega) (by rw [List.length_map]; unfold maxLen; omega) (by rw [List.length_map]; omega) ?_
            intro A' c5 w5 hown5 hg5 hat5
            refine hK _ _ ?_
            clear hK K
            obtain ⟨hv5, hbo5, hk5⟩ := BoxOwn.appended3 hv3 (by decide) hrow3 hown5 hg5
            have hc5 := hv5.cell
            have hf5 := hv5.frozen
            have hl3 := hrow3.lt
            have hkp : KpC (W0.heap.size + 1) (W0.heap.size + 1 + 1) W (w5.setCell ⟨W0.heap.size, 0, none⟩ (.slice A' ((pre.map fun k => digS (leafAt l m k)).length + 1) c5)) := KpC.blk
              ((Below.heap_setCell _ _ _ _ (by simp)).trans ((hg5.block _ (by simp; omega) (fun e => by have := (hl3 _ e.symm).1; omega)).trans ((Below.heap_alloc _ _ _ (by omega)).trans (hbw.block _ (by omega)))))
              ((Below.heap_setCell _ _ _ _ (by simp; omega)).trans ((hg5.block _ (by simp; omega) (fun e => by have := (hl3 _ e.symm).1; omega)).trans ((Below.heap_alloc _ _ _ (by omega)).trans (hbw.block _ (by omega)))))
            have hB6 : Below W0.heap.size W1 (w5.setCell ⟨W0.heap.size, 0, none⟩ (.slice A' ((pre.map fun k => digS (leafAt l m k)).length + 1) c5)) := (((hB.trans (hbw.mono (by omega))).alloc (by omega) (.cells #[.int .u64 d] 58)).grown hg5 (by simp; omega) (fun g e => by have := (hl3 g e).1; omega)).setCell (p := ⟨W0.heap.size, 0, none⟩) (Nat.le_refl W0.heap.size) _
            have HF := Lib.hid (And.intro (((below_others hbw).trans hk5).from W1.heap.size) (And.intro hkp (And.intro hbo5 hB6)))
            clear hk5 hkp hbo5 hB6 hown5 hg5 hat5
            refine wpAnyIn_ready (rs := [5]) (by kernel_rfl) (by simp) ?_
            refine AllReadyIn.cons rfl (fun K hK => ?_) AllReadyIn.nil
            go_simp
            refine hK _ _ ?_
            clear hK K
            refine wpAnyIn_done (by kernel_rfl) ?_ _
            gi_wp2
            have HF' := HF.out
            simp only [List.length_map] at HF'
            refine ⟨HF'.1, HF'.2.1, ?_, HF'.2.2.2⟩
            rw [List.map_append, List.map_singleton, HDE.out]
            exact HF'.2.2.1
    case done =>
      rintro D ys W hD hS ⟨⟨v, hv, hrow⟩, hB⟩ hK
      have HS := Lib.hid hS; clear hS
      have hc := hv.cell
      have hB9 : Below W0.heap.size W0 W := hB1.trans hB
      have hsz := hB.size
      have HDG : Hid ((ys.map fun k => digS (leafAt l m k)) = digests l m) := by rw [Hid, HS.out]; rfl
      rw [HDG.out] at hrow
      obtain ⟨B, vc, rfl⟩ := hrow.form
      have hw : OwnW encU64 W W1.heap.size W1.heap.size 58 (.slice B (digests l m).length vc) (digests l m) := Own.more hrow (fun _ h => h.elim) (fun g e h => h.2 e)
      obtain ⟨_, p1, p2, p3⟩ := hw.parts
      have hdl : Hid ((digests l m).length = leavesN l.length m) := by simp [Hid, digests]
      have HAB := Lib.hid (above_any B vc (digests l m).length W1.heap.size (l.length : Int) (m : Int) (digests l m) W rfl (by rw [hdl.out]; exact leavesN_pos hn1 hm1) hsz ⟨p1, p2⟩ p3 (by rw [hdl.out]; exact Nat.le_trans (leavesN_le hm1) (by omega)))
      have HK := Lib.hid hK
      clear hK p3 hrow
      have HV := Lib.hid hv; clear hv
      gi_wp2_with fail
      refine ⟨trivial, fun _ => by omega, CallsIn.mono (callsIn_wide.2 HAB.out) ?_⟩
      rintro e w4 ⟨A4, c4, rfl, t1, t2, t3, t4⟩
      have hrow4 : w4.heap[w.heap.size]? = some (.cells #[.int .i64 0, .int .i64 0, .slice none 0 0] 26 (0, 0)) := (t4.block _ (by have := HS0.out; omega)).trans ((hB9.block _ (by have := HS0.out; omega)).trans hrow0)
      obtain ⟨u0, u1, u2, uf⟩ := blk3 hrow4
      have hB4 : Below w.heap.size w w4 := hB0.trans ((hB9.trans (t4.mono hB9.size)).mono hB0.size)
      have T3 := Lib.hid (t3.more (S' := fun g => Nw w.heap.size w4.heap.size g ∧ g ≠ w.heap.size) (fun g hg => ⟨hg.mono (by have := HS0.out; omega) (Nat.le_refl _), by have := hg.1; have := HS0.out; omega⟩))
      have hK4 : w4.heap[D]? = some (.deferred (some [])) := (t4.block _ (Array.getElem?_eq_some_iff.1 HK.out).1).trans HK.out
      clear t3 HAB
      gi_wp2_with fail
      obtain ⟨hz, A5, c5, he, y1, y2, y3, y4⟩ := treeRetE_end (w := w) (lo := w.heap.size) hrow4 (Nat.le_refl w.heap.size) hB4 ((l.length : Int), (m : Int), levels (digests l m)) A4 c4 0 t1 t2 T3.out
      change bodyPostM _ _ _ _ _ _ _ (set3 w4 w.heap.size (.int .i64 (l.length : Int)) (.int .i64 (m : Int)) (.slice A4 (levels (digests l m)).length c4))
      have hK5 : (set3 w4 w.heap.size (.int .i64 (l.length : Int)) (.int .i64 (m : Int)) (.slice A4 (levels (digests l m)).length c4)).heap[D]? = some (.deferred (some [])) := (blk3_other (by have := HS0.out; omega) _ _ _).trans hK4
      simp only at hz y3 y4 he
      generalize set3 w4 w.heap.size (.int .i64 (l.length : Int)) (.int .i64 (m : Int)) (.slice A4 (levels (digests l m)).length c4) = W5 at hz y3 y4 hK5 ⊢
      refine ⟨by simp, .inl ⟨_, _, rfl, run_takeDeferred hK5, ?_⟩⟩
      obtain ⟨z0, z1, z2, _⟩ := blk3 (lkRes' (o' := .deferred none) hK5 rfl hz)
      refine ⟨.tuple #[.agg #[.int .i64 (l.length : Int), .int .i64 (m : Int), .slice A4 (levels (digests l m)).length c4], .int .i64 0], ?_, ?_⟩
      · simp [results, Try.results13, Try.f13, go_sem, z0, z1, z2]
      · rw [HT.out, HE.out]
        refine ⟨A5, c5, he, y1, y2, y3.keep (fun p _ => cell_putObj_dead hK5 rfl rfl p) (fun g hg => ⟨hg.1, Nat.lt_of_lt_of_le hg.2 (grownBy_putObj' W5 D (.deferred none)).size⟩), y4.grown (grownBy_putObj' W5 D (.deferred none)) y4.size (fun k e => by cases e; have := HS0.out; omega)⟩
    case stop =>
      rintro D c' pre W hD hS h
      exact h.elim
end Go.Proofs.Ythneomehfmjbkaa

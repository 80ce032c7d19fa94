/-
  compare's descend: the walk.; Plain words: what a walk that is well-formed has; what Learn sends.; slices.Equal over extents.; The examples of the chapter: the walk.; What is built is correct; the walk of the law HashtreeShapes.; Plain words: the levels of a tree, node by node. No program in sight.; Plain words: the leaves that Differ finds are those with other sectors, if no two nodes collide. No program in sight.; Plain words: the bound for the digests that are sent. No program in sight.; Plain words: two sites that compare their trees by exchanging digests: what a walk finds, how many digests it sends. No program in sight.; Plain words: how many leaves there are in the extents that are found; numbers in extents. No program in sight.; Plain words: the error of lists of extents; walks, requests, answers, and what a walk learns. No program in sight.; Plain words: a whole walk between two trees: its steps, and what it ends with. No program in sight.; Plain words: the answer to the request of a walk that goes on.; compare.put, extent.Check, compare.Bound: the walks.; Drawn regions whose last operation stores into a cell that the region has read: the loads may be taken first all the same. No program in sight.
-/
import Derived.BigQuiet
import Derived.Deep.Cut
import Derived.Laws.OwnMore
import Derived.RegionTactic
import Derived.BigRegion
import Derived.Deep.RegionLaw
import Derived.Deep.DeepCutAuto
import Derived.OrdersHeld
import Derived.Deep.RegionHeld3
import Derived.WalkMore
import Derived.Test.YtjehedfdikdfpaaZL01
import Derived.Test.YtjehedfdikdfpaaZL02
import Derived.Test.YtjehedfdikdfpaaZL03
import Derived.Test.YtjehedfdikdfpaaZL04
import Derived.Test.YtjehedfdikdfpaaZL05
import Derived.Test.YtjehedfdikdfpaaZL06
set_option linter.unusedVariables false
set_option linter.unusedSimpArgs false
set_option linter.unusedSectionVars false
set_option linter.unnecessarySimpa false
namespace Go.Proofs.Ytjehedfdikdfpaa
open Go.RowKit Go.Shelf
attribute [local go_sem] Oper.semAt_some

theorem joinN_snoc (v : List Nat) (k : Nat) : joinN (v ++ [k]) = extStep (joinN v) ((k : Int), 1) := by unfold joinN; rw [List.map_append, List.map_singleton, extsL_snoc]
theorem extStep_cases (out : List Ext) (e : Ext) : extStep out e = out ++ [e] ∨ ∃ s c, out.getLast? = some (s, c) ∧ s + c = e.1 ∧ extStep out e = out.set (out.length - 1) (s, c + e.2) := by
  cases h : out.getLast? with
  | none => exact Or.inl (extStep_new (fun s c hg => by rw [h] at hg; cases hg))
  | some x =>
    obtain ⟨s, c⟩ := x
    by_cases he : s + c = e.1
    · exact Or.inr ⟨s, c, rfl, he, extStep_more h he⟩
    · exact Or.inl (extStep_new (fun s' c' hg => by rw [h] at hg; cases hg; exact he))
theorem extStep_len (out : List Ext) (e : Ext) : (extStep out e).length ≤ out.length + 1 := by
  rcases extStep_cases out e with h | ⟨s, c, _, _, h⟩ <;> rw [h] <;> simp
theorem extStep_bd {out : List Ext} {x : Nat} (h : ∀ e ∈ out, 0 ≤ e.1 ∧ 0 < e.2 ∧ e.1 + e.2 ≤ 8192) (hx : x < 8192) : ∀ e ∈ extStep out ((x : Int), 1), 0 ≤ e.1 ∧ 0 < e.2 ∧ e.1 + e.2 ≤ 8192 := by
  rcases extStep_cases out ((x : Int), 1) with h1 | ⟨s, c, hg, he, h1⟩ <;> rw [h1]
  · intro e hm
    rcases List.mem_append.1 hm with hm | hm
    · exact h e hm
    · rw [List.mem_singleton] at hm; subst hm; simp only; omega
  · intro e hm
    rcases List.mem_or_eq_of_mem_set hm with hm | hm
    · exact h e hm
    · have := h (s, c) (List.mem_of_getLast? hg)
      subst hm; simp only at this he ⊢; omega
/-- the walk's object and its pending extents, while they are made -/
structure DesI (w0 : World) (b n c fn fc : Nat) (s lf lv : Int) (A F : Option Addr) (sent : Int) (done : Bool) (n1 : Nat) (v : List Nat) (lim : Nat) (B : Option Addr) (vc : Nat) (out : List Ext) (wr : World) : Prop where
  row : WkRow wr b s lf A n c B out.length vc lv F fn fc sent done
  own : Own encExt wr n1 67 (fun _ => False) (.slice B out.length vc) out
  val : out = joinN v
  lim_ : out.length ≤ lim
  bd : ∀ e ∈ out, 0 ≤ e.1 ∧ 0 < e.2 ∧ e.1 + e.2 ≤ 8192
  low : Below b w0 wr
  blk : ∀ g, g < n1 → g ≠ b → wr.heap[g]? = w0.heap[g]?
  size : n1 ≤ wr.heap.size
section
variable {w0 wr w2 : World} {b n c fn fc : Nat} {s lf lv : Int} {A F : Option Addr} {sent : Int} {done : Bool} {n1 : Nat} {v : List Nat} {lim : Nat} {B : Option Addr} {vc : Nat} {out : List Ext}
theorem DesI.grow (h : DesI w0 b n c fn fc s lf lv A F sent done n1 v lim B vc out wr) (hb : b < n1) (hg : Below wr.heap.size wr w2) : DesI w0 b n c fn fc s lf lv A F sent done n1 v lim B vc out w2 :=
  ⟨h.row.of_blk (hg.block b (by have := h.size; omega)), h.own.below hg (fun _ h => h.elim), h.val, h.lim_, h.bd, h.low.trans (hg.mono (by have := h.size; omega)), fun g h1 h2 => (hg.block g (by have := h.size; omega)).trans (h.blk g h1 h2), Nat.le_trans h.size hg.size⟩
theorem DesI.more (h : DesI w0 b n c fn fc s lf lv A F sent done n1 v lim B vc out wr) {lim' : Nat} (hl : lim ≤ lim') : DesI w0 b n c fn fc s lf lv A F sent done n1 v lim' B vc out wr :=
  ⟨h.row, h.own, h.val, Nat.le_trans h.lim_ hl, h.bd, h.low, h.blk, h.size⟩
theorem DesI.add (h : DesI w0 b n c fn fc s lf lv A F sent done n1 v lim B vc out wr) (hb : b < n1) {x : Nat} (hx : x < 8192) {A2 : Option Addr} {c2 : Nat} {u : List Ext} (hu : u = extStep out ((x : Int), 1)) (ho : Own encExt w2 n1 67 (fun _ => False) (.slice A2 u.length c2) u) (hB : Below n1 wr w2) :
    DesI w0 b n c fn fc s lf lv A F sent done n1 (v ++ [x]) (lim + 1) A2 c2 u (w2.setCell ⟨b, 3, none⟩ (.slice A2 u.length c2)) := by
  have hlt := ho.lt
  refine ⟨?_, ho.blk (fun g hg => ?_), by rw [hu, h.val, joinN_snoc], ?_, by rw [hu]; exact extStep_bd h.bd hx, ?_, fun g h1 h2 => ?_, ?_⟩
  · have hr := h.row.of_blk (hB.block b hb)
    unfold WkRow at hr ⊢
    simp [World.setCell, Array.getElem?_modify, hr]
  · rcases hg with hg | hg
    · exact hg.elim
    · have := (hlt g hg).1
      exact heap_setCell_other _ ⟨b, 3, none⟩ g _ (by show g ≠ b; omega)
  · have h1 := extStep_len out ((x : Int), 1)
    have h2 := h.lim_
    rw [← hu] at h1; omega
  · exact (h.low.trans (hB.mono (by omega))).setCell (p := ⟨b, 3, none⟩) (Nat.le_refl _) _
  · exact (heap_setCell_other _ ⟨b, 3, none⟩ g _ h2).trans ((hB.block g h1).trans (h.blk g h1 h2))
  · have := h.size; have := hB.size; simp [World.setCell]; omega
end
/-- the first of the two nodes below a node -/
def kk (m i j : Nat) : List Nat := ([2 * i, 2 * i + 1].take j).filter fun x => decide (x < m)
theorem kk_succ {m i j : Nat} (hj : j < 2) : kk m i (j + 1) = kk m i j ++ (if 2 * i + j < m then [2 * i + j] else []) := by
  unfold kk
  rw [List.take_succ_eq_append_getElem (by simpa using hj), List.filter_append]
  congr 1
  have : [2 * i, 2 * i + 1][j]'(by simpa using hj) = 2 * i + j := by
    rcases j with _ | _ | j
    · rfl
    · rfl
    · omega
  rw [this]
  by_cases h : 2 * i + j < m <;> simp [h]
theorem kk_two {m i : Nat} (h : 2 * i < m) : kk m i 2 = if 2 * i + 1 < m then [2 * i, 2 * i + 1] else [2 * i] := by
  unfold kk
  by_cases h1 : 2 * i + 1 < m <;> simp [h, h1]
set_option maxHeartbeats 4000000 in
set_option maxRecDepth 100000 in
theorem descend_any (b n c pn pc fn fc L lc k : Nat) (s lf : Int) (A P F LA : Option Addr) (sent : Int) (done : Bool) (l : List (List Int)) (is : List Nat) (w : World) (hL : (toI is).length = L) (hl : L ≤ 4096) (hn : l.length = n) (hk : k + 1 < n) (hn4 : n ≤ 100000) (hi : ∀ i ∈ is, 2 * i < (l.getD k []).length) (hm : (l.getD k []).length ≤ 4096)
    (hrow : WkRow w b s lf A n c P pn pc ((k : Int) + 1) F fn fc sent done) (hA : SlAt (encSl encU64) w (fun g => g < w.heap.size ∧ g ≠ b) A l) (h1 : SlAt encInt w (fun g => g < w.heap.size ∧ g ≠ b) LA (toI is)) :
    Calls Try.prog 54 #[.pointer (some ⟨b, 0, none⟩), .slice LA L lc] w fun e w' => ∃ P' pc', e = .returned (.tuple #[]) ∧ (joinN (kids (l.getD k []).length is)).length ≤ pc' ∧ pc' ≤ maxLen ∧
      WkRow w' b s lf A n c P' (joinN (kids (l.getD k []).length is)).length pc' (k : Int) F fn fc sent done ∧ SlAt encExt w' (Nw w.heap.size w'.heap.size) P' (joinN (kids (l.getD k []).length is)) ∧ Below b w w' := by
  subst hL
  subst hn
  have hkl : k < l.length := by omega
  have hM0 : l.getD k [] = l[k] := by rw [List.getD_eq_getElem?_getD, List.getElem?_eq_getElem hkl]; rfl
  rw [hM0] at hi hm ⊢
  obtain ⟨M, hM⟩ : ∃ M, l[k].length = M := ⟨_, rfl⟩
  rw [hM] at hi hm ⊢
  have HM := Lib.hid hM
  have HI := Lib.hid hi; clear hi hM hM0
  rw [toI_len] at hl
  have hbl : b < w.heap.size := hrow.lt
  obtain ⟨c0, c1, c2, c3, c4, c5, c6, c7, cf⟩ := blk8 hrow
  obtain ⟨W0, hW0⟩ : ∃ W0, (w.setCell ⟨b, 4, none⟩ (.int .i64 (k : Int))).setCell ⟨b, 3, none⟩ (.slice none 0 0) = W0 := ⟨_, rfl⟩
  have hz0 : W0.heap.size = w.heap.size := by rw [← hW0]; simp [World.setCell]
  have hR0 : WkRow W0 b s lf A l.length c none 0 0 (k : Int) F fn fc sent done := by
    rw [← hW0]; unfold WkRow at hrow ⊢; simp [World.setCell, Array.getElem?_modify, hrow]
  obtain ⟨n1, hn1⟩ : ∃ n1, w.heap.size = n1 := ⟨_, rfl⟩
  have hbn : b < n1 := by omega
  have hoth : ∀ g, g ≠ b → W0.heap[g]? = w.heap[g]? := fun g hg => by rw [← hW0]; exact (heap_setCell_other _ ⟨b, 3, none⟩ g _ hg).trans (heap_setCell_other _ ⟨b, 4, none⟩ g _ hg)
  have hB0 : Below b w W0 := by rw [← hW0]; exact ((Below.refl _ _).setCell (p := ⟨b, 4, none⟩) (Nat.le_refl _) _).setCell (p := ⟨b, 3, none⟩) (Nat.le_refl _) _
  have HD0 : Hid (DesI w b l.length c fn fc s lf (k : Int) A F sent done n1 (kids M (is.take 0)) (2 * 0) none 0 [] W0) := ⟨hR0, Own.nil_, by simp [joinN, extsL, kids], by simp, by simp, hB0, fun g _ hg => hoth g hg, by omega⟩
  have HLA : Hid (∀ W, (∀ g, g < n1 → g ≠ b → W.heap[g]? = w.heap[g]?) → SlAt encInt W (fun g => g < n1 ∧ g ≠ b) LA (toI is)) := fun W hb => by
    rw [hn1] at h1; exact h1.blk (fun g hg => hb g hg.1 hg.2)
  have HAA : Hid (∀ W, (∀ g, g < n1 → g ≠ b → W.heap[g]? = w.heap[g]?) → SlAt (encSl encU64) W (fun g => g < n1 ∧ g ≠ b) A l) := fun W hb => by
    rw [hn1] at hA; exact hA.blk (fun g hg => hb g hg.1 hg.2)
  have HN1 := Lib.hid hn1
  clear h1 hA hrow hz0 hR0 hoth hB0
  have e1 : ((k : Int) + 1) - 1 = k := by omega
  have k0 : (0 : Int) ≤ k := by omega
  have k1 : (k : Int) ≤ 100000 := by omega
  go_enter Try.func54, Try.ntmps54
  go_upto_region 2 with (fail)
  try rw [hW0]
  clear c0 c1 c2 c3 c4 c5 c6 c7 cf hW0 e1
  go_wp2_with fail
  go_loopw [23] (fun i wr => ∃ (k' : Nat) (B : Option Addr) (vc : Nat) (out : List Ext), k' ≤ is.length ∧ i = .int .i64 k' ∧ Hid (DesI w b l.length c fn fc s lf (k : Int) A F sent done n1 (kids M (is.take k')) (2 * k') B vc out wr)) (fun i _ => is.length - (intOf i).toNat)
  case atStart => exact ⟨0, none, 0, [], by omega, rfl, HD0.out⟩
  case round =>
    obtain ⟨wo, rfl⟩ : ∃ wo : World, wo = wr := ⟨_, rfl⟩
    obtain ⟨k', B, vc, out, hk', rfl, hD⟩ := hrel
    have hszo := hD.out.size
    by_cases hlt : k' < is.length
    · have hlt' : k' < (toI is).length := by rw [toI_len]; exact hlt
      have hki : (k' : Int) < (toI is).length := by omega
      have hnn : (0 : Int) ≤ k' := by omega
      obtain ⟨b2, off, rfl, hb2, hc, hi64⟩ := (HLA.out wo hD.out.blk).int hlt'
      rw [toI_at hlt] at hc
      have hib := HI.out is[k'] (List.getElem_mem hlt)
      have hst := Lib.hid (kids_take_succ M hlt)
      obtain ⟨i, hi⟩ : ∃ i, is[k'] = i := ⟨_, rfl⟩
      rw [hi] at hc hib hst
      have hi0 : (0 : Int) ≤ i := by omega
      have hi4 : (i : Int) ≤ 4096 := by omega
      have hst2 := Lib.hid (kk_two hib)
      obtain ⟨rb, hrb⟩ : ∃ rb, wo.heap.size = rb := ⟨_, rfl⟩
      obtain ⟨W1, hW1⟩ : ∃ W1, wo.alloc (.cells #[.int .i64 (2 * (i : Int)), .int .i64 (2 * (i : Int) + 1)] 3) = W1 := ⟨_, rfl⟩
      have hb1 : Below wo.heap.size wo W1 := by rw [← hW1]; exact ext_alloc (Below.refl _ _)
      have hD1 := Lib.hid (hD.out.grow hbn hb1)
      have hr1 : Hid (W1.heap[rb]? = some (.cells #[.int .i64 (2 * (i : Int)), .int .i64 (2 * (i : Int) + 1)] 3 (0, 0))) := by rw [Hid, ← hW1, ← hrb]; exact heap_alloc_new _ _
      have ho1 : Hid (∀ g, (Value.slice B out.length vc).ownBlock = some g → g ≠ rb) := fun g hg => by have := (hD.out.own.lt g hg).2; omega
      have hz1 : rb < W1.heap.size := by rw [← hW1, ← hrb]; simp
      have HW1 := Lib.hid hW1
      have hnr : n1 ≤ rb := by omega
      clear hi hi64 hlt' hW1 hb1 hszo
      go_upto_region 6 with (fail)
      rw [HW1.out]
      clear hc
      go_loopw [34] (fun i2 wr => ∃ (j : Nat) (B : Option Addr) (vc : Nat) (out : List Ext), j ≤ 2 ∧ i2 = .int .i64 j ∧ Hid (DesI w b l.length c fn fc s lf (k : Int) A F sent done n1 (kids M (is.take k') ++ kk M i j) (2 * k' + j) B vc out wr) ∧ Hid (wr.heap[rb]? = some (.cells #[.int .i64 (2 * (i : Int)), .int .i64 (2 * (i : Int) + 1)] 3 (0, 0))) ∧ Hid (∀ g, (Value.slice B out.length vc).ownBlock = some g → g ≠ rb) ∧ rb < wr.heap.size) (fun i2 _ => 2 - (intOf i2).toNat)
      case atStart => exact ⟨0, B, vc, out, by omega, rfl, by rw [show kids M (is.take k') ++ kk M i 0 = kids M (is.take k') by simp [kk]]; exact hD1.out, hr1.out, ho1.out, hz1⟩
      case round =>
        clear hD hD1 hr1 ho1 hz1
        obtain ⟨wo2, rfl⟩ : ∃ wo2 : World, wo2 = wr := ⟨_, rfl⟩
        obtain ⟨j, B, vc, out, hj, rfl, hD, hr, ho, hz⟩ := hrel
        by_cases hj2 : j < 2
        · have hjI : (j : Int) < 2 := by omega
          have hj0 : (0 : Int) ≤ j := by omega
          obtain ⟨x, hx⟩ : ∃ x, 2 * i + j = x := ⟨_, rfl⟩
          have hcell : wo2.cell? ⟨rb, j, none⟩ = some (.int .i64 (x : Int)) := by
            rcases j with _ | _ | j
            · rw [cell_of_row wo2 rb 0 _ _ _ hr.out, ← hx]; simp
            · rw [cell_of_row wo2 rb 1 _ _ _ hr.out, ← hx]; simp
            · omega
          have hx4 : x ≤ 8191 := by omega
          have HKK := Lib.hid (kk_succ (m := M) (i := i) hj2)
          rw [hx] at HKK
          have HNO := Lib.hid (fun W' (hg : Drew wo2 W') => nodes_any b l.length c k s lf A B F out.length vc fn fc sent done l (fun g => g < n1 ∧ g ≠ b) W' rfl hkl hn4 ((hD.out.grow hbn (hg.below _)).row) (HAA.out W' (hD.out.grow hbn (hg.below _)).blk))
          have hlim := hD.out.lim_
          clear hx
          go_wp2_with fail
          refine (HNO.out _ (Drew.refl _)).mono ?_
          rintro e wN ⟨DD, dd, rfl, hd1, hd2, hDl, hdr⟩
          rw [HM.out] at hd1 ⊢
          have hDN := Lib.hid (hD.out.grow hbn (hdr.below _))
          have hrN : Hid (wN.heap[rb]? = some (.cells #[.int .i64 (2 * (i : Int)), .int .i64 (2 * (i : Int) + 1)] 3 (0, 0))) := by rw [Hid, hdr.heap]; exact hr.out
          have hzN : rb < wN.heap.size := by rw [hdr.heap]; exact hz
          clear hcell hDl hdr hr hz hD HNO
          by_cases hxm : x < M
          · have hxI : (x : Int) < M := by omega
            obtain ⟨c0, c1, c2, c3, c4, c5, c6, c7, cf⟩ := blk8 hDN.out.row
            have HAD := Lib.hid (cmpAdd_any n1 vc B out x wN hDN.out.size hDN.out.own (by omega) hDN.out.bd (by omega))
            go_wp2_with fail
            refine HAD.out.mono ?_
            rintro e w2 ⟨A2, c2', u, rfl, hu, ho2, hB2, hg2, hat2⟩
            have hD2 := hDN.out.add hbn (x := x) (by omega) hu ho2 hB2
            have hrow2 := hDN.out.row.of_blk (hB2.block b hbn)
            obtain ⟨_, _, _, d3, _, _, _, _, df⟩ := blk8 hrow2
            have HD2 := Lib.hid hD2
            have hr2 : Hid ((w2.setCell ⟨b, 3, none⟩ (.slice A2 u.length c2')).heap[rb]? = some (.cells #[.int .i64 (2 * (i : Int)), .int .i64 (2 * (i : Int) + 1)] 3 (0, 0))) :=
              (heap_setCell_other _ ⟨b, 3, none⟩ rb _ (by show rb ≠ b; omega)).trans ((hg2.block rb hzN (fun e => ho.out rb e.symm rfl)).trans hrN.out)
            have ho3 : Hid (∀ g, (Value.slice A2 u.length c2').ownBlock = some g → g ≠ rb) := by
              intro g hg
              rcases hat2 with h | ⟨g', h, h'⟩
              · exact ho.out g (h.symm.trans hg)
              · rw [h] at hg; injection hg with hg; omega
            have hz2 : rb < (w2.setCell ⟨b, 3, none⟩ (.slice A2 u.length c2')).heap.size := by have := hg2.size; simp [World.setCell]; omega
            have hkk2 : Hid (kids M (is.take k') ++ kk M i (j + 1) = kids M (is.take k') ++ kk M i j ++ [x]) := by rw [Hid, HKK.out, if_pos hxm, List.append_assoc]
            clear hu ho2 hg2 hat2 hB2 hrow2 hD2
            go_wp2
            go_roundw
            case rel => exact ⟨j + 1, A2, c2', u, by omega, by go_num, by rw [Hid, hkk2.out]; exact HD2.out.more (by omega), hr2.out, ho3.out, hz2⟩
            case measure => simp [intOf]; omega
          · have hxI : ¬ (x : Int) < M := by omega
            have hkk2 : Hid (kids M (is.take k') ++ kk M i (j + 1) = kids M (is.take k') ++ kk M i j) := by rw [Hid, HKK.out, if_neg hxm, List.append_nil]
            go_wp2
            go_roundw
            case rel => exact ⟨j + 1, B, vc, out, by omega, by go_num, by rw [Hid, hkk2.out]; exact hDN.out.more (by omega), hrN.out, ho.out, hzN⟩
            case measure => simp [intOf]; omega
        · have hjj : j = 2 := by omega
          subst hjj
          have hE : Hid (kids M (is.take (k' + 1)) = kids M (is.take k') ++ kk M i 2) := by rw [Hid, hst.out, hst2.out]
          go_wp2
          go_roundw
          case rel => exact ⟨k' + 1, B, vc, out, hlt, by go_num, by rw [Hid, hE.out]; exact hD.out.more (by omega)⟩
          case measure => simp [intOf]; omega
    · have hkk : k' = is.length := by omega
      subst hkk
      have hki : ¬ ((is.length : Nat) : Int) < (toI is).length := by rw [toI_len]; omega
      go_wp2
      go_end0
      have hd := hD.out
      rw [List.take_length] at hd
      have hw : OwnW encExt wo n1 n1 67 (.slice B out.length vc) out := Own.more hd.own (fun _ h => h.elim) (fun g e h => h.2 e)
      obtain ⟨_, p1, p2, p3⟩ := hw.parts
      have hv := hd.val
      rw [hv] at p1 p3
      have hr := hd.row
      rw [hv] at hr
      exact ⟨rfl, B, vc, p1, p2, hr, p3.more (fun g hg => ⟨by have := hg.1; have := HN1.out; omega, hg.2⟩), hd.low⟩
end Go.Proofs.Ytjehedfdikdfpaa
namespace Go.Proofs.Ytjehedfdikdfpaa

theorem levT_at {s lf : Int} {l : List (List Int)} {k : Nat} (hk : k < l.length) : levT (s, lf, l) (k : Int) = l[k] := by
  unfold levT
  simp only [Int.toNat_natCast]
  rw [List.getD_eq_getElem?_getD, List.getElem?_eq_getElem hk]; rfl
theorem wkE_ok {s lf lv sent : Int} {l : List (List Int)} {p f : List Ext} {done : Bool} (h : wkE ((s, lf, l), p, lv, f, sent, done) = 0) :
    checkT (s, lf, l) = 0 ∧ (∃ k : Nat, lv = k ∧ k < l.length) ∧ 0 ≤ sent ∧ sent ≤ 8192 ∧ (done = false → p ≠ [] ∧ f = [] ∧ extE p ((levT (s, lf, l) lv).length : Int) = 0) := by
  unfold wkE at h
  simp only at h
  split at h
  · rename_i h1; exact absurd h h1
  · rename_i h1
    split at h
    · omega
    · rename_i h2
      refine ⟨by simpa using h1, ⟨lv.toNat, by omega, by omega⟩, by omega, by omega, fun hd => ?_⟩
      subst hd
      rw [if_neg (by simp)] at h
      split at h
      · rename_i h3; exact h3
      · omega
/-- what a walk sends after an answer -/
def learnM (x : Wk) (m : Msg) : List Msg := if learnE x m ≠ 0 then [] else if x.2.2.1 = 0 ∨ learnD x m = [] then [] else [reqMsg (learnW x m)]
theorem mem_nums {N : Int} {es : List Ext} (h : extE es N = 0) : ∀ i ∈ numsL es, (i : Int) < N := by
  obtain ⟨_, h1, _⟩ := union_canon h
  intro i hi
  unfold numsL at hi
  obtain ⟨e, he, hi⟩ := List.mem_flatMap.1 hi
  obtain ⟨j, hj, rfl⟩ := List.mem_map.1 hi
  have := h1 e he
  have := List.mem_range.1 hj
  omega
theorem joinN_len : ∀ v : List Nat, (joinN v).length ≤ v.length := by
  refine snocRec ?_ ?_
  · simp [joinN, extsL]
  · intro v x ih
    rw [joinN_snoc]
    have := extStep_len (joinN v) ((x : Int), 1)
    rw [List.length_append, List.length_singleton]; omega
theorem dfr_mem {lev : List Int} : ∀ {ns : List Nat} {b : List Int}, ∀ i ∈ dfr lev b ns, i ∈ ns
  | [], b, i, hi => by simp [dfr] at hi
  | n :: ns, b, i, hi => by
    unfold dfr at hi
    rcases List.mem_append.1 hi with hi | hi
    · split at hi
      · simp at hi
      · simp at hi; simp [hi]
    · exact List.mem_cons_of_mem _ (dfr_mem i hi)
end Go.Proofs.Ytjehedfdikdfpaa
namespace Go.Proofs.Ytjehedfdikdfpaa
open Go.RowKit Go.Shelf
attribute [local go_sem] Oper.semAt_some

theorem run_eq_ext11 (w : World) (a b c d : Int) : (Op.equalIn 10000 67 (.agg #[.int .i64 a, .int .i64 b]) (.agg #[.int .i64 c, .int .i64 d])).run Try.prog w = .ok ((a, b) == (c, d)) w := by
  have und : Try.prog.underlying 67 = some (.struct (Try.prog.fieldsOf 67)) := by kernel_rfl
  have fld : (Try.prog.fieldsOf 67).toList = [(Try.prog.fieldsOf 67)[0]!, (Try.prog.fieldsOf 67)[1]!] := by kernel_rfl
  have n0 : (Try.prog.fieldsOf 67)[0]!.name = "Start" := by kernel_rfl
  have n1 : (Try.prog.fieldsOf 67)[1]!.name = "Count" := by kernel_rfl
  have p0 : ∀ w, (part (Try.prog.fieldsOf 67)[0]!.type #[.int .i64 a, .int .i64 b] (Try.prog.fieldsOf 67)[0]!.offset).run Try.prog w = .ok (.int .i64 a) w := by intro w; kernel_rfl
  have p1 : ∀ w, (part (Try.prog.fieldsOf 67)[1]!.type #[.int .i64 a, .int .i64 b] (Try.prog.fieldsOf 67)[1]!.offset).run Try.prog w = .ok (.int .i64 b) w := by intro w; kernel_rfl
  have q0 : ∀ w, (part (Try.prog.fieldsOf 67)[0]!.type #[.int .i64 c, .int .i64 d] (Try.prog.fieldsOf 67)[0]!.offset).run Try.prog w = .ok (.int .i64 c) w := by intro w; kernel_rfl
  have q1 : ∀ w, (part (Try.prog.fieldsOf 67)[1]!.type #[.int .i64 c, .int .i64 d] (Try.prog.fieldsOf 67)[1]!.offset).run Try.prog w = .ok (.int .i64 d) w := by intro w; kernel_rfl
  have t0 : Try.prog.underlying (Try.prog.fieldsOf 67)[0]!.type = some (.int .i64) := by kernel_rfl
  have t1 : Try.prog.underlying (Try.prog.fieldsOf 67)[1]!.type = some (.int .i64) := by kernel_rfl
  have h := run_equalIn_agg w 9999 67 #[.int .i64 a, .int .i64 b] #[.int .i64 c, .int .i64 d] und (by kernel_rfl)
  rw [fld] at h
  simp only [Op.eqFields, n0, n1, if_pos (show "Start" ≠ "_" by decide), if_pos (show "Count" ≠ "_" by decide), Sem.run_bind, Sem.run_ite, Sem.run_pure, p0, p1, q0, q1, Result.andThen_ok, run_equalIn_int _ 9998 _ .i64 .i64 _ _ t0, run_equalIn_int _ 9998 _ .i64 .i64 _ _ t1] at h
  refine h.trans ?_
  by_cases h1 : a = c <;> by_cases h2 : b = d <;> simp [h1, h2]
set_option maxHeartbeats 4000000 in
theorem eqExts_any (A A' : Option Addr) (c c' n n' : Nat) (S S' : Nat → Prop) (l m : List Ext) (r : Bool) (w : World) (hn : l.length = n) (hn' : m.length = n') (hr : decide (l = m) = r) (h1 : SlAt encExt w S A l) (h2 : SlAt encExt w S' A' m) (hs : n ≤ 9223372036854775807) (ht : n' ≤ 9223372036854775807) :
    Calls Try.prog 30 #[.slice A n c, .slice A' n' c'] w fun e w' => e = .returned (.bool r) ∧ Drew w w' := by
  subst hn hn'
  have HR := Lib.hid hr; clear hr
  by_cases hl : l.length = m.length
  · have hl' : (((l.length : Nat) : Int) != (m.length : Int)) = false := by simp [hl]
    have HL := Lib.hid hl; clear hl
    go_enter Try.func30, Try.ntmps30
    go_wp2
    go_loopw [13] (fun i wr => ∃ k : Nat, k ≤ l.length ∧ i = .int .i64 k ∧ Drew w wr ∧ Hid (l.take k = m.take k)) (fun i _ => l.length - (intOf i).toNat)
    case atStart => exact ⟨0, by omega, rfl, Drew.refl _, by simp [Hid]⟩
    case round =>
      obtain ⟨wo, rfl⟩ : ∃ wo : World, wo = wr := ⟨_, rfl⟩
      obtain ⟨k, hk, rfl, hd, hp⟩ := hrel
      replace h1 := h1.drew hd
      replace h2 := h2.drew hd
      by_cases hlt : k < l.length
      · have hlt2 : k < m.length := by have := HL.out; omega
        obtain ⟨b, off, rfl, _, g0, g1, _, _⟩ := h1.ext hlt
        obtain ⟨b', off', rfl, _, g0', g1', _, _⟩ := h2.ext hlt2
        have hnn : (0 : Int) ≤ k := by omega
        have hki : (k : Int) < l.length := by omega
        have hki2 : (k : Int) < m.length := by omega
        obtain ⟨x, hx⟩ : ∃ x, Hid (x = l[k]'hlt) := ⟨_, Lib.hid rfl⟩
        obtain ⟨y, hy⟩ : ∃ y, Hid (y = m[k]'hlt2) := ⟨_, Lib.hid rfl⟩
        rw [← hx.out] at g0 g1; rw [← hy.out] at g0' g1'; have HE := fun W => run_eq_ext11 W x.1 x.2 y.1 y.2
        by_cases hxy : x = y
        · have hxy' : ((x.1, x.2) == (y.1, y.2)) = true := by simp [hxy]
          have HXY := Lib.hid hxy; clear hxy
          go_wp2_with fail
          go_quiet (fail)
          go_wp2
          go_roundw
          case rel => exact ⟨k + 1, hlt, by go_num, hd.step _, take_step hlt hlt2 hp.out (by rw [← hx.out, ← hy.out]; exact HXY.out)⟩
          case measure => simp [intOf]; omega
        · have hxy' : ((x.1, x.2) == (y.1, y.2)) = false := by (have : (x.1, x.2) ≠ (y.1, y.2) := hxy; simpa using this)
          have hne : Hid (decide (l = m) = false) := by
            rw [Hid, decide_eq_false_iff_not]
            rintro rfl
            exact hxy (hx.out.trans hy.out.symm)
          clear hxy
          go_wp2_with fail
          go_quiet (fail)
          go_wp2
          go_ret
          rw [← HR.out, hne.out]
          exact ⟨rfl, hd.step _⟩
      · have hkk : k = l.length := by omega
        subst hkk
        go_wp2
        go_ret
        have e := hp.out
        rw [List.take_length, HL.out, List.take_length] at e
        rw [← HR.out]
        exact ⟨by simp [e], hd⟩
  · have hl' : (((l.length : Nat) : Int) != (m.length : Int)) = true := by simp; omega
    have hne : Hid (decide (l = m) = false) := by
      rw [Hid, decide_eq_false_iff_not]
      rintro rfl
      exact hl rfl
    clear hl
    go_enter Try.func30, Try.ntmps30
    go_wp2
    go_ret
    rw [← HR.out, hne.out]
    exact ⟨rfl, Drew.refl _⟩
end Go.Proofs.Ytjehedfdikdfpaa
namespace Go.Proofs.Ytjehedfdikdfpaa
open Go.RowKit Go.Shelf
attribute [local go_sem] Oper.semAt_some

def sN (k : Int) : Sec := [k, 0, 0, 0, 0, 0, 0, 0]
def awL : List Sec := [sN 1, sN 2, sN 3, sN 4, sN 5]
def awA : Int := digS [sN 1, sN 2]
def awB : Int := digS [sN 3, sN 4]
def awC : Int := digS [sN 5]
def awV (k : Int) : Array Value := #[.int .u8 1, .int .u8 0, .int .u8 0, .int .u8 0, .int .u8 0, .int .u8 0, .int .u8 0, .int .u8 0, .int .u8 2, .int .u8 0, .int .u8 0, .int .u8 0, .int .u8 0, .int .u8 0, .int .u8 0, .int .u8 0, .int .u8 3, .int .u8 0, .int .u8 0, .int .u8 0, .int .u8 0, .int .u8 0, .int .u8 0, .int .u8 0, .int .u8 4, .int .u8 0, .int .u8 0, .int .u8 0, .int .u8 0, .int .u8 0, .int .u8 0, .int .u8 0, .int .u8 k, .int .u8 0, .int .u8 0, .int .u8 0, .int .u8 0, .int .u8 0, .int .u8 0, .int .u8 0]
def awT (a b c : Int) : Tr := (5, 2, [[a, b, c], [pairD a b, c], [pairD (pairD a b) c]])
theorem litSl {α : Type} {E : Enc α} {W : World} {S S0 : Nat → Prop} {g : Nat} {T : TypeId} {cs : Array Value} {css : List (List Value)} {l : List α} (hg : W.heap[g]? = some (.cells cs T (0, 0))) (hcs : cs = css.flatten.toArray) (hr : All2 (E.rd W S0) css l) (h0 : ∀ b, S0 b → S b) (h1 : S g) (hn : ¬ S0 g) : SlAt E W S (some ⟨g, 0, none⟩) l := by
  have hsz := All2.sizes hr
  have hlen : css.flatten.length = l.length * E.size := by rw [flatten_len E.size css hsz, hr.length]
  intro hne
  refine ⟨g, 0, rfl, h1, fun i x hx => ?_⟩
  obtain ⟨cs', hc, hr'⟩ := hr.get hx
  refine ⟨cs', fun j u hu => ?_, Enc.more hr' h0⟩
  have hj : j < cs'.length := (List.getElem?_eq_some_iff.1 hu).1
  have hf := flatten_at _ _ _ _ _ _ hsz hc hu
  rw [cell_of_row _ _ _ _ _ _ hg, hcs]
  simp only [List.getElem?_toArray]
  have e : 0 + i * E.size + j = i * E.size + j := by omega
  rw [e]
  exact hf
theorem sN_ok (k : Int) (h : 0 ≤ k ∧ k < 256) : OkSec (sN k) := by
  refine ⟨rfl, fun x hx => ?_⟩
  simp [sN] at hx
  omega
theorem awOk (k : Int) (h : 0 ≤ k ∧ k < 256) {w : World} : All2 (encSec.rd w (fun _ => False)) ([sN 1, sN 2, sN 3, sN 4, sN k].map secV) [sN 1, sN 2, sN 3, sN 4, sN k] :=
  ⟨⟨rfl, sN_ok 1 (by omega)⟩, ⟨rfl, sN_ok 2 (by omega)⟩, ⟨rfl, sN_ok 3 (by omega)⟩, ⟨rfl, sN_ok 4 (by omega)⟩, ⟨rfl, sN_ok k h⟩, trivial⟩
theorem levels3 (a b c : Int) : levels [a, b, c] = [[a, b, c], [pairD a b, c], [pairD (pairD a b) c]] := by
  rw [levels_up (by simp), levels_up (by simp [upL]), levels_one (by simp [upL])]
  rfl
theorem awBuild : buildErr awL 2 = 0 ∧ buildT awL 2 = awT awA awB awC := by
  refine ⟨by decide, ?_⟩
  have h : digests awL 2 = [awA, awB, awC] := rfl
  rw [buildT_ok (by decide)]
  show ((5 : Int), (2 : Int), levels (digests awL 2)) = _
  rw [h, levels3]; rfl
theorem awCheck (a b c : Int) : checkT (awT a b c) = 0 := by
  have h1 : limN (awT a b c).1 (awT a b c).2.1 = 0 := rfl
  have h2 : shapeB (leavesN (awT a b c).1.toNat (awT a b c).2.1.toNat) (awT a b c).2.2 = true := by simp [shapeB, awT, leavesN]
  have h3 : levels ((awT a b c).2.2.headD []) = (awT a b c).2.2 := levels3 a b c
  unfold checkT
  rw [if_neg (by rw [h1]; decide), if_neg (by rw [h2]; decide), if_neg (by rw [h3]; exact fun h => h rfl)]
end Go.Proofs.Ytjehedfdikdfpaa
namespace Go.Proofs.Ytjehedfdikdfpaa
open Go.RowKit Go.Shelf
attribute [local go_sem] Oper.semAt_some

theorem shapeB_levels : ∀ (n : Nat) (v : List Int), v.length ≤ n → 1 ≤ v.length → shapeB v.length (levels v) = true
  | 0, v, h, h1 => by omega
  | n + 1, v, h, h1 => by
    by_cases h2 : v.length ≤ 1
    · rw [levels_one h2]
      have : v.length = 1 := by omega
      simp [shapeB, this]
    · rw [levels_up h2]
      have ih := shapeB_levels n (upL v) (by rw [upL_len]; omega) (by rw [upL_len]; omega)
      have hne := shapeB_ne ih
      cases hl : levels (upL v) with
      | nil => exact absurd hl hne
      | cons x r =>
        rw [hl, upL_len] at ih
        have h3 : (v.length != 1) = true := by simp; omega
        simp only [shapeB, beq_self_eq_true, h3, Bool.true_and]
        exact ih
theorem levels_head (v : List Int) : (levels v).headD [] = v := by
  by_cases h2 : v.length ≤ 1
  · rw [levels_one h2]; rfl
  · rw [levels_up h2]; rfl
theorem digests_len (l : List Sec) (m : Nat) : (digests l m).length = leavesN l.length m := by simp [digests]
/-- the tree over leaves is correct -/
theorem check_levels {n m : Nat} {v : List Int} (hn : 1 ≤ n ∧ n ≤ 4096) (hm : 1 ≤ m ∧ m ≤ 4096) (hv : v.length = leavesN n m) : checkT ((n : Int), (m : Int), levels v) = 0 := by
  have h1 : limN (n : Int) (m : Int) = 0 := by unfold limN; rw [if_neg (by omega), if_neg (by omega)]
  have h2 : shapeB (leavesN ((n : Int)).toNat ((m : Int)).toNat) (levels v) = true := by
    show shapeB (leavesN n m) (levels v) = true
    rw [← hv]
    exact shapeB_levels v.length v (Nat.le_refl _) (by rw [hv]; exact leavesN_pos hn.1 hm.1)
  simp only [checkT]
  rw [if_neg (by simpa using h1), if_neg (by rw [h2]; decide), if_neg (by rw [levels_head]; simp)]
theorem build_ok {l : List Sec} {m : Nat} (hn : 1 ≤ l.length ∧ l.length ≤ 4096) (hm : 1 ≤ m ∧ m ≤ 4096) : buildErr l (m : Int) = 0 ∧ buildT l (m : Int) = ((l.length : Int), (m : Int), levels (digests l m)) ∧ checkT ((l.length : Int), (m : Int), levels (digests l m)) = 0 := by
  have h1 : buildErr l (m : Int) = 0 := by unfold buildErr limN; rw [if_neg (by omega), if_neg (by omega)]
  exact ⟨h1, buildT_ok h1, check_levels hn hm (digests_len l m)⟩
end Go.Proofs.Ytjehedfdikdfpaa
namespace Go.Proofs.Ytjehedfdikdfpaa

theorem levels_ne (v : List Int) : levels v ≠ [] := by
  by_cases h : v.length ≤ 1
  · rw [levels_one h]; simp
  · rw [levels_up h]; simp
end Go.Proofs.Ytjehedfdikdfpaa
namespace Go.Proofs.Ytjehedfdikdfpaa

theorem lev_up : ∀ (k : Nat) (v : List Int), k + 1 < (levels v).length → (levels v).getD (k + 1) [] = upL ((levels v).getD k [])
  | k, v, h => by
    by_cases h1 : v.length ≤ 1
    · rw [levels_one h1] at h; simp at h
    · rw [levels_up h1] at h ⊢
      cases k with
      | zero =>
        have := levels_head (upL v)
        show (levels (upL v)).getD 0 [] = upL v
        cases hq : levels (upL v) with
        | nil => exact absurd hq (levels_ne _)
        | cons x r => rw [hq] at this; exact this
      | succ k =>
        show (levels (upL v)).getD (k + 1) [] = upL ((levels (upL v)).getD k [])
        exact lev_up k (upL v) (by simp at h; omega)
end Go.Proofs.Ytjehedfdikdfpaa
namespace Go.Proofs.Ytjehedfdikdfpaa

/-- the loop of Bound -/
def boundF : Nat → Nat → Nat → Nat
  | 0, _, _ => 0
  | f + 1, nodes, d => if 1 < nodes then min nodes (2 * min d ((nodes + 1) / 2)) + boundF f ((nodes + 1) / 2) d else 0
def boundE (size leaf d : Int) : Int := if size < 1 ∨ 4096 < size then 2 else if leaf < 1 ∨ 4096 < leaf then 1 else if d < 0 ∨ (leavesN size.toNat leaf.toNat : Int) < d then 2 else 0
def boundV (size leaf d : Int) : Int := if boundE size leaf d = 0 then 1 + (boundF 13 (leavesN size.toNat leaf.toNat) d.toNat : Nat) else 0
theorem boundF_le (d : Nat) : ∀ (f nodes : Nat), boundF f nodes d ≤ f * nodes
  | 0, _ => by simp [boundF]
  | f + 1, nodes => by
    have ih := boundF_le d f ((nodes + 1) / 2)
    unfold boundF
    split
    · have h1 : f * ((nodes + 1) / 2) ≤ f * nodes := Nat.mul_le_mul_left _ (by omega)
      have h2 : (f + 1) * nodes = f * nodes + nodes := Nat.succ_mul _ _
      omega
    · exact Nat.zero_le _
theorem boundF_stop {d : Nat} : ∀ (f : Nat) {nodes : Nat}, nodes ≤ 1 → boundF f nodes d = 0
  | 0, _, _ => rfl
  | f + 1, nodes, h => by unfold boundF; rw [if_neg (by omega)]
end Go.Proofs.Ytjehedfdikdfpaa
namespace Go.Proofs.Ytjehedfdikdfpaa

/-- how many digests are sent from a level on -/
def sentN (a b : List (List Int)) : Nat → List Nat → Nat
  | 0, v => v.length
  | k + 1, v => v.length + (if v.filter (df a b (k + 1)) = [] then 0 else sentN a b k (kids (a.getD k []).length (v.filter (df a b (k + 1)))))
def sentT (a b : Tr) : Int := if difErr a b = 0 then (sentN a.2.2 b.2.2 (a.2.2.length - 1) [0] : Nat) else 0

theorem kids_ne {n : Nat} {p : List Nat} (h : p ≠ []) : kids n p ≠ [] := by
  cases p with
  | nil => exact absurd rfl h
  | cons x r =>
    have : kids n (x :: r) = (if 2 * x + 1 < n then [2 * x, 2 * x + 1] else [2 * x]) ++ kids n r := rfl
    rw [this]; split <;> simp
def bsum (L d : Nat) : Nat → Nat
  | 0 => 0
  | k + 1 => bsum L d k + min (nk L k) (2 * min d (nk L (k + 1)))
def nsum (L : Nat) : Nat → Nat
  | 0 => 0
  | k + 1 => nsum L k + nk L k
theorem bsum_nsum (L d : Nat) : ∀ k, bsum L d k ≤ nsum L k
  | 0 => Nat.le_refl _
  | k + 1 => by have := bsum_nsum L d k; unfold bsum nsum; omega
theorem upL_at : ∀ (l : List Int) (i : Nat), (upL l).getD i 0 = if 2 * i + 1 < l.length then pairD (l.getD (2 * i) 0) (l.getD (2 * i + 1) 0) else l.getD (2 * i) 0
  | [], i => by simp [upL]
  | [x], i => by
    cases i with
    | zero => simp [upL]
    | succ i => simp [upL]
  | x :: y :: l, i => by
    cases i with
    | zero => simp [upL]
    | succ i =>
      have ih := upL_at l i
      have e1 : (upL (x :: y :: l)).getD (i + 1) 0 = (upL l).getD i 0 := by simp [upL]
      have e2 : (x :: y :: l).getD (2 * (i + 1)) 0 = l.getD (2 * i) 0 := by
        rw [show 2 * (i + 1) = 2 * i + 1 + 1 by omega]; simp
      have e3 : (x :: y :: l).getD (2 * (i + 1) + 1) 0 = l.getD (2 * i + 1) 0 := by
        rw [show 2 * (i + 1) + 1 = 2 * i + 1 + 1 + 1 by omega]; simp
      rw [e1, ih, e2, e3]
      simp only [List.length_cons]
      by_cases h : 2 * i + 1 < l.length
      · rw [if_pos h, if_pos (by omega)]
      · rw [if_neg h, if_neg (by omega)]
/-- below a node that differs one differs -/
theorem df_down {a b : List (List Int)} {k i : Nat} (ha : a.getD (k + 1) [] = upL (a.getD k [])) (hb : b.getD (k + 1) [] = upL (b.getD k [])) (hl : (a.getD k []).length = (b.getD k []).length) (h : df a b (k + 1) i = true) :
    df a b k (2 * i) = true ∨ (2 * i + 1 < (a.getD k []).length ∧ df a b k (2 * i + 1) = true) := by
  unfold df at h ⊢
  rw [ha, hb, upL_at, upL_at, ← hl] at h
  by_cases h1 : 2 * i + 1 < (a.getD k []).length
  · rw [if_pos h1, if_pos h1] at h
    by_cases e1 : (a.getD k []).getD (2 * i) 0 = (b.getD k []).getD (2 * i) 0
    · by_cases e2 : (a.getD k []).getD (2 * i + 1) 0 = (b.getD k []).getD (2 * i + 1) 0
      · rw [e1, e2] at h; simp at h
      · exact Or.inr ⟨h1, by rw [bne_iff_ne]; exact e2⟩
    · exact Or.inl (by rw [bne_iff_ne]; exact e1)
  · rw [if_neg h1, if_neg h1] at h
    exact Or.inl h
theorem dfs_ne {a b : List (List Int)} : ∀ (k i : Nat), (∀ j, j < k → a.getD (j + 1) [] = upL (a.getD j []) ∧ b.getD (j + 1) [] = upL (b.getD j []) ∧ (a.getD j []).length = (b.getD j []).length) → i < (a.getD k []).length → df a b k i = true → dfs a b k i ≠ []
  | 0, i, _, hi, hd => by unfold dfs; rw [decide_eq_true hi, hd]; simp
  | k + 1, i, h, hi, hd => by
    obtain ⟨h1, h2, h3⟩ := h k (by omega)
    have hlen : (a.getD (k + 1) []).length = ((a.getD k []).length + 1) / 2 := by rw [h1, upL_len]
    rw [dfs_step hi, if_pos hd]
    have hrec := fun j => dfs_ne (a := a) (b := b) k j (fun q hq => h q (by omega))
    rcases df_down h1 h2 h3 hd with e | ⟨e1, e2⟩
    · intro hn
      exact hrec (2 * i) (by omega) e (List.append_eq_nil_iff.1 hn).1
    · intro hn
      exact hrec (2 * i + 1) e1 e2 (List.append_eq_nil_iff.1 hn).2
theorem flat_len44 {α : Type} (g : Nat → List α) (f : Nat → Bool) : ∀ (v : List Nat), (∀ i ∈ v, f i = true → g i ≠ []) → (v.filter f).length ≤ (v.flatMap g).length
  | [], _ => by simp
  | x :: v, h => by
    have ih := flat_len44 g f v (fun i hi => h i (by simp [hi]))
    rw [List.flatMap_cons, List.length_append, List.filter_cons]
    by_cases hx : f x = true
    · have := List.length_pos_iff.2 (h x (by simp) hx)
      rw [if_pos hx, List.length_cons]; omega
    · rw [if_neg hx]; omega
theorem kids_asc (n : Nat) {p : List Nat} (h : p.Pairwise (· < ·)) : (kids n p).Pairwise (· < ·) := by
  induction p with
  | nil => exact List.Pairwise.nil
  | cons x r ih =>
    obtain ⟨h1, h2⟩ := List.pairwise_cons.1 h
    have e : kids n (x :: r) = (if 2 * x + 1 < n then [2 * x, 2 * x + 1] else [2 * x]) ++ kids n r := rfl
    rw [e]
    refine List.pairwise_append.2 ⟨?_, ih h2, ?_⟩
    · split <;> simp
    · intro y hy z hz
      obtain ⟨w, hw, hz⟩ := List.mem_flatMap.1 hz
      have := h1 w hw
      have hy2 : y ≤ 2 * x + 1 := by split at hy <;> simp at hy <;> omega
      have hz2 : 2 * w ≤ z := by split at hz <;> simp at hz <;> omega
      omega
theorem asc_len_le {N : Nat} : ∀ {v : List Nat} {a : Nat}, v.Pairwise (· < ·) → (∀ i ∈ v, a ≤ i ∧ i < N) → a ≤ N → v.length ≤ N - a
  | [], _, _, _, _ => by simp
  | x :: v, a, h, hb, ha => by
    obtain ⟨h1, h2⟩ := List.pairwise_cons.1 h
    have hx := hb x (by simp)
    have := asc_len_le (N := N) (a := x + 1) h2 (fun i hi => ⟨h1 i hi, (hb i (by simp [hi])).2⟩) (by omega)
    simp only [List.length_cons]; omega
/-- what two correct trees have in common, level by level -/
structure Two (L : Nat) (a b : List (List Int)) : Prop where
  len : a.length = b.length
  at_ : ∀ k, k < a.length → (a.getD k []).length = nk L k ∧ (b.getD k []).length = nk L k
  up : ∀ j, j + 1 < a.length → a.getD (j + 1) [] = upL (a.getD j []) ∧ b.getD (j + 1) [] = upL (b.getD j [])
theorem sent_bound {L : Nat} {a b : List (List Int)} (h : Two L a b) : ∀ (k : Nat) (v : List Nat), k < a.length → v.Pairwise (· < ·) → (∀ i ∈ v, i < nk L k) → sentN a b k v ≤ v.length + bsum L (fnd a b k v).length k
  | 0, v, _, _, _ => by simp [sentN, bsum]
  | k + 1, v, hk, hv, hb => by
    unfold sentN
    split
    · omega
    · rename_i hp
      have hlk := h.at_ k (by omega)
      have hlk1 := h.at_ (k + 1) hk
      have hup := h.up k hk
      have hn : nk L (k + 1) = (nk L k + 1) / 2 := nk_succ k L
      have hpv : (v.filter (df a b (k + 1))).Pairwise (· < ·) := List.Pairwise.filter _ hv
      have hpb : ∀ i ∈ v.filter (df a b (k + 1)), i < nk L (k + 1) := fun i hi => hb i (List.mem_filter.1 hi).1
      have hkb : ∀ j ∈ kids (a.getD k []).length (v.filter (df a b (k + 1))), j < nk L k := by
        rw [hlk.1]; exact kids_lt hn hpb
      have ih := sent_bound h k _ (by omega) (kids_asc _ hpv) hkb
      have hf : fnd a b (k + 1) v = fnd a b k (kids (a.getD k []).length (v.filter (df a b (k + 1)))) := rfl
      have hd : (v.filter (df a b (k + 1))).length ≤ (fnd a b (k + 1) v).length := by
        have hlen : ∀ j, j < k + 1 → (a.getD (j + 1) []).length = ((a.getD j []).length + 1) / 2 := fun j hj => by rw [(h.at_ (j + 1) (by omega)).1, (h.at_ j (by omega)).1, nk_succ]
        rw [fnd_dfs a b (k + 1) v hlen (fun i hi => by rw [hlk1.1]; exact hb i hi)]
        refine flat_len44 _ _ v (fun i hi he => dfs_ne (k + 1) i (fun j hj => ⟨(h.up j (by omega)).1, (h.up j (by omega)).2, ?_⟩) (by rw [hlk1.1]; exact hb i hi) he)
        have := h.at_ j (by omega); omega
      have hp1 := asc_len_le (N := nk L (k + 1)) (a := 0) hpv (fun i hi => ⟨Nat.zero_le _, hpb i hi⟩) (by omega)
      have hk1 := asc_len_le (N := nk L k) (a := 0) (kids_asc (a.getD k []).length hpv) (fun i hi => ⟨Nat.zero_le _, hkb i hi⟩) (by omega)
      have hk2 := kids_len (a.getD k []).length (v.filter (df a b (k + 1)))
      rw [← hf] at ih
      unfold bsum
      omega
theorem Two.of {n m : Nat} {l l' : List (List Int)} (h : TOk n m l) (h' : TOk n m l') : Two (leavesN n m) l l' := by
  have hll : l.length = l'.length := by
    have h0 := h.ne
    have h0' := h'.ne
    by_cases hc : l.length ≤ l'.length
    · have e := ((h.at_ (l.length - 1) (by omega)).2.1).2 (by omega)
      have := ((h'.at_ (l.length - 1) (by omega)).2.1).1 e
      omega
    · have e := ((h'.at_ (l'.length - 1) (by omega)).2.1).2 (by omega)
      have := ((h.at_ (l'.length - 1) (by omega)).2.1).1 e
      omega
  refine ⟨hll, fun k hk => ?_, fun j hj => ?_⟩
  · have hk' : k < l'.length := by omega
    rw [List.getD_eq_getElem?_getD, List.getD_eq_getElem?_getD, List.getElem?_eq_getElem hk, List.getElem?_eq_getElem hk']
    exact ⟨(h.at_ k hk).1, (h'.at_ k hk').1⟩
  · have e1 : j + 1 < (levels (l.headD [])).length := by rw [h.lev]; exact hj
    have e2 : j + 1 < (levels (l'.headD [])).length := by rw [h'.lev]; omega
    have q1 := lev_up j _ e1
    have q2 := lev_up j _ e2
    rw [h.lev] at q1
    rw [h'.lev] at q2
    exact ⟨q1, q2⟩
theorem Two.swap {L : Nat} {a b : List (List Int)} (h : Two L a b) : Two L b a :=
  ⟨h.len.symm, fun k hk => (h.at_ k (by rw [h.len]; exact hk)).symm, fun j hj => (h.up j (by rw [h.len]; exact hj)).symm⟩
/-- at most as many as the bound says, and as there are nodes -/
theorem sent_le {n m : Nat} {l l' : List (List Int)} (tk : TOk n m l) (tk' : TOk n m l') : sentN l l' (l.length - 1) [0] ≤ 1 + bsum (leavesN n m) (difN l l').length (l.length - 1) := by
  have h := Two.of tk tk'
  have h0 := tk.ne
  have h1 := (tk.at_ (l.length - 1) (by omega)).2.2.1
  have := sent_bound h (l.length - 1) [0] (by omega) (List.pairwise_singleton ..) (fun i hi => by rw [List.mem_singleton] at hi; omega)
  rw [List.length_singleton] at this
  exact this
theorem sent_nodes {n m : Nat} {l l' : List (List Int)} (tk : TOk n m l) (tk' : TOk n m l') : sentN l l' (l.length - 1) [0] ≤ nsum (leavesN n m) l.length := by
  have h1 := sent_le tk tk'
  have h0 := tk.ne
  have h2 := bsum_nsum (leavesN n m) (difN l l').length (l.length - 1)
  have h3 := (tk.at_ (l.length - 1) (by omega)).2.2.1
  have e : nsum (leavesN n m) l.length = nsum (leavesN n m) (l.length - 1) + nk (leavesN n m) (l.length - 1) := by
    have : l.length = (l.length - 1) + 1 := by omega
    conv => lhs; rw [this]
    rfl
  omega
end Go.Proofs.Ytjehedfdikdfpaa
namespace Go.Proofs.Ytjehedfdikdfpaa

theorem last_split {α : Type} {l : List α} {x : α} (h : l.getLast? = some x) : l = l.dropLast ++ [x] := by
  cases hl : l with
  | nil => rw [hl] at h; simp at h
  | cons y r =>
    rw [hl, List.getLast?_eq_some_getLast (by simp), Option.some.injEq] at h
    rw [← h, List.dropLast_concat_getLast]
/-- the extents of ascending numbers hold these numbers -/
theorem nums_join : ∀ ns : List Nat, ns.Pairwise (· < ·) → (∀ e ∈ joinN ns, 0 ≤ e.1 ∧ 0 < e.2) ∧ numsL (joinN ns) = ns := by
  refine snocRec ?_ ?_
  · intro _; exact ⟨fun e he => by simp [joinN, extsL] at he, by simp [joinN, extsL, numsL]⟩
  · intro ns i ih hp
    rw [List.pairwise_append] at hp
    obtain ⟨ih1, ih2⟩ := ih hp.1
    unfold joinN at ih1 ih2 ⊢
    rw [List.map_append, List.map_singleton, extsL_snoc]
    generalize extsL (ns.map fun n : Nat => ((n : Int), (1 : Int))) = out at ih1 ih2
    have hone : numsL [((i : Int), (1 : Int))] = [i] := by simp [numsL]
    unfold extStep
    cases hg : out.getLast? with
    | none =>
      have : out = [] := by simpa using hg
      subst this
      have hn : ns = [] := by rw [← ih2]; simp [numsL]
      subst hn
      refine ⟨fun e he => ?_, by simpa using hone⟩
      have he : e = ((i : Int), (1 : Int)) := by simpa using he
      subst he
      exact ⟨by simp, by simp⟩
    | some sc =>
      obtain ⟨s, c⟩ := sc
      have hsp := last_split hg
      obtain ⟨hs, hc⟩ := ih1 (s, c) (by rw [hsp]; simp)
      simp only at hs hc
      simp only
      split
      · rename_i he
        refine ⟨fun e hm' => ?_, ?_⟩
        · rcases List.mem_append.1 hm' with hm' | hm'
          · exact ih1 e (by rw [hsp]; simp [hm'])
          · have : e = (s, c + 1) := by simpa using hm'
            subst this
            exact ⟨hs, by simp only; omega⟩
        · have e2 : numsL out = numsL out.dropLast ++ numsL [(s, c)] := by
            conv => lhs; rw [hsp]
            rw [numsL_app]
          rw [e2] at ih2
          rw [numsL_app, ← ih2, List.append_assoc]
          congr 1
          have e3 : (c + 1).toNat = c.toNat + 1 := by omega
          simp only [numsL, List.flatMap_cons, List.flatMap_nil, List.append_nil, e3, List.range_succ, List.map_append, List.map_singleton]
          congr 2
          omega
      · refine ⟨fun e hm' => ?_, by rw [numsL_app, ih2, hone]⟩
        rcases List.mem_append.1 hm' with hm' | hm'
        · exact ih1 e hm'
        · have : e = ((i : Int), (1 : Int)) := by simpa using hm'
          subst this
          exact ⟨by simp, by simp⟩
end Go.Proofs.Ytjehedfdikdfpaa
namespace Go.Proofs.Ytjehedfdikdfpaa

/-- the extents of ascending numbers are canonical -/
theorem join_ok {N : Nat} : ∀ ns : List Nat, ns.Pairwise (· < ·) → (∀ i ∈ ns, i < N) → exE N 0 (joinN ns) = 0 ∧ (∀ s c, (joinN ns).getLast? = some (s, c) → ∃ i ∈ ns, s + c = (i : Int) + 1 ∧ ∀ j ∈ ns, j ≤ i) := by
  refine snocRec ?_ ?_
  · intro _ _; exact ⟨rfl, fun s c h => by simp [joinN, extsL] at h⟩
  · intro ns i ih hp hb
    rw [List.pairwise_append] at hp
    obtain ⟨ih1, ih2⟩ := ih hp.1 (fun x hx => hb x (by simp [hx]))
    have hi := hb i (by simp)
    have hlt : ∀ j ∈ ns, j < i := fun j hj => hp.2.2 j hj i (by simp)
    unfold joinN at ih1 ih2 ⊢
    rw [List.map_append, List.map_singleton, extsL_snoc]
    generalize extsL (ns.map fun n : Nat => ((n : Int), (1 : Int))) = out at ih1 ih2
    unfold extStep
    have hmax : ∀ j ∈ ns ++ [i], j ≤ i := fun j hj => by
      rcases List.mem_append.1 hj with hj | hj
      · exact Nat.le_of_lt (hlt j hj)
      · rw [List.mem_singleton] at hj; omega
    cases hg : out.getLast? with
    | none =>
      have : out = [] := by simpa using hg
      subst this
      refine ⟨?_, fun s c h => ?_⟩
      · show exE N 0 [((i : Int), (1 : Int))] = 0
        unfold exE
        rw [if_neg (by simp), if_neg (by simp only; omega), if_neg (by simp only; omega)]; rfl
      · have h : ((i : Int), (1 : Int)) = (s, c) := by simpa using h
        obtain ⟨rfl, rfl⟩ := Prod.mk.inj h
        exact ⟨i, by simp, rfl, hmax⟩
    | some sc =>
      obtain ⟨s, c⟩ := sc
      have hsp := last_split hg
      obtain ⟨i0, hi0, hsc, _⟩ := ih2 s c hg
      have hm := exE_mem ih1
      have hscm := hm.1 (s, c) (by rw [hsp]; simp)
      have h0i := hlt i0 hi0
      have hdl : exE N 0 out.dropLast = 0 := by
        by_cases h : exE N 0 out.dropLast = 0
        · exact h
        · have := exE_app (m := [(s, c)]) h
          rw [← hsp] at this
          omega
      have hlast := exE_snoc (s, c) hdl
      rw [← hsp, ih1] at hlast
      simp only
      split
      · rename_i he
        refine ⟨?_, fun s' c' h => ?_⟩
        · rw [exE_snoc _ hdl]
          simp only at hlast hscm he ⊢
          split at hlast
          · omega
          · split at hlast
            · omega
            · split at hlast
              · omega
              · rw [if_neg (by omega), if_neg (by omega), if_neg (by omega)]
        · have h : (s, c + 1) = (s', c') := by simpa using h
          obtain ⟨rfl, rfl⟩ := Prod.mk.inj h
          exact ⟨i, by simp, (by have he' : s + c = (i : Int) := he; omega), hmax⟩
      · rename_i he
        refine ⟨?_, fun s' c' h => ?_⟩
        · rw [exE_snoc _ ih1]
          have e1 : nextE 0 out = s + c + 1 := by unfold nextE; rw [hg]; rfl
          rw [e1]
          simp only at he ⊢
          rw [if_neg (by omega), if_neg (by omega), if_neg (by omega)]
        · have h : ((i : Int), (1 : Int)) = (s', c') := by simpa using h
          obtain ⟨rfl, rfl⟩ := Prod.mk.inj h
          exact ⟨i, by simp, rfl, hmax⟩

theorem le8_len (d : Int) : (le8 d).length = 8 := by simp [le8]
theorem u64_top (d : Int) (h : 0 ≤ d ∧ d < 18446744073709551616) : d = byteOf d 0 + 256 * (byteOf d 1 + 256 * (byteOf d 2 + 256 * (byteOf d 3 + 256 * (byteOf d 4 + 256 * (byteOf d 5 + 256 * (byteOf d 6 + 256 * byteOf d 7)))))) := by
  unfold byteOf
  simp only [Nat.mul_zero, Nat.mul_one, Nat.reduceMul, Int.pow_zero, Int.reducePow]
  omega
theorem le8_inj {c d : Int} (hc : 0 ≤ c ∧ c < 18446744073709551616) (hd : 0 ≤ d ∧ d < 18446744073709551616) (h : le8 c = le8 d) : c = d := by
  have hb : ∀ i, i < 8 → byteOf c i = byteOf d i := fun i hi => by
    have h1 : (le8 c)[i]? = (le8 d)[i]? := by rw [h]
    simpa [le8, hi] using h1
  rw [u64_top c hc, u64_top d hd, hb 0 (by omega), hb 1 (by omega), hb 2 (by omega), hb 3 (by omega), hb 4 (by omega), hb 5 (by omega), hb 6 (by omega), hb 7 (by omega)]
/-- behind an answer with the other side's digests those remain that differ -/
theorem dfr_body (lev lev' : List Int) (hu : ∀ x ∈ lev, 0 ≤ x ∧ x < 18446744073709551616) (hu' : ∀ x ∈ lev', 0 ≤ x ∧ x < 18446744073709551616) : ∀ ns : List Nat,
    dfr lev (ns.flatMap fun n => le8 (lev'.getD n 0)) ns = ns.filter fun n => lev.getD n 0 != lev'.getD n 0
  | [] => rfl
  | n :: ns => by
    have hg : ∀ (l : List Int), (∀ x ∈ l, 0 ≤ x ∧ x < 18446744073709551616) → 0 ≤ l.getD n 0 ∧ l.getD n 0 < 18446744073709551616 := fun l h => by
      rw [List.getD_eq_getElem?_getD]
      cases hq : l[n]? with
      | none => simp
      | some x => exact h x (List.mem_of_getElem? hq)
    have ih := dfr_body lev lev' hu hu' ns
    rw [List.flatMap_cons]
    unfold dfr
    rw [List.take_left' (le8_len _), List.drop_left' (le8_len _), ih, List.filter_cons]
    by_cases he : lev.getD n 0 = lev'.getD n 0
    · rw [if_pos (by rw [he]), if_neg (by rw [bne_iff_ne]; exact fun h => h he)]; rfl
    · rw [if_neg (fun h => he (le8_inj (hg lev' hu') (hg lev hu) h).symm), if_pos (by rw [bne_iff_ne]; exact he)]; rfl
/-- the walk at a level -/
def stW (t : Tr) (k : Nat) (v : List Nat) (s : Nat) : Wk := (t, joinN v, (k : Int), [], (s : Int), false)
/-- the other side's answer -/
def ansM (t : Tr) (b : List (List Int)) (k : Nat) (v : List Nat) : Msg := (14, 0, 0, (k : Int), 0, 0, reqV t (joinN v), v.flatMap fun n => le8 ((b.getD k []).getD n 0))
end Go.Proofs.Ytjehedfdikdfpaa
namespace Go.Proofs.Ytjehedfdikdfpaa

theorem kids_nil (n : Nat) : kids n [] = [] := rfl
theorem fnd_nil (a b : List (List Int)) : ∀ k, fnd a b k [] = []
  | 0 => rfl
  | k + 1 => by unfold fnd; rw [List.filter_nil, kids_nil, fnd_nil a b k]
theorem opL_nil : opL or ([] : List Ext) [] = [] := by
  rw [opL_exts (es := []) List.Pairwise.nil (fun e he => by simp at he)]; rfl
theorem nk_mono : ∀ (k : Nat) {a b : Nat}, a ≤ b → nk a k ≤ nk b k
  | 0, _, _, h => h
  | k + 1, _, _, h => by rw [nk_succ, nk_succ]; have := nk_mono k h; omega
theorem nsum_mono : ∀ (k : Nat) {a b : Nat}, a ≤ b → nsum a k ≤ nsum b k
  | 0, _, _, _ => Nat.le_refl _
  | k + 1, _, _, h => by unfold nsum; have := nsum_mono k h; have := nk_mono k h; omega
theorem nsum_le : ∀ {j k : Nat} (L : Nat), j ≤ k → nsum L j ≤ nsum L k := by
  intro j k L h
  induction k with
  | zero => have : j = 0 := by omega
            subst this; exact Nat.le_refl _
  | succ k ih =>
    by_cases e : j = k + 1
    · subst e; exact Nat.le_refl _
    · have := ih (by omega)
      show nsum L j ≤ nsum L k + nk L k
      omega
theorem nsum_top : nsum 4096 13 = 8191 := by decide
/-- how many digests were sent before a level, at most -/
def above (L T k : Nat) : Nat := nsum L T - nsum L k
theorem runs_len {n m : Nat} {l : List (List Int)} (tk : TOk n m l) : nsum (leavesN n m) l.length ≤ 8192 := by
  have h1 := leavesN_le (n := n) (m := m) tk.m1
  have h2 := tk.n2
  have h3 := nsum_mono l.length (show leavesN n m ≤ 4096 by omega)
  have h4 := nsum_le 4096 tk.len
  rw [nsum_top] at h4
  omega
theorem joinN_ne {v : List Nat} (hv : v.Pairwise (· < ·)) (h : v ≠ []) : joinN v ≠ [] := by
  intro e
  have := (nums_join v hv).2
  rw [e] at this
  exact h this.symm
section
variable {n m : Nat} {l l' : List (List Int)}
theorem walk_ok {k : Nat} {v : List Nat} {s : Nat} (hc : checkT ((n : Int), (m : Int), l) = 0) (tk : TOk n m l) (hk : k < l.length) (hv : v.Pairwise (· < ·)) (hb : ∀ i ∈ v, i < nk (leavesN n m) k) (hne : v ≠ []) (hs : s ≤ 8192) :
    wkE (stW ((n : Int), (m : Int), l) k v s) = 0 := by
  unfold wkE stW
  simp only
  have hlev : levT ((n : Int), (m : Int), l) (k : Int) = l[k] := by
    unfold levT
    simp only [Int.toNat_natCast]
    rw [List.getD_eq_getElem?_getD, List.getElem?_eq_getElem hk]; rfl
  have hat := tk.at_ k hk
  rw [if_neg (by rw [hc]; simp), if_neg (by simp; omega), if_neg (by simp), hlev, hat.1]
  refine if_pos ⟨joinN_ne hv hne, by first | trivial | rfl, ?_⟩
  unfold extE
  rw [if_neg (by omega)]
  exact (join_ok v hv hb).1
theorem learn_ok {k : Nat} {v : List Nat} {s : Nat} (hc : checkT ((n : Int), (m : Int), l) = 0) (tk : TOk n m l) (hk : k < l.length) (hv : v.Pairwise (· < ·)) (hb : ∀ i ∈ v, i < nk (leavesN n m) k) (hne : v ≠ []) (hs : s ≤ 8192) :
    learnE (stW ((n : Int), (m : Int), l) k v s) (ansM ((n : Int), (m : Int), l) l' k v) = 0 := by
  unfold learnE
  rw [if_neg (by rw [walk_ok hc tk hk hv hb hne hs]; simp)]
  unfold stW ansM
  simp only
  rw [if_neg (by simp), if_neg (by simp), if_neg (by simp), (nums_join v hv).2]
  refine if_neg ?_
  have : ∀ v : List Nat, (v.flatMap fun n => le8 ((l'.getD k []).getD n 0)).length = 8 * v.length := by
    intro v
    induction v with
    | nil => rfl
    | cons x v ih => rw [List.flatMap_cons, List.length_append, le8_len, ih, List.length_cons]; omega
  rw [this]; simp
theorem learn_dif {k : Nat} {v : List Nat} {s : Nat} (hv : v.Pairwise (· < ·)) (hu : ∀ x ∈ l.getD k [], 0 ≤ x ∧ x < 18446744073709551616) (hu' : ∀ x ∈ l'.getD k [], 0 ≤ x ∧ x < 18446744073709551616) :
    learnD (stW ((n : Int), (m : Int), l) k v s) (ansM ((n : Int), (m : Int), l) l' k v) = v.filter (df l l' k) := by
  unfold learnD stW ansM levT
  simp only [Int.toNat_natCast]
  rw [(nums_join v hv).2, dfr_body _ _ hu hu']
  rfl
/-- the walk that goes on: the nodes that differ, and their digests -/
def runW (t : Tr) (b : List (List Int)) : Nat → List Nat → Nat → Wk
  | 0, v, s => (t, [], 0, opL or ((v.filter (df t.2.2 b 0)).map (leafE t.1.toNat t.2.1.toNat)) [], ((s + v.length : Nat) : Int), true)
  | k + 1, v, s => if v.filter (df t.2.2 b (k + 1)) = [] then (t, [], 0, [], ((s + v.length : Nat) : Int), true) else runW t b k (kids (t.2.2.getD k []).length (v.filter (df t.2.2 b (k + 1)))) (s + v.length)
theorem runW_end (t : Tr) (b : List (List Int)) : ∀ (k : Nat) (v : List Nat) (s : Nat), runW t b k v s = (t, [], 0, opL or ((fnd t.2.2 b k v).map (leafE t.1.toNat t.2.1.toNat)) [], ((s + sentN t.2.2 b k v : Nat) : Int), true)
  | 0, v, s => rfl
  | k + 1, v, s => by
    unfold runW sentN
    split
    · rename_i h
      have e : fnd t.2.2 b (k + 1) v = [] := by
        show fnd t.2.2 b k (kids _ (v.filter _)) = []
        rw [h, kids_nil, fnd_nil]
      rw [e, List.map_nil, opL_nil]; rfl
    · rw [runW_end t b k]
      have e : s + v.length + sentN t.2.2 b k (kids (t.2.2.getD k []).length (v.filter (df t.2.2 b (k + 1)))) = s + (v.length + sentN t.2.2 b k (kids (t.2.2.getD k []).length (v.filter (df t.2.2 b (k + 1))))) := by omega
      rw [e]; rfl
/-- what a right answer leads to, level by level -/
theorem learn_next {k : Nat} {v : List Nat} {s : Nat} (hc : checkT ((n : Int), (m : Int), l) = 0) (tk : TOk n m l) (hk : k < l.length) (hv : v.Pairwise (· < ·)) (hb : ∀ i ∈ v, i < nk (leavesN n m) k) (hne : v ≠ []) (hs : s ≤ 8192)
    (hu : ∀ x ∈ l.getD k [], 0 ≤ x ∧ x < 18446744073709551616) (hu' : ∀ x ∈ l'.getD k [], 0 ≤ x ∧ x < 18446744073709551616) :
    learnW (stW ((n : Int), (m : Int), l) k v s) (ansM ((n : Int), (m : Int), l) l' k v) =
      if k = 0 ∨ v.filter (df l l' k) = [] then runW ((n : Int), (m : Int), l) l' k v s
      else stW ((n : Int), (m : Int), l) (k - 1) (kids (l.getD (k - 1) []).length (v.filter (df l l' k))) (s + v.length) := by
  unfold learnW
  rw [if_neg (by rw [learn_ok hc tk hk hv hb hne hs]; simp), learn_dif hv hu hu']
  have e1 : numsL (stW ((n : Int), (m : Int), l) k v s).2.1 = v := (nums_join v hv).2
  rw [e1]
  cases k with
  | zero =>
    rw [if_pos (show (0 : Nat) = 0 ∨ v.filter (df l l' 0) = [] from Or.inl rfl), if_pos (show (stW ((n : Int), (m : Int), l) 0 v s).2.2.1 = 0 from rfl)]
    unfold runW stW
    simp only [Int.natCast_add]
  | succ k =>
    rw [if_neg (show ¬ (stW ((n : Int), (m : Int), l) (k + 1) v s).2.2.1 = 0 by show ¬ ((k + 1 : Nat) : Int) = 0; omega)]
    by_cases hf : v.filter (df l l' (k + 1)) = []
    · rw [if_pos hf, if_pos (Or.inr hf)]
      unfold runW stW
      simp only [Int.natCast_add]
      rw [if_pos hf]
    · rw [if_neg hf, if_neg (by rintro (h | h); omega; exact hf h)]
      unfold stW levT
      simp only [Int.natCast_add, Nat.add_sub_cancel]
      have e2 : ((k : Int) + (1 : Nat) - 1) = k := by omega
      have e3 : ((k : Int) + (1 : Nat) - 1).toNat = k := by omega
      rw [e3]
      simp only [Prod.mk.injEq, and_true, true_and]
      first | exact ⟨rfl, by omega⟩ | omega | exact ⟨by omega, by omega⟩
end
end Go.Proofs.Ytjehedfdikdfpaa
namespace Go.Proofs.Ytjehedfdikdfpaa

theorem flat_getD : ∀ (p : List Ext) (i : Nat) (h : i < p.length), (p.flatMap fun x => [x.1, x.2]).getD (2 * i) 0 = p[i].1 ∧ (p.flatMap fun x => [x.1, x.2]).getD (2 * i + 1) 0 = p[i].2
  | x :: p, 0, _ => ⟨rfl, rfl⟩
  | x :: p, i + 1, h => by
    have ih := flat_getD p i (by simpa using h)
    have e : (x :: p).flatMap (fun x => [x.1, x.2]) = x.1 :: x.2 :: p.flatMap fun x => [x.1, x.2] := rfl
    rw [e, show 2 * (i + 1) = 2 * i + 1 + 1 by omega, List.getElem_cons_succ]
    exact ih
theorem pairsL_reqL (a b : Int) (p : List Ext) : pairsL (reqL a b p) = p := by
  have hl := reqL_len a b p
  unfold pairsL
  rw [hl, show (2 + 2 * p.length - 2) / 2 = p.length by omega]
  refine List.ext_getElem (by simp) (fun i h1 h2 => ?_)
  have h := flat_getD p i h2
  rw [List.getElem_map, List.getElem_range]
  unfold reqL
  rw [show 2 + 2 * i = 2 * i + 1 + 1 by omega, show 3 + 2 * i = 2 * i + 1 + 1 + 1 by omega]
  show ((p.flatMap fun x => [x.1, x.2]).getD (2 * i) 0, (p.flatMap fun x => [x.1, x.2]).getD (2 * i + 1) 0) = p[i]
  rw [h.1, h.2]
theorem tok_same {n m : Nat} {l l' : List (List Int)} (h : TOk n m l) (h' : TOk n m l') : l.length = l'.length := by
  have h0 := h.ne
  have h0' := h'.ne
  rcases Nat.lt_trichotomy l.length l'.length with g | g | g
  · have a := (h.at_ (l.length - 1) (by omega)).2.1.2 (by omega)
    have b := (h'.at_ (l.length - 1) (by omega)).2.1.1 a
    omega
  · exact g
  · have a := (h'.at_ (l'.length - 1) (by omega)).2.1.2 (by omega)
    have b := (h.at_ (l'.length - 1) (by omega)).2.1.1 a
    omega
section
variable {n m : Nat} {l l' : List (List Int)}
theorem ans_ok {k : Nat} {v : List Nat} {s : Nat} (hc' : checkT ((n : Int), (m : Int), l') = 0) (tk : TOk n m l) (tk' : TOk n m l') (hk : k < l.length) (hv : v.Pairwise (· < ·)) (hb : ∀ i ∈ v, i < nk (leavesN n m) k) :
    ansE ((n : Int), (m : Int), l') (reqMsg (stW ((n : Int), (m : Int), l) k v s)) = 0 ∧ ansV ((n : Int), (m : Int), l') (reqMsg (stW ((n : Int), (m : Int), l) k v s)) = ansM ((n : Int), (m : Int), l) l' k v := by
  have hk' : k < l'.length := by rw [← tok_same tk tk']; exact hk
  obtain ⟨hat, _, _, h4⟩ := tk'.at_ k hk'
  have hlev := levT_at (s := (n : Int)) (lf := (m : Int)) hk'
  have hE : ansE ((n : Int), (m : Int), l') (reqMsg (stW ((n : Int), (m : Int), l) k v s)) = 0 := by
    unfold ansE reqMsg stW
    simp only
    rw [if_neg (by rw [hc']; simp), if_neg (by simp), if_neg (by rw [reqL_len]; omega), if_neg (by unfold reqL; simp), if_neg (by omega), pairsL_reqL, hlev, hat]
    refine if_neg ?_
    unfold extE
    rw [if_neg (by omega)]
    simpa using (join_ok v hv hb).1
  refine ⟨hE, ?_⟩
  unfold ansV
  rw [if_neg (by rw [hE]; simp)]
  unfold reqMsg stW ansM bodyOf
  simp only
  rw [pairsL_reqL, (nums_join v hv).2]
  rfl
end
/-- what holds between two rounds of Run: either the walk goes on, or it is done -/
def RunI (n m : Nat) (l l2 : List (List Int)) (fin x : Wk) (ms : List Msg) : Prop :=
  (∃ k v s, x = stW ((n : Int), (m : Int), l) k v s ∧ ms = [reqMsg x] ∧ k < l.length ∧ v.Pairwise (· < ·) ∧ (∀ i ∈ v, i < nk (leavesN n m) k) ∧ v ≠ [] ∧ s + sentN l l2 k v ≤ 8192 ∧ runW ((n : Int), (m : Int), l) l2 k v s = fin) ∨ (x = fin ∧ ms = [])
theorem runI_step {n m : Nat} {l l2 : List (List Int)} {k : Nat} {v : List Nat} {s : Nat} {fin : Wk} (hc : checkT ((n : Int), (m : Int), l) = 0) (tk : TOk n m l) (hu : ∀ row ∈ l, ∀ x ∈ row, 0 ≤ x ∧ x < 18446744073709551616) (hu2 : ∀ row ∈ l2, ∀ x ∈ row, 0 ≤ x ∧ x < 18446744073709551616)
    (hk : k < l.length) (hv : v.Pairwise (· < ·)) (hb : ∀ i ∈ v, i < nk (leavesN n m) k) (hne : v ≠ []) (hs : s + sentN l l2 k v ≤ 8192) (hf : runW ((n : Int), (m : Int), l) l2 k v s = fin) :
    learnE (stW ((n : Int), (m : Int), l) k v s) (ansM ((n : Int), (m : Int), l) l2 k v) = 0 ∧ RunI n m l l2 fin (learnW (stW ((n : Int), (m : Int), l) k v s) (ansM ((n : Int), (m : Int), l) l2 k v)) (learnM (stW ((n : Int), (m : Int), l) k v s) (ansM ((n : Int), (m : Int), l) l2 k v)) ∧
      (learnM (stW ((n : Int), (m : Int), l) k v s) (ansM ((n : Int), (m : Int), l) l2 k v) = [] ∨ (learnW (stW ((n : Int), (m : Int), l) k v s) (ansM ((n : Int), (m : Int), l) l2 k v)).2.2.1 < (k : Int)) := by
  have hg : ∀ {l : List (List Int)} {j : Nat}, (∀ row ∈ l, ∀ x ∈ row, 0 ≤ x ∧ x < 18446744073709551616) → ∀ x ∈ l.getD j [], 0 ≤ x ∧ x < 18446744073709551616 := fun {l j} h x hx => by
    rw [List.getD_eq_getElem?_getD] at hx
    cases hq : l[j]? with
    | none => rw [hq] at hx; simp at hx
    | some r => rw [hq] at hx; exact h r (List.mem_of_getElem? hq) x hx
  have hs0 : s ≤ 8192 := by omega
  have hE := learn_ok (l' := l2) hc tk hk hv hb hne hs0
  have hD := learn_dif (n := n) (m := m) (l := l) (l' := l2) (k := k) (v := v) (s := s) hv (hg hu) (hg hu2)
  have hW := learn_next (l' := l2) hc tk hk hv hb hne hs0 (hg hu) (hg hu2)
  refine ⟨hE, ?_⟩
  have hlev : (stW ((n : Int), (m : Int), l) k v s).2.2.1 = (k : Int) := rfl
  have hM : learnM (stW ((n : Int), (m : Int), l) k v s) (ansM ((n : Int), (m : Int), l) l2 k v) = if k = 0 ∨ v.filter (df l l2 k) = [] then [] else [reqMsg (learnW (stW ((n : Int), (m : Int), l) k v s) (ansM ((n : Int), (m : Int), l) l2 k v))] := by
    unfold learnM
    rw [if_neg (by rw [hE]; simp), hD, hlev]
    by_cases h : k = 0 ∨ v.filter (df l l2 k) = []
    · rw [if_pos h, if_pos (by rcases h with h | h; exact Or.inl (by omega); exact Or.inr h)]
    · rw [if_neg h, if_neg (fun h' => h (by rcases h' with h' | h'; exact Or.inl (by omega); exact Or.inr h'))]
  rw [hM]
  by_cases h : k = 0 ∨ v.filter (df l l2 k) = []
  · rw [if_pos h] at hW ⊢
    exact ⟨Or.inr ⟨hW.trans hf, rfl⟩, Or.inl rfl⟩
  · rw [if_neg h] at hW ⊢
    obtain ⟨k, rfl⟩ : ∃ j, k = j + 1 := ⟨k - 1, by have : k ≠ 0 := fun e => h (Or.inl e); omega⟩
    have hfl : v.filter (df l l2 (k + 1)) ≠ [] := fun e => h (Or.inr e)
    rw [Nat.add_sub_cancel] at hW
    have hgd : (l.getD k []).length = nk (leavesN n m) k := by
      rw [List.getD_eq_getElem?_getD, List.getElem?_eq_getElem (by omega)]; exact (tk.at_ k (by omega)).1
    rw [hW]
    refine ⟨Or.inl ⟨k, _, _, rfl, rfl, by omega, kids_asc _ (hv.sublist List.filter_sublist), ?_, kids_ne hfl, ?_, ?_⟩, Or.inr (by show (k : Int) < ((k + 1 : Nat) : Int); omega)⟩
    · intro i hi
      have := kids_lt (n := (l.getD k []).length) (m := nk (leavesN n m) (k + 1)) (by rw [hgd, nk_succ]) (fun j hj => hb j (List.mem_filter.1 hj).1) i hi
      omega
    · unfold sentN at hs
      rw [if_neg hfl] at hs
      omega
    · unfold runW at hf
      rw [if_neg hfl] at hf
      exact hf
end Go.Proofs.Ytjehedfdikdfpaa
namespace Go.Proofs.Ytjehedfdikdfpaa
open Go.RowKit Go.Shelf
attribute [local go_sem] Oper.semAt_some

set_option maxHeartbeats 1000000 in
theorem put_any (d : Int) (w : World) (hd : 0 ≤ d ∧ d < 18446744073709551616) : Calls Try.prog 47 #[.int .u64 d] w (RetSl encU8 (le8 d) w) := by
  obtain ⟨ha1, ha2⟩ := hd
  go_enter Try.func47, Try.ntmps47
  go_wp2
  go_loopw [3, 5] (fun v i wr => ∃ (k : Nat) (B : Option Addr) (vc : Nat) (out : List Int), k ≤ 8 ∧ i = .int .i64 k ∧ v = .slice B out.length vc ∧ Below w.heap.size w wr ∧ Hid (out = [] ++ (List.range k).map (byteOf d)) ∧ Hid (OwnW encU8 wr w.heap.size w.heap.size 5 (.slice B out.length vc) out)) (fun _ i _ => 8 - (intOf i).toNat)
  case atStart => exact ⟨0, none, 0, [], by omega, rfl, rfl, Below.refl _ _, by simp [Hid], OwnW.nil_⟩
  case round =>
    obtain ⟨k, B, vc, out, hk, rfl, rfl, hB, hout, hown⟩ := hrel
    have hol : out.length ≤ 8 := by rw [hout.out, List.nil_append, List.length_map, List.length_range]; exact hk
    by_cases hlt : k < 8
    · have hnn : (0 : Int) ≤ k := by omega
      have hki : (k : Int) < 8 := by omega
      have hsz := hB.size
      have HO1 := Lib.hid (Own.alloc hown.out (fun _ h => h.1.2) (.cells #[.int .u8 (d / 2 ^ (8 * k) % 256)] 5))
      have HRD : Hid (encU8.rd (wr.alloc (.cells #[.int .u8 (d / 2 ^ (8 * k) % 256)] 5)) (fun b => Nw w.heap.size wr.heap.size b ∧ (Value.slice B out.length vc).ownBlock ≠ some b) [.int .u8 (d / 2 ^ (8 * k) % 256)] (d / 2 ^ (8 * k) % 256)) := ⟨rfl, byteOf_range d k⟩
      go_wp2_with (at_builtin; refine Hid.out ?_)
      change wpList _ _ _ _ _ _
      refine wpList_app1 (E := encU8) tyU8s rfl _ _ rfl rfl HO1.out (d / 2 ^ (8 * k) % 256) _ rfl HRD.out (heap_alloc_new _ _) (fun _ h => by simp; have := h.1.2; omega) (by simp; omega) (by unfold maxLen; omega) (by omega) ?_
      intro A' c' w5 hown5 hg5 hat5
      have hlt1 : ∀ g, (Value.slice B out.length vc).ownBlock = some g → g < wr.heap.size := fun g hg => (hown.out.lt g hg).2
      have hok5 := Lib.hid (OwnW.app (hown5.more (S' := fun b => Nw w.heap.size (wr.alloc (.cells #[.int .u8 (d / 2 ^ (8 * k) % 256)] 5)).heap.size b ∧ (Value.slice B out.length vc).ownBlock ≠ some b) (fun b hb => ⟨hb.1.mono (Nat.le_refl _) (by simp), hb.2⟩) (OwnW_new hown5 hat5 hlt1 (by simp))) hg5 hat5)
      have hB5 := Lib.hid ((ext_alloc (o := .cells #[.int .u8 (d / 2 ^ (8 * k) % 256)] 5) hB).grown hg5 (by simp; omega) (fun g h => (hown.out.lt g h).1))
      clear hown5 hg5 hat5 hlt1
      go_wp2
      go_roundw
      case rel => exact ⟨k + 1, A', c', out ++ [d / 2 ^ (8 * k) % 256], hlt, by go_num, by simp, hB5.out, by rw [Hid, bytes_succ, ← List.append_assoc, ← hout.out]; rfl, by have := hok5.out; simpa [Hid] using this⟩
      case measure => simp [intOf]; omega
    · have hkk : k = 8 := by omega
      subst hkk
      have hki : ¬ (((8 : Nat) : Int) < 8) := by omega
      have hout1 : Hid (out = le8 d) := by rw [Hid, hout.out]; rfl
      obtain ⟨_, p1, p2, p3⟩ := hown.out.parts
      have HP := Lib.hid (And.intro p1 (And.intro p2 p3))
      clear p1 p2 p3
      go_wp2
      go_ret
      rw [← hout1.out]
      exact ⟨B, vc, rfl, HP.out.1, HP.out.2.1, HP.out.2.2, hB⟩
set_option maxHeartbeats 4000000 in
theorem extCheck_any (A : Option Addr) (c n : Nat) (l : List Ext) (size r : Int) (w : World) (hn : l.length = n) (hr : extE l size = r) (h1 : SlAt encExt w (Bl w.heap.size) A l) (hl : n ≤ 9223372036854775807) :
    Calls Try.prog 42 #[.slice A n c, .int .i64 size] w fun e w' => e = .returned (.int .i64 r) ∧ Below w.heap.size w w' := by
  subst hn
  have HR := Lib.hid hr; clear hr
  have H1 : Hid (∀ w', Below w.heap.size w w' → SlAt encExt w' (Bl w.heap.size) A l) := fun w' hb => h1.below hb
  clear h1
  go_enter Try.func42, Try.ntmps42
  by_cases hs0 : size < 0
  · have hE : Hid ((2 : Int) = r) := by rw [Hid, ← HR.out, extE, if_pos (Or.inl hs0)]
    go_wp2
    go_ret
    exact ⟨ret_int hE.out, Below.refl _ _⟩
  by_cases hs1 : 4096 < size
  · have hE : Hid ((2 : Int) = r) := by rw [Hid, ← HR.out, extE, if_pos (Or.inr hs1)]
    go_wp2
    go_ret
    exact ⟨ret_int hE.out, Below.refl _ _⟩
  have hR2 : Hid (exE size 0 l = r) := by rw [Hid, ← HR.out, extE, if_neg (by omega)]
  clear HR
  go_wp2
  go_loopw [5, 16] (fun nv i wr => ∃ (k : Nat) (nx : Int), k ≤ l.length ∧ i = .int .i64 k ∧ nv = .int .i64 nx ∧ Below w.heap.size w wr ∧ Hid (exE size 0 (l.take k) = 0) ∧ Hid (nx = nextE 0 (l.take k)) ∧ (0 ≤ nx ∧ nx ≤ 4097)) (fun _ i _ => l.length - (intOf i).toNat)
  case atStart => exact ⟨0, 0, by omega, rfl, rfl, Below.refl _ _, rfl, rfl, by omega, by omega⟩
  case round =>
    obtain ⟨wo, rfl⟩ : ∃ wo : World, wo = wr := ⟨_, rfl⟩
    obtain ⟨k, nx, hk, rfl, rfl, hB, hok, hnx, hn0, hn1⟩ := hrel
    by_cases hlt : k < l.length
    · obtain ⟨b, off, rfl, hb, g0, g1, hi1, hi2⟩ := (H1.out wo hB).ext hlt
      have hstep := exE_snoc (size := size) l[k] hok.out
      rw [← List.take_succ_eq_append_getElem hlt, ← hnx.out] at hstep
      have hbad : exE size 0 (l.take (k + 1)) ≠ 0 → exE size 0 (l.take (k + 1)) = r := fun h => by
        rw [← hR2.out]
        conv => rhs; rw [← List.take_append_drop (k + 1) l]
        exact (exE_app h).symm
      have hnext : nextE 0 (l.take (k + 1)) = l[k].1 + l[k].2 + 1 := by
        unfold nextE; rw [List.take_succ_eq_append_getElem hlt, List.getLast?_concat]; rfl
      obtain ⟨x, hx⟩ : ∃ x, l[k] = x := ⟨_, rfl⟩
      rw [hx] at g0 g1 hi1 hi2 hstep hnext
      obtain ⟨st, ct⟩ := x
      simp only at g0 g1 hi1 hi2 hstep hnext
      have HSTEP := Lib.hid hstep
      have HBAD := Lib.hid hbad
      have HNEXT := Lib.hid hnext
      have hki : (k : Int) < l.length := by omega
      have hnn : (0 : Int) ≤ k := by omega
      clear hx hstep hbad hnext
      unfold I64 at hi1 hi2
      obtain ⟨q1, q2⟩ := hi1
      obtain ⟨q3, q4⟩ := hi2
      obtain ⟨W1, hW1⟩ : ∃ W1, wo.alloc (.cells #[.int .i64 st, .int .i64 ct] 67) = W1 := ⟨_, rfl⟩
      have hb1 : Below wo.heap.size wo W1 := by rw [← hW1]; exact ext_alloc (Below.refl _ _)
      have hrx : W1.heap[wo.heap.size]? = some (.cells #[.int .i64 st, .int .i64 ct] 67 (0, 0)) := by rw [← hW1]; exact heap_alloc_new _ _
      have hB1 : Below w.heap.size w W1 := ext_trans hB hb1
      obtain ⟨x0, x1, _⟩ := blk2 hrx
      have HW1 := Lib.hid hW1
      clear hW1
      go_upto_region 7 with (fail)
      rw [HW1.out]
      clear g0 g1 hrx
      by_cases c1 : ct ≤ 0
      · have hE : Hid ((1 : Int) = r) := by
          have e := HSTEP.out
          rw [if_pos c1] at e
          rw [Hid, ← HBAD.out (by rw [e]; decide), e]
        go_wp2_with fail
        go_ret
        exact ⟨ret_int hE.out, hB1⟩
      by_cases c2 : st < 0
      · have hE : Hid ((2 : Int) = r) := by
          have e := HSTEP.out
          rw [if_neg c1, if_pos (Or.inl c2)] at e
          rw [Hid, ← HBAD.out (by rw [e]; decide), e]
        go_wp2_with fail
        go_ret
        exact ⟨ret_int hE.out, hB1⟩
      have c2' : 0 ≤ st := by omega
      have hsw : IntKind.i64.wrap (size - st) = size - st := IntWalk.i64_in _ (by omega)
      by_cases c3 : size - st < ct
      · have hE : Hid ((2 : Int) = r) := by
          have e := HSTEP.out
          rw [if_neg c1, if_pos (Or.inr c3)] at e
          rw [Hid, ← HBAD.out (by rw [e]; decide), e]
        go_wp2_with fail
        go_ret
        exact ⟨ret_int hE.out, hB1⟩
      have hsum : st + ct ≤ 4096 := by omega
      by_cases c4 : st < nx
      · have hE : Hid ((3 : Int) = r) := by
          have e := HSTEP.out
          rw [if_neg c1, if_neg (by omega), if_pos c4] at e
          rw [Hid, ← HBAD.out (by rw [e]; decide), e]
        go_wp2_with fail
        go_ret
        exact ⟨ret_int hE.out, hB1⟩
      have hE : Hid (exE size 0 (l.take (k + 1)) = 0) := by
        have e := HSTEP.out
        rw [if_neg c1, if_neg (by omega), if_neg c4] at e
        exact e
      go_wp2_with fail
      go_roundw
      case rel => exact ⟨k + 1, st + ct + 1, hlt, by go_num, by go_num, hB1, hE.out, HNEXT.out.symm, by omega, by omega⟩
      case measure => simp [intOf]; omega
    · have hkI : ¬ (k : Int) < l.length := by omega
      have hE : Hid ((0 : Int) = r) := by
        have h := hok.out
        rw [List.take_of_length_le (by omega)] at h
        rw [Hid, ← hR2.out, h]
      go_wp2
      go_ret
      exact ⟨ret_int hE.out, hB⟩
end Go.Proofs.Ytjehedfdikdfpaa
namespace Go.Proofs.Ytjehedfdikdfpaa

section
variable {P : Program} {ops : Array Oper} {Q : Exit → Act → World → Prop} {md : Region.Mode} {S : World → Prop} {k : Nat}
/-- whatever order is picked from here on; a condition holds behind every operation but the last one, number k -/
def wpAnyU (P : Program) (md : Region.Mode) (ops : Array Oper) (Q : Exit → Act → World → Prop) (S : World → Prop) (k : Nat) : Nat → Array Bool → Act → World → Prop
  | 0, listed, a, w => Region.ready md ops listed = [] ∧ Q .normal a w
  | fuel + 1, listed, a, w =>
    (Region.ready md ops listed = [] → Q .normal a w) ∧
    ∀ i ∈ Region.ready md ops listed, wpOp P ops Q i (fun a' w' => (i ≠ k → S w') ∧ wpAnyU P md ops Q S k fuel (listed.setIfInBounds i true) a' w') a w
theorem wpAny_ofU : ∀ (fuel : Nat) (listed : Array Bool) (a : Act) (w : World), wpAnyU P md ops Q S k fuel listed a w → wpAny P md ops Q fuel listed a w
  | 0, _, _, _, h => h
  | fuel + 1, _, _, _, h => ⟨h.1, fun i hi => wpOp_mono (fun a' w' h' => wpAny_ofU fuel _ a' w' h'.2) (h.2 i hi)⟩
/-- operation k waits for operation i -/
def waitsFor (md : Region.Mode) (ops : Array Oper) (k i : Nat) : Bool := match ops[k]? with
  | none => true
  | some o => o.after.any fun e => Region.binds md e && e.on == i
theorem waits_not {i : Nat} {listed : Array Bool} (h : waitsFor md ops k i = true) (hi : i ∈ Region.ready md ops listed) : ¬ k ∈ Region.ready md ops listed := fun hk => by
  obtain ⟨_, o, ho, hall⟩ := mem_ready.1 hk
  unfold waitsFor at h
  rw [ho] at h
  simp only [Array.any_eq_true] at h
  obtain ⟨j, hj, hb⟩ := h
  simp only [Bool.and_eq_true, beq_iff_eq] at hb
  have h1 := hall _ (Array.getElem_mem hj) hb.1
  have h0 := (mem_ready.1 hi).1
  rw [hb.2] at h1
  rcases Nat.lt_or_ge i listed.size with h' | h'
  · simp [h'] at h0 h1; rw [h0] at h1; cases h1
  · simp [Array.getElem?_eq_none h'] at h1
theorem wpAnyU_first {i : Nat} {oi : Oper} {v : Value} (hi : ops[i]? = some oi) (hsel : ∀ (j : Nat) (o : Oper) cs b, ops[j]? = some o → o.op ≠ .select cs b)
    (hQ : ∀ c a w, Q (.panic c) (a.put oi.dst v) w → Q (.panic c) a w) (hik : i ≠ k) (hwt : waitsFor md ops k i = true) :
    ∀ (fuel : Nat) (listed : Array Bool) (a : Act) (w : World),
      (∀ j oj, ops[j]? = some oj → j ≠ i → listed.getD j true = false → (∀ e ∈ oj.after, Region.binds md e = true → e.on ≠ i) → oi.apart ops oj = true) →
      i ∈ Region.ready md ops listed → YieldsIf P ops S oi v a → S w →
      wpAnyU P md ops Q S k fuel (listed.setIfInBounds i true) (a.put oi.dst v) w → wpAnyU P md ops Q S k (fuel + 1) listed a w := by
  intro fuel
  induction fuel with
  | zero =>
    intro listed a w _ hr hy hS H
    refine ⟨fun h => (by rw [h] at hr; cases hr), fun j hj => ?_⟩
    by_cases hji : j = i
    · subst hji; exact hy.wpOp hi hS ⟨fun _ => hS, H⟩
    · have := ready_mono hj hji
      rw [H.1] at this
      cases this
  | succ fuel ih =>
    intro listed a w hfree hr hy hS H
    refine ⟨fun h => (by rw [h] at hr; cases hr), fun j hj => ?_⟩
    by_cases hji : j = i
    · subst hji; exact hy.wpOp hi hS ⟨fun _ => hS, H⟩
    · have hjk : j ≠ k := fun e => by subst e; exact waits_not hwt hr hj
      have h1 := H.2 j (ready_mono hj hji)
      obtain ⟨hjun, oj, hoj, hall⟩ := mem_ready.1 hj
      have hnot : ∀ e ∈ oj.after, Region.binds md e = true → e.on ≠ i := fun e he hb heq => by
        have h1 := hall e he hb
        have h0 := (mem_ready.1 hr).1
        rw [heq] at h1
        rcases Nat.lt_or_ge i listed.size with h' | h'
        · simp [h'] at h0 h1; rw [h0] at h1; cases h1
        · simp [Array.getElem?_eq_none h'] at h1
      have h2 := wpOp_putIf hoj (hfree j oj hoj hji hjun hnot) (fun cs b => hsel i oi cs b hi) (fun cs b => hsel j oj cs b hoj) hQ hy h1
      have hfree' : ∀ m ok, ops[m]? = some ok → m ≠ i → (listed.setIfInBounds j true).getD m true = false →
          (∀ e ∈ ok.after, Region.binds md e = true → e.on ≠ i) → oi.apart ops ok = true := fun m ok hm hmi hun hno => by
        refine hfree m ok hm hmi ?_ hno
        by_cases hjm : j = m
        · subst hjm; exact hjun
        · rw [getD_set_ne true hjm] at hun; exact hun
      refine wpOp_mono (fun a' w' h3 => ⟨h3.2.1, ih (listed.setIfInBounds j true) a' w' hfree' (ready_mono hr (Ne.symm hji)) h3.1 (h3.2.1 hjk) ?_⟩) h2
      rw [Array.setIfInBounds_comm _ _ hji]
      exact h3.2.2
/-- take number i first -/
theorem wpAnyU_take {i : Nat} {oi : Oper} {v : Value} {fuel : Nat} {listed : Array Bool} {a : Act} {w : World} (hi : ops[i]? = some oi)
    (hs : Region.noSelect ops = true) (hf : Region.free md ops listed i = true) (hr : (Region.ready md ops listed).contains i = true) (hk : (waitsFor md ops k i && !(i == k)) = true)
    (hQ : ∀ c a w, Q (.panic c) (a.put oi.dst v) w → Q (.panic c) a w) (hw : Region.wanted oi (yielded ops a.tmps) = true) (hy : ∀ w, S w → (execOp a.eval oi).run P w = .ok (.value v) w) (hS : S w)
    (h : wpAnyU P md ops Q S k fuel (listed.setIfInBounds i true) (a.put oi.dst v) w) : wpAnyU P md ops Q S k (fuel + 1) listed a w := by
  simp only [Bool.and_eq_true, Bool.not_eq_true', beq_eq_false_iff_ne] at hk
  exact wpAnyU_first hi (Region.noSelect_spec hs) hQ hk.2 hk.1 fuel listed a w (Region.free_spec hi hf) (by simpa using hr) (Or.inl ⟨hw, hy⟩) hS h
/-- take number i first: its slot by name -/
theorem wpAnyU_takeD {i : Nat} {oi : Oper} {v : Value} {d : Nat} {fuel : Nat} {listed : Array Bool} {a : Act} {w : World} (hi : ops[i]? = some oi) (hd : oi.dst = some d)
    (hs : Region.noSelect ops = true) (hf : Region.free md ops listed i = true) (hr : (Region.ready md ops listed).contains i = true) (hk : (waitsFor md ops k i && !(i == k)) = true)
    (hQ : ∀ c a w, Q (.panic c) (a.put (some d) v) w → Q (.panic c) a w) (hw : Region.wanted oi (yielded ops a.tmps) = true) (hy : ∀ w, S w → (execOp a.eval oi).run P w = .ok (.value v) w) (hS : S w)
    (h : wpAnyU P md ops Q S k fuel (listed.setIfInBounds i true) { tmps := a.tmps.setIfInBounds d v, defers := a.defers } w) : wpAnyU P md ops Q S k (fuel + 1) listed a w :=
  wpAnyU_take (v := v) hi hs hf hr hk (by rw [hd]; exact hQ) hw hy hS (by rw [hd]; exact h)
/-- the only one that may come up -/
theorem wpAnyU_one {i : Nat} {o : Oper} {fuel : Nat} {listed : Array Bool} {a : Act} {w : World} (hr : Region.ready md ops listed = [i]) (ho : ops[i]? = some o)
    (h : ∀ K' : Act → World → Prop, Shut (∀ a w, (i ≠ k → S w) → wpAnyU P md ops Q S k fuel (listed.setIfInBounds i true) a w → K' a w) → if Region.wanted o (yielded ops a.tmps) = true then Oper.wp P o a w K' Q else K' (a.put o.dst undef) w) :
    wpAnyU P md ops Q S k (fuel + 1) listed a w :=
  ⟨fun h0 => by rw [hr] at h0; simp at h0, fun j hj => by
    rw [hr, List.mem_singleton] at hj
    subst hj
    exact wpOp_step ho (fun K' hK => h K' (fun a w hS hW => hK a w ⟨hS, hW⟩))⟩
/-- the only one that may come up, without a guard -/
theorem wpAnyU_op {i : Nat} {o : Oper} {fuel : Nat} {listed : Array Bool} {a : Act} {w : World} (hr : Region.ready md ops listed = [i]) (ho : ops[i]? = some o) (hg : o.guard = none)
    (h : ∀ K' : Act → World → Prop, Shut (∀ a w, (i ≠ k → S w) → wpAnyU P md ops Q S k fuel (listed.setIfInBounds i true) a w → K' a w) → Oper.wp P o a w K' Q) :
    wpAnyU P md ops Q S k (fuel + 1) listed a w :=
  wpAnyU_one hr ho (fun K' hK => by rw [if_pos (by simp [Region.wanted, hg])]; exact h K' hK)
/-- two may come up -/
theorem wpAnyU_two {i j : Nat} {oi oj : Oper} {fuel : Nat} {listed : Array Bool} {a : Act} {w : World} (hr : Region.ready md ops listed = [i, j]) (hoi : ops[i]? = some oi) (hoj : ops[j]? = some oj) (hgi : oi.guard = none) (hgj : oj.guard = none)
    (hi : ∀ K' : Act → World → Prop, Shut (∀ a w, (i ≠ k → S w) → wpAnyU P md ops Q S k fuel (listed.setIfInBounds i true) a w → K' a w) → Oper.wp P oi a w K' Q)
    (hj : ∀ K' : Act → World → Prop, Shut (∀ a w, (j ≠ k → S w) → wpAnyU P md ops Q S k fuel (listed.setIfInBounds j true) a w → K' a w) → Oper.wp P oj a w K' Q) :
    wpAnyU P md ops Q S k (fuel + 1) listed a w :=
  ⟨fun h0 => by rw [hr] at h0; simp at h0, fun m hm => by
    rw [hr] at hm
    simp only [List.mem_cons, List.not_mem_nil, or_false] at hm
    rcases hm with rfl | rfl
    · exact wpOp_step hoi (fun K' hK => by rw [if_pos (by simp [Region.wanted, hgi])]; exact hi K' (fun a w hS hW => hK a w ⟨hS, hW⟩))
    · exact wpOp_step hoj (fun K' hK => by rw [if_pos (by simp [Region.wanted, hgj])]; exact hj K' (fun a w hS hW => hK a w ⟨hS, hW⟩))⟩
theorem wpAnyU_done {listed : Array Bool} {a : Act} {w : World} (hr : Region.ready md ops listed = []) (h : Q .normal a w) : ∀ fuel, wpAnyU P md ops Q S k fuel listed a w
  | 0 => ⟨hr, h⟩
  | _ + 1 => ⟨fun _ => h, by rw [hr]; simp⟩
theorem wp_region_U {id : Nat} {a : Act} {w : World} (S : World → Prop) (k : Nat) (hm : P.follows .mixedOrders = true)
    (h : wpAnyU P .any ops Q S k ops.size (Array.replicate ops.size false) a w.drew) : (Code.region id ops true).wp P Q a w :=
  wp_region_any hm (wpAny_ofU _ _ _ _ h)
end
end Go.Proofs.Ytjehedfdikdfpaa

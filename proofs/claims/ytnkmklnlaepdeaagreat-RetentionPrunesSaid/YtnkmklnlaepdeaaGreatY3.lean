/-
  retention.cloned: the walk.
  slices.Index and Contains over numbers: the walks.
  Plain words: snapshots that are pruned. No program in sight.
  retention.Prune: the walk.
-/
import Derived.Test.YtnkmklnlaepdeaaGreatSn1
import Derived.Test.YtnkmklnlaepdeaaGreatKe
import Derived.Test.YtnkmklnlaepdeaaGreatYi
import Derived.Test.YtnkmklnlaepdeaaGreatY4
import Derived.Test.YtnkmklnlaepdeaaGreatPo
import Derived.Test.YtnkmklnlaepdeaaGreatSn4
set_option linter.unusedVariables false
set_option linter.unusedSimpArgs false
set_option linter.unusedSectionVars false
set_option linter.unnecessarySimpa false
namespace Go.Proofs.YtnkmklnlaepdeaaGreat
open Go.RowKit Go.Shelf
attribute [local go_sem] Oper.semAt_some

set_option maxHeartbeats 4000000 in
set_option maxRecDepth 100000 in
theorem cloned38_any (A A2 : Option Addr) (c c2 n m : Nat) (im : Img) (l : List Snp) (w : World) (hn : im.length = n) (hm : l.length = m) (h1 : SlAt (encSl encSec) w (Bl w.heap.size) A im) (h2 : SlAt encSnp w (Bl w.heap.size) A2 l) (hL : SnLim im l) :
    Calls Tryz.prog 23 #[.agg #[.slice A n c, .slice A2 m c2]] w fun e w' => ∃ B vc D dc mid, e = .returned (.agg #[.slice B n vc, .slice D m dc]) ∧ SnRet im l B vc D dc mid w.heap.size w' ∧ Below w.heap.size w w' := by
  subst hn hm
  have H1 : Hid (∀ w', Below w.heap.size w w' → SlAt (encSl encSec) w' (Bl w.heap.size) A im) := fun w' hb => h1.below hb
  have H2 : Hid (∀ w', Below w.heap.size w w' → SlAt encSnp w' (Bl w.heap.size) A2 l) := fun w' hb => h2.below hb
  have HL := Lib.hid hL
  have hl1 := hL.ims
  have hl2 := hL.its
  clear h1 h2 hL
  obtain ⟨n0, hn0⟩ : ∃ n0, w.heap.size = n0 := ⟨_, rfl⟩
  obtain ⟨W0, hW0⟩ : ∃ W0, ((w.alloc (.cells #[.slice A im.length c, .slice A2 l.length c2] 29)).alloc (.cells #[.slice none 0 0, .slice none 0 0] 29)).alloc (.cells #[.slice none 0 0, .slice none 0 0] 29) = W0 := ⟨_, rfl⟩
  have hB0 : Below n0 w W0 := by rw [← hW0, ← hn0]; exact ext_alloc (ext_alloc (ext_alloc (Below.refl _ _)))
  have hs0 : W0.heap.size = n0 + 3 := by rw [← hW0, ← hn0]; simp
  have hr0 : W0.heap[n0]? = some (.cells #[.slice A im.length c, .slice A2 l.length c2] 29 (0, 0)) := by
    rw [← hW0, ← hn0]; exact (Below.heap_alloc _ _ _ (by simp; omega)).trans ((Below.heap_alloc _ _ _ (by simp)).trans (heap_alloc_new _ _))
  have hr1 : W0.heap[n0 + 1]? = some (.cells #[.slice none 0 0, .slice none 0 0] 29 (0, 0)) := by
    rw [← hW0, ← hn0]
    have h := heap_alloc_new (w.alloc (.cells #[.slice A im.length c, .slice A2 l.length c2] 29)) (.cells #[.slice none 0 0, .slice none 0 0] 29)
    simp only [World.size_alloc] at h
    exact (Below.heap_alloc _ _ _ (by simp)).trans h
  have hr2 : W0.heap[n0 + 1 + 1]? = some (.cells #[.slice none 0 0, .slice none 0 0] 29 (0, 0)) := by
    rw [← hW0, ← hn0]
    have h := heap_alloc_new ((w.alloc (.cells #[.slice A im.length c, .slice A2 l.length c2] 29)).alloc (.cells #[.slice none 0 0, .slice none 0 0] 29)) (.cells #[.slice none 0 0, .slice none 0 0] 29)
    simp only [World.size_alloc] at h
    exact h
  have HR1 := Lib.hid hr1
  have HR2 := Lib.hid hr2
  obtain ⟨p0, p1, _⟩ := blk2 hr0
  have HR0 := Lib.hid hr0
  clear hr0 hr1 hr2
  go_enter Tryz.func23, Tryz.ntmps23
  go_wp2_with fail
  clear p0 p1
  go_loopw [14] (fun i wr => ∃ (k : Nat) (B : Option Addr) (vc : Nat) (out : Img), k ≤ im.length ∧ i = .int .i64 k ∧ Below n0 w wr ∧ n0 + 3 ≤ wr.heap.size ∧ Hid (out = im.take k) ∧ Hid (wr.heap[n0]? = some (.cells #[.slice A im.length c, .slice A2 l.length c2] 29 (0, 0))) ∧ Hid (wr.heap[n0 + 1]? = some (.cells #[.slice none 0 0, .slice none 0 0] 29 (0, 0))) ∧ Hid (wr.heap[n0 + 1 + 1]? = some (.cells #[.slice B out.length vc, .slice none 0 0] 29 (0, 0))) ∧ Hid (OwnX (Nw n0 (n0 + 3)) (encSl encSec) wr n0 55 (.slice B out.length vc) out)) (fun i _ => im.length - (intOf i).toNat)
  case atStart => exact ⟨0, none, 0, [], by omega, rfl, hB0, by omega, by simp [Hid], HR0.out, HR1.out, HR2.out, OwnX.nil_⟩
  case round =>
    obtain ⟨wo, rfl⟩ : ∃ wo : World, wo = wr := ⟨_, rfl⟩
    obtain ⟨k, B, vc, out, hk, rfl, hB, hsz, hout, hq0, hq1, hq2, hown⟩ := hrel
    by_cases hlt : k < im.length
    · obtain ⟨b, off, D, dc, rfl, hb, g0, hD, hd1, hd2⟩ := (H1.out wo (by rw [hn0]; exact hB)).sl hlt
      have hrl := HL.out.row im[k] (List.getElem_mem hlt)
      have hst : Hid (im.take (k + 1) = im.take k ++ [im[k]]) := List.take_succ_eq_append_getElem hlt
      obtain ⟨row, hrow⟩ : ∃ x, im[k] = x := ⟨_, rfl⟩
      rw [hrow] at g0 hD hd1 hrl hst
      have hki : (k : Int) < im.length := by omega
      have hnn : (0 : Int) ≤ k := by omega
      have hol : out.length ≤ k := by rw [hout.out]; simp; omega
      clear hrow
      have HCL := Lib.hid (cloneSecs_any D dc row.length row wo.drew rfl ((hD.drew (w' := wo.drew) ⟨1, rfl⟩).more (fun g hg => by have : g < w.heap.size := hg; show g < wo.heap.size; omega)) hrl)
      have hlt1 := Lib.hid hown.out.lt
      have HS : Hid (∀ (W : World) (A5 : Option Addr) (m5 c5 : Nat), W.heap[n0 + 1 + 1]? = some (.cells #[.slice A5 m5 c5, .slice none 0 0] 29 (0, 0)) → W.cell? ⟨n0 + 1 + 1, 0, none⟩ = some (.slice A5 m5 c5) ∧ W.frozen? ⟨n0 + 1 + 1, 0, none⟩ = false) := fun W A5 m5 c5 h => by
        obtain ⟨a, _, f⟩ := blk2 h; exact ⟨a, f 0⟩
      clear hD
      go_upto_region 5 with (fail)
      obtain ⟨hc1, hc0⟩ := HS.out wo.drew B out.length vc hq2.out
      go_region_law (first | (refine step_app1 (E := encSl encSec) tyImage rfl _ _ rfl rfl hO4o.out row [.slice A4 row.length c4] rfl HRD.out (heap_alloc_new _ _) (fun _ h => h.1.2) (by simp; omega) (by unfold maxLen; omega) (by omega) ?_; intro A5 c5 w5 hown5 hg5 hat5; have hrow5 := (hg5.block (n0 + 1 + 1) (by simp; omega) (fun e => hown.out.2 _ e.symm ⟨by omega, by omega⟩)).trans hrow4a; obtain ⟨hc5, _, hf5⟩ := blk2 hrow5) | (go_simp; go_at_call 45; refine HCL.out.mono ?_; rintro e w4 ⟨A4, c4, rfl, k1, k2, k3, h4⟩; have hx4 : Below wo.heap.size wo w4 := bUn h4; have hz4 := hx4.size; have hrow4 := (hx4.block (n0 + 1 + 1) (by omega)).trans hq2.out; have hc4 := (blk2 hrow4).1; have hO4 := Lib.hid ((hown.out.below hx4).alloc (.cells #[.slice A4 row.length c4] 55)); have hrow4a := (Below.heap_alloc w4 (.cells #[.slice A4 row.length c4] 55) (n0 + 1 + 1) (by omega)).trans hrow4; have hc4a := (blk2 hrow4a).1; have hO4o := Lib.hid hO4.out.1; have HRD : Hid ((encSl encSec).rd (w4.alloc (.cells #[.slice A4 row.length c4] 55)) (fun g => Nw n0 (w4.alloc (.cells #[.slice A4 row.length c4] 55)).heap.size g ∧ ¬ Nw n0 (n0 + 3) g ∧ (Value.slice B out.length vc).ownBlock ≠ some g) [.slice A4 row.length c4] row) := ⟨A4, c4, rfl, k1, k2, OwnX.since (X := Nw n0 (n0 + 3)) (B := wo.heap.size) ((k3.blk (fun g hg => Below.heap_alloc _ _ _ hg.2)).more (fun g hg => hg.mono (Nat.le_refl _) (by simp))) (by omega) (fun g hg => by have := hg.2; omega) (fun g hg => (hlt1.out g hg).2)⟩))
      all_goals
        have hrow6 := blk2_0 hrow5 (.slice A5 (out.length + 1) c5)
        have hz5 := hg5.size
        have hO5 : Hid (OwnX (Nw n0 (n0 + 3)) (encSl encSec) (w5.setCell ⟨n0 + 1 + 1, 0, none⟩ (.slice A5 (out.length + 1) c5)) n0 55 (.slice A5 (out.length + 1) c5) (out ++ [row])) := (hO4.out.app hown5 hg5 hat5 (fun g hg => by have := hg.2; simp; omega)).set (p := ⟨n0 + 1 + 1, 0, none⟩) (by show Nw n0 (n0 + 3) (n0 + 1 + 1); exact ⟨by omega, by omega⟩) _
        have hlo := hO4.out.lt
        have hB5 : Below n0 wo w5 := ((hx4.mono (by omega : n0 ≤ wo.heap.size)).alloc (by omega) (.cells #[.slice A4 row.length c4] 55)).grown hg5 (by simp; omega) (fun g h => (hlo g h).1)
        have hB6 : Below n0 w (w5.setCell ⟨n0 + 1 + 1, 0, none⟩ (.slice A5 (out.length + 1) c5)) := (hB.trans hB5).setCell (p := ⟨n0 + 1 + 1, 0, none⟩) (by show n0 ≤ n0 + 1 + 1; omega) _
        have hother : ∀ g, Nw n0 (n0 + 3) g → g ≠ n0 + 1 + 1 → (w5.setCell ⟨n0 + 1 + 1, 0, none⟩ (.slice A5 (out.length + 1) c5)).heap[g]? = wo.heap[g]? := fun g hg hne =>
          (heap_setCell_other _ _ _ _ hne).trans ((hg5.block g (by have := hg.2; simp; omega) (fun e => hown.out.2 _ e.symm hg)).trans ((Below.heap_alloc _ _ _ (by have := hg.2; omega)).trans (hx4.block g (by have := hg.2; omega))))
        have hq0' := Lib.hid ((hother n0 ⟨by omega, by omega⟩ (by omega)).trans hq0.out)
        have hq1' := Lib.hid ((hother (n0 + 1) ⟨by omega, by omega⟩ (by omega)).trans hq1.out)
        have hz6 : n0 + 3 ≤ (w5.setCell ⟨n0 + 1 + 1, 0, none⟩ (.slice A5 (out.length + 1) c5)).heap.size := by simp [World.setCell] at hz5 ⊢; omega
        generalize w5.setCell ⟨n0 + 1 + 1, 0, none⟩ (.slice A5 (out.length + 1) c5) = w6 at hrow6 hO5 hB6 hq0' hq1' hz6 ⊢
        clear hown5 hg5 hat5 hrow4 hrow4a hrow5 hc4 hc4a hc5 hf5 hc0 hc1 k3 hz4 hz5 hlo hother hB5 h4 hx4
        go_wp2
        go_roundw
        case rel => exact ⟨k + 1, A5, c5, out ++ [row], hlt, by go_num, hB6, hz6, by rw [Hid, hst.out, hout.out], hq0'.out, hq1'.out, by simpa [Hid] using hrow6, by simpa [Hid] using hO5.out⟩
        case measure => simp [intOf]; omega
    · have hkk : k = im.length := by omega
      subst hkk
      rw [List.take_length] at hout
      have hIM : Hid (im.length ≤ vc ∧ vc ≤ maxLen ∧ SlAt (encSl encSec) wo (fun g => Nw n0 wo.heap.size g ∧ ¬ Nw n0 (n0 + 3) g) B im) := by
        have h := hown.out
        rw [hout.out] at h
        obtain ⟨_, a, b, c⟩ := h.parts
        exact ⟨a, b, c⟩
      rw [hout.out] at hq2
      obtain ⟨p0, p1, _⟩ := blk2 hq0.out
      clear hown hout
      go_wp2_with fail
      clear p0 p1
      go_loopw [29] (fun i wr => ∃ (k : Nat) (D2 : Option Addr) (dc : Nat) (out : List Snp), k ≤ l.length ∧ i = .int .i64 k ∧ Below n0 w wr ∧ wo.heap.size ≤ wr.heap.size ∧ Hid (out = l.take k) ∧ Hid (wr.heap[n0 + 1]? = some (.cells #[.slice none 0 0, .slice none 0 0] 29 (0, 0))) ∧ Hid (wr.heap[n0 + 1 + 1]? = some (.cells #[.slice B im.length vc, .slice D2 out.length dc] 29 (0, 0))) ∧ Hid (OwnX (Nw n0 (n0 + 3)) encSnp wr wo.heap.size 45 (.slice D2 out.length dc) out) ∧ Hid (∀ g, g < wo.heap.size → ¬ Nw n0 (n0 + 3) g → wr.heap[g]? = wo.heap[g]?)) (fun i _ => l.length - (intOf i).toNat)
      case atStart => exact ⟨0, none, 0, [], by omega, rfl, hB, Nat.le_refl _, by simp [Hid], hq1.out, hq2.out, OwnX.nil_, fun _ _ _ => rfl⟩
      case round =>
        obtain ⟨wp, rfl⟩ : ∃ wo : World, wo = wr := ⟨_, rfl⟩
        obtain ⟨k, D2, dc, out, hk2, rfl, hBp, hszp, hout, hp1, hp2, hown, hkp⟩ := hrel
        by_cases hlt2 : k < l.length
        · obtain ⟨b, off, D, dd, rfl, hb, g0, g1, g2, hD, hd1, hd2, hi1, hi2⟩ := (H2.out wp (by rw [hn0]; exact hBp)).snp hlt2
          obtain ⟨hsl, hsd⟩ := HL.out.sav l[k] (List.getElem_mem hlt2)
          have hst : Hid (l.take (k + 1) = l.take k ++ [l[k]]) := List.take_succ_eq_append_getElem hlt2
          obtain ⟨x, hx⟩ : ∃ x, l[k] = x := ⟨_, rfl⟩
          rw [hx] at g0 g1 g2 hD hd1 hi1 hi2 hsl hsd hst
          obtain ⟨num, tm, sv⟩ := x
          simp only at g0 g1 g2 hD hd1 hi1 hi2 hsl hsd
          have hki : (k : Int) < l.length := by omega
          have hnn : (0 : Int) ≤ k := by omega
          have hol : out.length ≤ k := by rw [hout.out]; simp; omega
          clear hx
          go_upto_region 10 with (fail)
          obtain ⟨W1, hW1⟩ : ∃ W1, wp.alloc (.cells #[.int .i64 num, .int .i64 tm, .slice D sv.length dd] 45) = W1 := ⟨_, rfl⟩
          rw [hW1]
          have hb1 : Below wp.heap.size wp W1 := by rw [← hW1]; exact ext_alloc (Below.refl _ _)
          have hr1 : W1.heap[wp.heap.size]? = some (.cells #[.int .i64 num, .int .i64 tm, .slice D sv.length dd] 45 (0, 0)) := by rw [← hW1]; exact heap_alloc_new _ _
          have hs1 : W1.heap.size = wp.heap.size + 1 := by rw [← hW1]; simp
          have HSV : Hid (∀ W, Below W1.heap.size W1 W → SlAt encWr W (Bl w.heap.size) D sv) := fun W hW => hD.blk (w' := W) (fun g hg => (hW.block g (by have : g < w.heap.size := hg; omega)).trans (hb1.block g (by have : g < w.heap.size := hg; omega)))
          have HSD := Lib.hid hsd
          obtain ⟨r0, r1, r2, rf⟩ := blk3 hr1
          clear hW1 g0 g1 g2 hD hsd
          go_wp2_with fail
          clear r0 r1 r2 rf
          go_loopw [8, 36] (fun v i wr => ∃ (k3 : Nat) (B3 : Option Addr) (vc3 : Nat) (o3 : List Wr), k3 ≤ sv.length ∧ i = .int .i64 k3 ∧ v = .slice B3 o3.length vc3 ∧ Below W1.heap.size W1 wr ∧ Hid (o3 = sv.take k3) ∧ Hid (OwnX (fun _ => False) encWr wr W1.heap.size 74 (.slice B3 o3.length vc3) o3)) (fun _ i _ => sv.length - (intOf i).toNat)
          case atStart => exact ⟨0, none, 0, [], by omega, rfl, rfl, Below.refl _ _, by simp [Hid], OwnX.nil_⟩
          case round =>
            obtain ⟨wq, rfl⟩ : ∃ wq : World, wq = wr := ⟨_, rfl⟩
            obtain ⟨k3, B3, vc3, o3, hk3, rfl, rfl, hB3, ho3, hown3⟩ := hrel
            by_cases hlt3 : k3 < sv.length
            · obtain ⟨b3, off3, D3, dc3, rfl, hb3, g0, g1, g2, hD3, hn1, hn2, hi3, hi4⟩ := (HSV.out wq hB3).wr hlt3
              have hdl := HSD.out sv[k3] (List.getElem_mem hlt3)
              have hst3 : Hid (sv.take (k3 + 1) = sv.take k3 ++ [sv[k3]]) := List.take_succ_eq_append_getElem hlt3
              obtain ⟨x, hx⟩ : ∃ x, sv[k3] = x := ⟨_, rfl⟩
              rw [hx] at g0 g1 g2 hD3 hn1 hi3 hi4 hdl hst3
              obtain ⟨v, s, d⟩ := x
              simp only at g0 g1 g2 hD3 hn1 hi3 hi4 hdl
              have hki3 : (k3 : Int) < sv.length := by omega
              have hnn3 : (0 : Int) ≤ k3 := by omega
              have hol3 : o3.length ≤ k3 := by rw [ho3.out]; simp; omega
              have hszq := hB3.size
              clear hx
              go_upto_region 14 with (fail)
              obtain ⟨V1, hV1⟩ : ∃ V1, wq.alloc (.cells #[.int .i64 v, .int .i64 s, .slice D3 d.length dc3] 74) = V1 := ⟨_, rfl⟩
              rw [hV1]
              have hv1 : Below wq.heap.size wq V1 := by rw [← hV1]; exact ext_alloc (Below.refl _ _)
              have hrv1 : V1.heap[wq.heap.size]? = some (.cells #[.int .i64 v, .int .i64 s, .slice D3 d.length dc3] 74 (0, 0)) := by rw [← hV1]; exact heap_alloc_new _ _
              have hsv1 : V1.heap.size = wq.heap.size + 1 := by rw [← hV1]; simp
              have HCL := Lib.hid (cloneSecs_any D3 dc3 d.length d V1 rfl ((hD3.blk (w' := V1) (fun g hg => hv1.block g (by have : g < w.heap.size := hg; omega))).more (fun g hg => by have : g < w.heap.size := hg; show g < V1.heap.size; omega)) hdl)
              obtain ⟨r0, r1, r2, rf⟩ := blk3 hrv1
              clear hV1 g0 g1 g2 hD3
              go_wp2_with fail
              refine HCL.out.mono ?_
              rintro e v2 ⟨A4, c4, rfl, k4, k5, k6, hbv2⟩
              have hrv2 : v2.heap[wq.heap.size]? = some (.cells #[.int .i64 v, .int .i64 s, .slice D3 d.length dc3] 74 (0, 0)) := (hbv2.block _ (by omega)).trans hrv1
              have HK6 := Lib.hid k6
              clear r0 r1 r2 rf hrv1 HCL k6
              obtain ⟨r0, r1, r2, rf⟩ := blk3 hrv2
              go_upto_region 15 with (fail)
              obtain ⟨V3, hV3⟩ : ∃ V3, v2.setCell ⟨wq.heap.size, 2, none⟩ (.slice A4 d.length c4) = V3 := ⟨_, rfl⟩
              rw [hV3]
              have hrv3 : V3.heap[wq.heap.size]? = some (.cells #[.int .i64 v, .int .i64 s, .slice A4 d.length c4] 74 (0, 0)) := by rw [← hV3]; exact blk3_set hrv2 _
              have hsv3 : V3.heap.size = v2.heap.size := by rw [← hV3]; simp [World.setCell]
              have hsv2 := hbv2.size
              have hbv3 : Below wq.heap.size wq V3 := by rw [← hV3]; exact (hv1.trans (hbv2.mono hv1.size)).setCell (p := ⟨wq.heap.size, 2, none⟩) (Nat.le_refl wq.heap.size) _
              have hK6 : Hid (SlAt encSec V3 (Nw V1.heap.size V3.heap.size) A4 d) := by
                rw [hsv3]
                refine HK6.out.blk (fun g hg => ?_)
                rw [← hV3]
                exact Below.heap_setCell _ _ _ _ (by have := hg.1; show g ≠ wq.heap.size; omega)
              have hsv3g : v2.heap.size ≤ V3.heap.size := by omega
              have hsv1g : wq.heap.size + 1 ≤ V1.heap.size := by omega
              clear r0 r1 r2 rf hrv2 hV3 HK6 hbv2 hv1 hsv3 hsv1
              obtain ⟨r0, r1, r2, _⟩ := blk3 hrv3
              have hO4 := Lib.hid ((hown3.out.below hbv3).alloc (.cells #[.int .i64 v, .int .i64 s, .slice A4 d.length c4] 74))
              have hlt4 := hown3.out.lt
              have HRD : Hid (encWr.rd (V3.alloc (.cells #[.int .i64 v, .int .i64 s, .slice A4 d.length c4] 74)) (fun g => Nw W1.heap.size (V3.alloc (.cells #[.int .i64 v, .int .i64 s, .slice A4 d.length c4] 74)).heap.size g ∧ ¬ False ∧ (Value.slice B3 o3.length vc3).ownBlock ≠ some g) [.int .i64 v, .int .i64 s, .slice A4 d.length c4] (v, s, d)) :=
                wr_mk (x := (v, s, d)) hi3 hi4 k4 k5 (OwnX.since (X := fun _ => False) (B := V1.heap.size) ((hK6.out.blk (fun g hg => Below.heap_alloc _ _ _ hg.2)).more (fun g hg => hg.mono (Nat.le_refl _) (by simp))) (by omega) (fun _ h => h.elim) (fun g hg => by have := (hlt4 g hg).2; omega))
              have HLT := Lib.hid hlt4
              have hO4o := Lib.hid hO4.out.1
              clear hlt4
              go_wp2_with (at_builtin; refine Hid.out ?_)
              change wpList _ _ _ _ _ _
              refine wpList_app1 (E := encWr) tyWrs rfl _ _ rfl rfl hO4o.out (v, s, d) [.int .i64 v, .int .i64 s, .slice A4 d.length c4] rfl HRD.out (heap_alloc_new _ _) (fun _ h => h.1.2) (by simp; omega) (by unfold maxLen; omega) (by omega) ?_
              intro A5 c5 w5 hown5 hg5 hat5
              have hO5 := Lib.hid (hO4.out.app hown5 hg5 hat5 (fun _ h => h.elim))
              have hB5 := Lib.hid (((hB3.trans (hbv3.mono hszq)).alloc (by omega) (.cells #[.int .i64 v, .int .i64 s, .slice A4 d.length c4] 74)).grown hg5 (by simp; omega) (fun g h => (HLT.out g h).1))
              clear hown5 hg5 hat5 r0 r1 r2 hrv3
              go_wp2
              go_roundw
              case rel => exact ⟨k3 + 1, A5, c5, o3 ++ [(v, s, d)], hlt3, by go_num, by simp, hB5.out, by rw [Hid, hst3.out, ho3.out], by have := hO5.out; simpa [Hid] using this⟩
              case measure => simp [intOf]; omega
            · have hkk3 : k3 = sv.length := by omega
              subst hkk3
              have e3 := ho3.out
              rw [List.take_length] at e3
              subst e3
              obtain ⟨w2, rfl⟩ : ∃ w2 : World, w2 = wq := ⟨_, rfl⟩
              have hb2 : Below W1.heap.size W1 w2 := hB3
              obtain ⟨A3, rfl⟩ : ∃ A3 : Option Addr, A3 = B3 := ⟨_, rfl⟩
              obtain ⟨c3, rfl⟩ : ∃ c3 : Nat, c3 = vc3 := ⟨_, rfl⟩
              have hox := hown3.out
              clear ho3 hown3 hlt3
              obtain ⟨_, k1, k2, k3⟩ := hox.parts
              have hr2 : w2.heap[wp.heap.size]? = some (.cells #[.int .i64 num, .int .i64 tm, .slice D o3.length dd] 45 (0, 0)) := (hb2.block _ (by omega)).trans hr1
              have HK3 := Lib.hid k3
              clear hr1 k3 hox
              obtain ⟨r0, r1, r2, rf⟩ := blk3 hr2
              go_upto_region 18 with (fail)
              obtain ⟨W3, hW3⟩ : ∃ W3, w2.setCell ⟨wp.heap.size, 2, none⟩ (.slice A3 o3.length c3) = W3 := ⟨_, rfl⟩
              rw [hW3]
              have hr3 : W3.heap[wp.heap.size]? = some (.cells #[.int .i64 num, .int .i64 tm, .slice A3 o3.length c3] 45 (0, 0)) := by rw [← hW3]; exact blk3_set hr2 _
              have hs3 : W3.heap.size = w2.heap.size := by rw [← hW3]; simp [World.setCell]
              have hs2 := hb2.size
              have hb3 : Below wp.heap.size wp W3 := by rw [← hW3]; exact (hb1.trans (hb2.mono hb1.size)).setCell (p := ⟨wp.heap.size, 2, none⟩) (Nat.le_refl wp.heap.size) _
              have hK3 : Hid (SlAt encWr W3 (Nw W1.heap.size W3.heap.size) A3 o3) := by
                rw [hs3]
                refine (HK3.out.more (fun g hg => hg.1)).blk (fun g hg => ?_)
                rw [← hW3]
                exact Below.heap_setCell _ _ _ _ (by have := hg.1; show g ≠ wp.heap.size; omega)
              have hs3g : w2.heap.size ≤ W3.heap.size := by omega
              have hs1g : wp.heap.size + 1 ≤ W1.heap.size := by omega
              have hq3 : W3.heap[n0 + 1 + 1]? = some (.cells #[.slice B im.length vc, .slice D2 out.length dc] 29 (0, 0)) := (hb3.block _ (by omega)).trans hp2.out
              clear r0 r1 r2 rf hr2 hW3 HK3 hb2 hb1 hs3 hs1
              obtain ⟨r0, r1, r2, _⟩ := blk3 hr3
              obtain ⟨_, q1, _⟩ := blk2 hq3
              have hO4 := Lib.hid ((hown.out.below hb3).alloc (.cells #[.int .i64 num, .int .i64 tm, .slice A3 o3.length c3] 45))
              have hO4o := Lib.hid hO4.out.1
              have hlt1 := Lib.hid hown.out.lt
              have HRD : Hid (encSnp.rd (W3.alloc (.cells #[.int .i64 num, .int .i64 tm, .slice A3 o3.length c3] 45)) (fun g => Nw wo.heap.size (W3.alloc (.cells #[.int .i64 num, .int .i64 tm, .slice A3 o3.length c3] 45)).heap.size g ∧ ¬ Nw n0 (n0 + 3) g ∧ (Value.slice D2 out.length dc).ownBlock ≠ some g) [.int .i64 num, .int .i64 tm, .slice A3 o3.length c3] (num, tm, o3)) :=
                snp_mk (x := (num, tm, o3)) hi1 hi2 k1 k2 (OwnX.since (X := Nw n0 (n0 + 3)) (B := W1.heap.size) ((hK3.out.blk (fun g hg => Below.heap_alloc _ _ _ hg.2)).more (fun g hg => hg.mono (Nat.le_refl _) (by simp))) (by omega) (fun g hg => by have := hg.2; omega) (fun g hg => by have := (hlt1.out g hg).2; omega))
              go_wp2_with (at_builtin; refine Hid.out ?_)
              change wpList _ _ _ _ _ _
              refine wpList_app1 (E := encSnp) tySnps rfl _ _ rfl rfl hO4o.out (num, tm, o3) [.int .i64 num, .int .i64 tm, .slice A3 o3.length c3] rfl HRD.out (heap_alloc_new _ _) (fun _ h => h.1.2) (by simp; omega) (by unfold maxLen; omega) (by omega) ?_
              intro A5 c5 w5 hown5 hg5 hat5
              have hz5 := hg5.size
              rw [World.size_alloc] at hz5
              have hnx : ∀ g, Nw n0 (n0 + 3) g → w5.heap[g]? = wp.heap[g]? := fun g hg => (hg5.block g (by have := hg.2; rw [World.size_alloc]; omega) (fun e => hown.out.2 _ e.symm hg)).trans ((Below.heap_alloc _ _ _ (by have := hg.2; omega)).trans (hb3.block g (by have := hg.2; omega)))
              have hrow5 : w5.heap[n0 + 1 + 1]? = some (.cells #[.slice B im.length vc, .slice D2 out.length dc] 29 (0, 0)) := (hnx _ ⟨by omega, by omega⟩).trans hp2.out
              obtain ⟨_, q5, f5⟩ := blk2 hrow5
              have hrow6 := blk2_1 hrow5 (.slice A5 (out.length + 1) c5)
              have hO5 : Hid (OwnX (Nw n0 (n0 + 3)) encSnp (w5.setCell ⟨n0 + 1 + 1, 1, none⟩ (.slice A5 (out.length + 1) c5)) wo.heap.size 45 (.slice A5 (out.length + 1) c5) (out ++ [(num, tm, o3)])) := (hO4.out.app hown5 hg5 hat5 (fun g hg => by have := hg.2; simp; omega)).set (p := ⟨n0 + 1 + 1, 1, none⟩) (by show Nw n0 (n0 + 3) (n0 + 1 + 1); exact ⟨by omega, by omega⟩) _
              have hB5 : Below wo.heap.size wp w5 := ((hb3.mono hszp).alloc (by omega) (.cells #[.int .i64 num, .int .i64 tm, .slice A3 o3.length c3] 45)).grown hg5 (by simp; omega) (fun g h => (hlt1.out g h).1)
              have hB6 : Below n0 w (w5.setCell ⟨n0 + 1 + 1, 1, none⟩ (.slice A5 (out.length + 1) c5)) := (hBp.trans (hB5.mono (by omega))).setCell (p := ⟨n0 + 1 + 1, 1, none⟩) (by show n0 ≤ n0 + 1 + 1; omega) _
              have hp1' := Lib.hid ((heap_setCell_other w5 ⟨n0 + 1 + 1, 1, none⟩ (n0 + 1) (.slice A5 (out.length + 1) c5) (by show n0 + 1 ≠ n0 + 1 + 1; omega)).trans ((hnx _ ⟨by omega, by omega⟩).trans hp1.out))
              have hkp' : Hid (∀ g, g < wo.heap.size → ¬ Nw n0 (n0 + 3) g → (w5.setCell ⟨n0 + 1 + 1, 1, none⟩ (.slice A5 (out.length + 1) c5)).heap[g]? = wo.heap[g]?) := fun g hg hn => (heap_setCell_other _ _ _ _ (fun e => hn (by rw [e]; exact ⟨by show n0 ≤ n0 + 1 + 1; omega, by show n0 + 1 + 1 < n0 + 3; omega⟩))).trans ((hB5.block g hg).trans (hkp.out g hg hn))
              have hz6 : wo.heap.size ≤ (w5.setCell ⟨n0 + 1 + 1, 1, none⟩ (.slice A5 (out.length + 1) c5)).heap.size := by simp [World.setCell]; omega
              clear hown5 hg5 hat5 r0 r1 r2 hr3 q1 hq3 hrow5 hnx hB5
              go_wp2
              go_roundw
              case rel => exact ⟨k + 1, A5, c5, out ++ [(num, tm, o3)], hlt2, by go_num, hB6, hz6, by rw [Hid, hst.out, hout.out], hp1'.out, by simpa [Hid] using hrow6, by simpa [Hid] using hO5.out, hkp'.out⟩
              case measure => simp [intOf]; omega
        · have hkk : k = l.length := by omega
          subst hkk
          rw [List.take_length] at hout
          obtain ⟨q0, q1, _⟩ := blk2 hp2.out
          obtain ⟨v0, v1, vf⟩ := blk2 hp1.out
          go_wp2_with fail
          change bodyPost _ _ _ _ _ ((wp.setCell ⟨n0 + 1, 0, none⟩ (.slice B im.length vc)).setCell ⟨n0 + 1, 1, none⟩ (.slice D2 out.length dc))
          have hz := blk2_set hp1.out (.slice B im.length vc) (.slice D2 out.length dc)
          have hB6 : Below n0 w ((wp.setCell ⟨n0 + 1, 0, none⟩ (.slice B im.length vc)).setCell ⟨n0 + 1, 1, none⟩ (.slice D2 out.length dc)) := (hBp.setCell (p := ⟨n0 + 1, 0, none⟩) (by show n0 ≤ n0 + 1; omega) _).setCell (p := ⟨n0 + 1, 1, none⟩) (by show n0 ≤ n0 + 1; omega) _
          have hO6 := ((hown.out.set (p := ⟨n0 + 1, 0, none⟩) (by show Nw n0 (n0 + 3) (n0 + 1); exact ⟨by omega, by omega⟩) (.slice B im.length vc)).set (p := ⟨n0 + 1, 1, none⟩) (by show Nw n0 (n0 + 3) (n0 + 1); exact ⟨by omega, by omega⟩) (.slice D2 out.length dc))
          have hI6 : SlAt (encSl encSec) ((wp.setCell ⟨n0 + 1, 0, none⟩ (.slice B im.length vc)).setCell ⟨n0 + 1, 1, none⟩ (.slice D2 out.length dc)) (Nw n0 wo.heap.size) B im :=
            (hIM.out.2.2.blk (fun g hg => (heap_setCell_other _ _ _ _ (fun e => hg.2 (by rw [e]; exact ⟨by show n0 ≤ n0 + 1; omega, by show n0 + 1 < n0 + 3; omega⟩))).trans ((heap_setCell_other _ _ _ _ (fun e => hg.2 (by rw [e]; exact ⟨by show n0 ≤ n0 + 1; omega, by show n0 + 1 < n0 + 3; omega⟩))).trans (hkp.out g hg.1.2 hg.2)))).more (fun g hg => hg.1)
          have hz6 : wo.heap.size ≤ ((wp.setCell ⟨n0 + 1, 0, none⟩ (.slice B im.length vc)).setCell ⟨n0 + 1, 1, none⟩ (.slice D2 out.length dc)).heap.size := by simp [World.setCell]; omega
          generalize (wp.setCell ⟨n0 + 1, 0, none⟩ (.slice B im.length vc)).setCell ⟨n0 + 1, 1, none⟩ (.slice D2 out.length dc) = W3 at hz hB6 hO6 hI6 hz6 ⊢
          obtain ⟨z0, z1, _⟩ := blk2 hz
          refine bodyPost_ret (v := .agg #[.slice B im.length vc, .slice D2 out.length dc]) ?_ rfl ?_
          · simp [results, Tryz.results23, Tryz.f23, go_sem, z0, z1]
          · have e := hout.out
            rw [e] at hO6 ⊢
            exact ⟨B, vc, D2, dc, wo.heap.size, rfl, ⟨hIM.out.1, hIM.out.2.1, by omega, hz6, by rw [hn0]; exact hI6, hO6.var (fun g hg => hg.elim)⟩, by rw [hn0]; exact hB6⟩
end Go.Proofs.YtnkmklnlaepdeaaGreat

namespace Go.Proofs.YtnkmklnlaepdeaaGreat
open Go.RowKit Go.Shelf
attribute [local go_sem] Oper.semAt_some

set_option maxHeartbeats 1000000 in
theorem indexI_any (A : Option Addr) (c n : Nat) (l : List Int) (v : Int) (w : World) (hn : l.length = n) (h1 : SlAt encInt w (Bl w.heap.size) A l) (hl : n ≤ 9223372036854775807) :
    Calls Tryz.prog 41 #[.slice A n c, .int .i64 v] w fun e w' => (∃ i : Int, e = .returned (.int .i64 i) ∧ decide (0 ≤ i) = l.contains v) ∧ w' = w := by
  subst hn
  go_enter Tryz.func41, Tryz.ntmps41
  go_wp2_with fail
  go_loopw [8] (fun i wr => ∃ k : Nat, k ≤ l.length ∧ i = .int .i64 k ∧ wr = w ∧ Hid (∀ y ∈ l.take k, y ≠ v)) (fun i _ => l.length - (intOf i).toNat)
  case atStart => exact ⟨0, by omega, rfl, rfl, by simp [Hid]⟩
  case round =>
    obtain ⟨k, hk, rfl, rfl, hz⟩ := hrel
    by_cases hlt : k < l.length
    · obtain ⟨b, off, rfl, hb, g0, _⟩ := h1.int hlt
      have hki : (k : Int) < l.length := by omega
      have hnn : (0 : Int) ≤ k := by omega
      obtain ⟨y, hy⟩ : ∃ y, Hid (l[k] = y) := ⟨_, Lib.hid rfl⟩
      rw [hy.out] at g0
      by_cases hvy : v = y
      · have hvy' : (v == y) = true := by simp [hvy]
        have HE : Hid (decide ((0 : Int) ≤ k) = l.contains v) := by
          rw [Hid, decide_eq_true hnn, eq_comm, List.contains_iff_mem, hvy, ← hy.out]
          exact List.getElem_mem hlt
        clear hvy
        go_wp2
        go_ret
        exact ⟨⟨k, rfl, HE.out⟩, rfl⟩
      · have hvy' : (v == y) = false := by simp [hvy]
        have HZ : Hid (∀ z ∈ l.take (k + 1), z ≠ v) := by
          intro z hz'
          rw [List.take_succ_eq_append_getElem hlt] at hz'
          rcases List.mem_append.1 hz' with hz' | hz'
          · exact hz.out z hz'
          · rw [List.mem_singleton.1 hz', hy.out]; exact fun e => hvy e.symm
        clear hvy
        go_wp2
        go_roundw
        case rel => exact ⟨k + 1, hlt, by go_num, trivial, HZ.out⟩
        case measure => simp [intOf]; omega
    · have hkk : k = l.length := by omega
      subst hkk
      have HE : Hid (decide ((0 : Int) ≤ -1) = l.contains v) := by
        have h := hz.out
        rw [List.take_length] at h
        rw [Hid, decide_eq_false (by decide), eq_comm]
        cases hc : l.contains v with
        | false => rfl
        | true => exact absurd rfl (h v (List.contains_iff_mem.1 hc))
      go_wp2
      go_ret
      exact ⟨⟨-1, rfl, HE.out⟩, rfl⟩
theorem containsI_any (A : Option Addr) (c n : Nat) (l : List Int) (v : Int) (q : Bool) (w : World) (hn : l.length = n) (h1 : SlAt encInt w (Bl w.heap.size) A l) (hl : n ≤ 9223372036854775807) (hq : l.contains v = q) :
    Calls Tryz.prog 21 #[.slice A n c, .int .i64 v] w fun e w' => e = .returned (.bool q) ∧ w' = w := by
  have HC := Lib.hid (indexI_any A c n l v w hn h1 hl)
  rw [hq] at HC
  clear hq h1
  go_enter Tryz.func21, Tryz.ntmps21
  go_wp2_with fail
  refine HC.out.mono ?_
  rintro e w1 ⟨⟨i, rfl, hi⟩, rfl⟩
  go_wp2
  go_ret
  exact ⟨rfl, rfl⟩
end Go.Proofs.YtnkmklnlaepdeaaGreat

namespace Go.Proofs.YtnkmklnlaepdeaaGreat

def numAt (l : List Snp) (i : Nat) : Int := (l.getD i (0, 0, [])).1
/-- what remains, and the numbers of what was deleted, behind the first items -/
def pruneT (im : Img) (K : Nat → Bool) (l : List Snp) : Nat → List Snp × List Int
  | 0 => (l, [])
  | i + 1 => if K i then pruneT im K l i else ((sDelete (im, (pruneT im K l i).1) (numAt l i)).2, (pruneT im K l i).2 ++ [numAt l i])
def timesS (l : List Snp) : List Int := l.map (·.2.1)
def stays (p : Pol) (l : List Snp) (pinned : List Int) (now : Int) (i : Nat) : Bool := keptB p (timesS l) now i || pinned.contains (numAt l i)
def pruneE (p : Pol) (s : Sns) (now : Int) : Int := if polE p ≠ 0 then polE p else if snE s ≠ 0 then snE s else if okT now = false ∨ now < lastT s.2 then 24 else 0
def pruneS (p : Pol) (s : Sns) (pinned : List Int) (now : Int) : Sns := if pruneE p s now = 0 then (s.1, (pruneT s.1 (stays p s.2 pinned now) s.2 s.2.length).1) else zSns
def goneS (p : Pol) (s : Sns) (pinned : List Int) (now : Int) : List Int := if pruneE p s now = 0 then (pruneT s.1 (stays p s.2 pinned now) s.2 s.2.length).2 else []

/-- number and time of each item, with its image -/
def kz (im : Img) (l : List Snp) : List ((Int × Int) × Img) := (l.map keyS).zip (imgs im l)
theorem kz_len (im : Img) (l : List Snp) : (kz im l).length = l.length := by simp [kz, imgs_len]
theorem kz_at {im : Img} {l : List Snp} {k : Nat} (hk : k < l.length) : (kz im l)[k]'(by rw [kz_len]; exact hk) = (keyS l[k], atL im (l.drop k)) := by
  have h := imgs_at (im := im) hk
  have h2 : k < (imgs im l).length := by rw [imgs_len]; exact hk
  rw [List.getElem?_eq_getElem h2, Option.some.injEq] at h
  simp [kz, h]
theorem kz_asc {im : Img} {l : List Snp} (h : snE (im, l) = 0) : (kz im l).Pairwise fun x y => x.1.1 < y.1.1 := by
  have ho := (snE_iff.1 h).2.2.2
  rw [List.pairwise_iff_getElem]
  intro i j hi hj hij
  rw [kz_len] at hi hj
  rw [kz_at hi, kz_at hj]
  have := (List.pairwise_iff_getElem.1 ho) i j (by rw [List.length_map]; exact hi) (by rw [List.length_map]; exact hj) hij
  simp only [List.getElem_map, keyS] at this
  exact this.1
theorem erase_filter {α : Type} (f : α → Int) : ∀ (l : List α) (j : Nat) (hj : j < l.length), l.Pairwise (fun x y => f x < f y) → l.eraseIdx j = l.filter fun x => !(f x == f l[j])
  | x :: l, 0, _, hp => by
    obtain ⟨h1, _⟩ := List.pairwise_cons.1 hp
    have e : l.filter (fun y => !(f y == f x)) = l := List.filter_eq_self.2 (fun y hy => by have := h1 y hy; simp; omega)
    simp [List.eraseIdx, e]
  | x :: l, j + 1, hj, hp => by
    obtain ⟨h1, h2⟩ := List.pairwise_cons.1 hp
    have hj' : j < l.length := by simpa using hj
    have := h1 l[j] (List.getElem_mem hj')
    have ih := erase_filter f l j hj' h2
    rw [List.eraseIdx_cons_succ, ih, List.filter_cons]
    simp only [List.getElem_cons_succ]
    rw [if_pos (by simp; omega)]
/-- the state of a pruning behind the first items -/
structure PInv (im : Img) (l : List Snp) (K : Nat → Bool) (i : Nat) (m : List Snp) (g : List Int) : Prop where
  ok : snE (im, m) = 0
  rows : Proofs.YtnkmklnlaepdeaaGreat.kz im m = (Proofs.YtnkmklnlaepdeaaGreat.kz im l).filter fun q => !(g.contains q.1.1)
  gone : ∀ n, n ∈ g ↔ ∃ k, k < i ∧ k < l.length ∧ K k = false ∧ numAt l k = n
  len : m.length + g.length = l.length
  cap : ∀ x ∈ m, x ∈ l ∨ x.2.2.length ≤ 32768
theorem numAt_eq {l : List Snp} {k : Nat} (hk : k < l.length) : numAt l k = l[k].1 := by
  unfold numAt; rw [List.getD_eq_getElem?_getD, List.getElem?_eq_getElem hk]; rfl
theorem num_inj {im : Img} {l : List Snp} (h : snE (im, l) = 0) {j k : Nat} (hj : j < l.length) (hk : k < l.length) (he : l[j].1 = l[k].1) : j = k := by
  have h1 := find_at h hj
  have h2 := find_at h hk
  rw [he] at h1
  omega
theorem foldL_len' (l : List Wr) : (foldL l).length ≤ 32768 := by
  unfold foldL; split
  · exact foldS_len l
  · simp
theorem delL_cap {l : List Snp} {j : Nat} (hj : j < l.length) : ∀ x ∈ delL l j, x ∈ l ∨ x.2.2.length ≤ 32768 := by
  cases j with
  | zero => exact fun x hx => Or.inl (List.mem_of_mem_drop hx)
  | succ i =>
    have hsp := split2 hj
    obtain ⟨a, ha⟩ : ∃ a, l.take i = a := ⟨_, rfl⟩
    obtain ⟨y, hy⟩ : ∃ y, l[i] = y := ⟨_, rfl⟩
    obtain ⟨x, hx⟩ : ∃ x, l[i + 1] = x := ⟨_, rfl⟩
    obtain ⟨b, hb⟩ : ∃ b, l.drop (i + 2) = b := ⟨_, rfl⟩
    have hal : a.length = i := by rw [← ha]; simp; omega
    rw [ha, hy, hx, hb] at hsp
    clear ha hy hx hb
    subst hal
    subst hsp
    rw [delL_split]
    intro z hz
    rcases List.mem_append.1 hz with hz | hz
    · exact Or.inl (by simp [hz])
    · rcases List.mem_cons.1 hz with rfl | hz
      · exact Or.inr (foldL_len' _)
      · exact Or.inl (by simp [hz])
theorem PInv.zero {im : Img} {l : List Snp} {K : Nat → Bool} (h : snE (im, l) = 0) : PInv im l K 0 l [] :=
  ⟨h, (List.filter_eq_self.2 (fun q _ => by simp)).symm, fun n => by simp, by simp, fun x hx => Or.inl hx⟩
theorem PInv.stay {im : Img} {l m : List Snp} {K : Nat → Bool} {i : Nat} {g : List Int} (h : PInv im l K i m g) (hK : K i = true) : PInv im l K (i + 1) m g :=
  ⟨h.ok, h.rows, fun n => by
    rw [h.gone]
    constructor
    · rintro ⟨k, h1, h2⟩
      exact ⟨k, by omega, h2⟩
    · rintro ⟨k, h1, h2, h3, h4⟩
      refine ⟨k, ?_, h2, h3, h4⟩
      by_cases e : k = i
      · subst e; rw [hK] at h3; cases h3
      · omega, h.len, h.cap⟩
/-- the place of the next item among those that are left -/
theorem PInv.place {im : Img} {l m : List Snp} {K : Nat → Bool} {i : Nat} {g : List Int} (h : PInv im l K i m g) (hl : snE (im, l) = 0) (hi : i < l.length) : ∃ j, ∃ hj : j < m.length, m[j].1 = l[i].1 := by
  have hng : ¬ l[i].1 ∈ g := fun hg => by
    obtain ⟨k, h1, h2, _, h4⟩ := (h.gone _).1 hg
    rw [numAt_eq h2] at h4
    have := num_inj hl h2 hi h4
    omega
  have hmem : (keyS l[i], atL im (l.drop i)) ∈ kz im m := by
    rw [h.rows, List.mem_filter]
    refine ⟨?_, by simp [keyS, hng]⟩
    rw [← kz_at hi]; exact List.getElem_mem _
  obtain ⟨j, hj, he⟩ := List.mem_iff_getElem.1 hmem
  have hj' : j < m.length := by rw [kz_len] at hj; exact hj
  rw [kz_at hj'] at he
  refine ⟨j, hj', ?_⟩
  have := congrArg (fun q => q.1.1) he
  simpa [keyS] using this
theorem PInv.drop {im : Img} {l m : List Snp} {K : Nat → Bool} {i : Nat} {g : List Int} (h : PInv im l K i m g) (hl : snE (im, l) = 0) (hi : i < l.length) (hK : K i = false) :
    findE (im, m) (numAt l i) = 0 ∧ (sDelete (im, m) (numAt l i)).1 = im ∧ PInv im l K (i + 1) (sDelete (im, m) (numAt l i)).2 (g ++ [numAt l i]) := by
  obtain ⟨j, hj, he⟩ := h.place hl hi
  rw [numAt_eq hi, ← he]
  obtain ⟨f1, f2⟩ := find_at h.ok hj
  obtain ⟨d1, d2, d3, _⟩ := del_facts h.ok hj
  have hs : sDelete (im, m) m[j].1 = (im, delL m j) := by
    unfold sDelete; rw [if_pos f1, f2]
  rw [hs]
  have hkz : kz im (delL m j) = (kz im m).eraseIdx j := by
    unfold kz
    rw [d1, d2]
    have : ∀ {α β : Type} (a : List α) (b : List β) (j : Nat), (a.eraseIdx j).zip (b.eraseIdx j) = (a.zip b).eraseIdx j := by
      intro α β a
      induction a with
      | nil => intro b j; cases b <;> simp
      | cons x a ih =>
        intro b j
        cases b with
        | nil => simp
        | cons y b => cases j with
          | zero => rfl
          | succ j => simp [ih]
    exact this _ _ j
  refine ⟨f1, rfl, d3, ?_, ?_, ?_, ?_⟩
  · show kz im (delL m j) = _
    have e := erase_filter (fun q => q.1.1) (kz im m) j (by rw [kz_len]; exact hj) (kz_asc h.ok)
    rw [hkz, e, kz_at hj, h.rows, List.filter_filter]
    congr 1
    funext q
    simp only [keyS, List.contains_append, List.contains_cons, List.contains_nil, Bool.or_false, Bool.not_or]
    rw [Bool.and_comm]
  · intro n
    rw [List.mem_append, h.gone, List.mem_singleton]
    constructor
    · rintro (⟨k, h1, h2⟩ | rfl)
      · exact ⟨k, by omega, h2⟩
      · exact ⟨i, by omega, hi, hK, by rw [numAt_eq hi, he]⟩
    · rintro ⟨k, h1, h2, h3, h4⟩
      by_cases e : k = i
      · subst e; rw [numAt_eq hi] at h4; exact Or.inr (by rw [← h4, he])
      · exact Or.inl ⟨k, by omega, h2, h3, h4⟩
  · have h1 : (delL m j).length = m.length - 1 := by
      have := congrArg List.length d2
      rw [List.length_map, List.length_eraseIdx_of_lt (by rw [List.length_map]; exact hj), List.length_map] at this
      exact this
    have := h.len
    show (delL m j).length + _ = _
    rw [h1]; simp; omega
  · intro x hx
    rcases delL_cap hj x hx with hx | hx
    · exact h.cap x hx
    · exact Or.inr hx
theorem pruneT_inv {im : Img} {l : List Snp} {K : Nat → Bool} (hl : snE (im, l) = 0) : ∀ i, i ≤ l.length → PInv im l K i (pruneT im K l i).1 (pruneT im K l i).2
  | 0, _ => PInv.zero hl
  | i + 1, hi => by
    have ih := pruneT_inv (K := K) hl i (by omega)
    cases hK : K i with
    | true =>
      have e : pruneT im K l (i + 1) = pruneT im K l i := by rw [pruneT, if_pos hK]
      rw [e]; exact ih.stay hK
    | false =>
      have e : pruneT im K l (i + 1) = ((sDelete (im, (pruneT im K l i).1) (numAt l i)).2, (pruneT im K l i).2 ++ [numAt l i]) := by rw [pruneT, if_neg (by rw [hK]; decide)]
      rw [e]; exact (ih.drop hl (by omega) hK).2.2
theorem pruneT_stay {im : Img} {l : List Snp} {K : Nat → Bool} {i : Nat} (hK : K i = true) : pruneT im K l (i + 1) = pruneT im K l i := by rw [pruneT, if_pos hK]
theorem pruneT_drop {im : Img} {l : List Snp} {K : Nat → Bool} {i : Nat} (hK : K i = false) : pruneT im K l (i + 1) = ((sDelete (im, (pruneT im K l i).1) (numAt l i)).2, (pruneT im K l i).2 ++ [numAt l i]) := by rw [pruneT, if_neg (by rw [hK]; decide)]
theorem pruneT_nil {im : Img} {l : List Snp} {K : Nat → Bool} : ∀ i, (pruneT im K l i).2 = [] → (pruneT im K l i).1 = l
  | 0, _ => rfl
  | i + 1, h => by
    cases hK : K i with
    | true => rw [pruneT_stay hK] at h ⊢; exact pruneT_nil i h
    | false => rw [pruneT_drop hK] at h; simp at h
/-- the items that remain have the images that they had -/
theorem PInv.image {im : Img} {l m : List Snp} {K : Nat → Bool} {i : Nat} {g : List Int} (h : PInv im l K i m g) (hl : snE (im, l) = 0) {k : Nat} (hk : k < l.length) (hg : ¬ l[k].1 ∈ g) :
    findE (im, m) l[k].1 = 0 ∧ sImage (im, m) l[k].1 = sImage (im, l) l[k].1 ∧ (m.any fun x => x.1 == l[k].1) = true := by
  have hmem : (keyS l[k], atL im (l.drop k)) ∈ kz im m := by
    rw [h.rows, List.mem_filter]
    refine ⟨?_, by simp [keyS, hg]⟩
    rw [← kz_at hk]; exact List.getElem_mem _
  obtain ⟨j, hj, he⟩ := List.mem_iff_getElem.1 hmem
  have hj' : j < m.length := by rw [kz_len] at hj; exact hj
  rw [kz_at hj'] at he
  have e1 : m[j].1 = l[k].1 := by
    have := congrArg (fun q => q.1.1) he
    simpa [keyS] using this
  have e2 : atL im (m.drop j) = atL im (l.drop k) := congrArg (fun q => q.2) he
  obtain ⟨f1, f2⟩ := find_at h.ok hj'
  obtain ⟨f3, f4⟩ := find_at hl hk
  rw [e1] at f1 f2
  refine ⟨f1, ?_, ?_⟩
  · unfold sImage
    rw [if_pos f1, if_pos f3, f2, f4]
    exact e2
  · rw [List.any_eq_true]; exact ⟨m[j], List.getElem_mem hj', by simp [e1]⟩
theorem PInv.absent {im : Img} {l m : List Snp} {K : Nat → Bool} {i : Nat} {g : List Int} (h : PInv im l K i m g) {n : Int} (hg : n ∈ g) : (m.any fun x => x.1 == n) = false := by
  rw [List.any_eq_false]
  intro x hx
  obtain ⟨j, hj, rfl⟩ := List.mem_iff_getElem.1 hx
  have : (keyS m[j], atL im (m.drop j)) ∈ kz im m := by rw [← kz_at hj]; exact List.getElem_mem _
  rw [h.rows, List.mem_filter] at this
  have h2 := this.2
  simp only [keyS, Bool.not_eq_true', List.contains_eq_mem, decide_eq_false_iff_not] at h2
  intro e
  exact h2 (by have : m[j].1 = n := by simpa using e
               rw [this]; exact hg)
end Go.Proofs.YtnkmklnlaepdeaaGreat

namespace Go.Proofs.YtnkmklnlaepdeaaGreat
open Go.RowKit Go.Shelf
attribute [local go_sem] Oper.semAt_some

/-- snapshots, numbers and an error, in new memory -/
def PruneRet (s : Sns) (g : List Int) (r : Int) (w : World) (e : Ending) (w' : World) : Prop :=
  ∃ B vc D dc G gc, e = .returned (.tuple #[.agg #[.slice B s.1.length vc, .slice D s.2.length dc], .slice G g.length gc, .int .i64 r]) ∧ (s.1.length ≤ vc ∧ vc ≤ maxLen ∧ SlAt (encSl encSec) w' (Nw w.heap.size w'.heap.size) B s.1) ∧ (s.2.length ≤ dc ∧ dc ≤ maxLen ∧ SlAt encSnp w' (Nw w.heap.size w'.heap.size) D s.2) ∧ (g.length ≤ gc ∧ gc ≤ maxLen ∧ SlAt encInt w' (Nw w.heap.size w'.heap.size) G g) ∧ Below w.heap.size w w'
theorem PruneRet.zero {w w' : World} {r : Int} (hb : Below w.heap.size w w') : PruneRet zSns [] r w (.returned (.tuple #[.agg #[.slice none 0 0, .slice none 0 0], .slice none 0 0, .int .i64 r])) w' :=
  ⟨none, 0, none, 0, none, 0, rfl, ⟨by simp [zSns], by simp, SlAt.nil_⟩, ⟨by simp [zSns], by simp, SlAt.nil_⟩, ⟨by simp, by simp, SlAt.nil_⟩, hb⟩
theorem PInv.lim {im : Img} {l m : List Snp} {K : Nat → Bool} {i : Nat} {g : List Int} (h : PInv im l K i m g) (hL : SnLim im l) (hsv : ∀ x ∈ l, x.2.2.length ≤ 50000) : SnLim im m ∧ ∀ x ∈ m, x.2.2.length ≤ 50000 := by
  refine ⟨⟨hL.ims, hL.row, by have := h.len; have := hL.its; omega, fun x hx => ⟨?_, fun y hy => ?_⟩⟩, fun x hx => ?_⟩
  · rcases h.cap x hx with h1 | h1
    · exact (hL.sav x h1).1
    · omega
  · have h3 := fits_ok (snE_ok h.ok).1 ((snE_ok h.ok).2 x hx y hy)
    have := h3.2.2.2
    omega
  · rcases h.cap x hx with h1 | h1
    · exact hsv x h1
    · omega
theorem SlAt.nw2 {α : Type} {E : Enc α} {w : World} {S : Nat → Prop} {A : Option Addr} {l : List α} (h : SlAt E w S A l) {b lo : Nat} (hS : ∀ g, S g → g ≠ b ∧ lo ≤ g ∧ g < w.heap.size) (u v : Value) : SlAt E ((w.setCell ⟨b, 0, none⟩ u).setCell ⟨b, 1, none⟩ v) (Nw lo ((w.setCell ⟨b, 0, none⟩ u).setCell ⟨b, 1, none⟩ v).heap.size) A l :=
  (h.blk (fun g hg => (heap_setCell_other _ ⟨b, 1, none⟩ g _ (hS g hg).1).trans (heap_setCell_other _ ⟨b, 0, none⟩ g _ (hS g hg).1))).more (fun g hg => ⟨(hS g hg).2.1, by simp [World.setCell]; exact (hS g hg).2.2⟩)
set_option maxHeartbeats 4000000 in
set_option maxRecDepth 100000 in
theorem prune_any (Ap A A2 Ag : Option Addr) (cp c c2 cg np n m ng : Nat) (nw now : Int) (l : List Rule) (im : Img) (sl : List Snp) (pin : List Int) (w : World) (hnp : l.length = np) (hn : im.length = n) (hm : sl.length = m) (hng : pin.length = ng)
    (h1 : SlAt encExt w (Bl w.heap.size) Ap l) (h2 : SlAt (encSl encSec) w (Bl w.heap.size) A im) (h3 : SlAt encSnp w (Bl w.heap.size) A2 sl) (h4 : SlAt encInt w (Bl w.heap.size) Ag pin) (hL : SnLim im sl) (hsv : ∀ x ∈ sl, x.2.2.length ≤ 50000)
    (hnpl : np ≤ 9223372036854775807) (hngl : ng ≤ 9223372036854775807) (hc : n ≤ c ∧ c ≤ maxLen) (hc2 : m ≤ c2 ∧ c2 ≤ maxLen) :
    Calls Tryz.prog 6 #[.agg #[.int .i64 nw, .slice Ap np cp], .agg #[.slice A n c, .slice A2 m c2], .slice Ag ng cg, .int .i64 now] w (PruneRet (pruneS (nw, l) (im, sl) pin now) (goneS (nw, l) (im, sl) pin now) (pruneE (nw, l) (im, sl) now) w) := by
  subst hnp hn hm hng
  obtain ⟨n0, hn0⟩ : ∃ n0, w.heap.size = n0 := ⟨_, rfl⟩
  rw [hn0] at h1 h2 h3 h4
  have H1 : Hid (∀ w', Below n0 w w' → SlAt encExt w' (Bl n0) Ap l) := fun w' hb => h1.below hb
  have H2 : Hid (∀ w', Below n0 w w' → SlAt (encSl encSec) w' (Bl n0) A im) := fun w' hb => h2.below hb
  have H3 : Hid (∀ w', Below n0 w w' → SlAt encSnp w' (Bl n0) A2 sl) := fun w' hb => h3.below hb
  have H4 : Hid (∀ w', Below n0 w w' → SlAt encInt w' (Bl n0) Ag pin) := fun w' hb => h4.below hb
  have HLM := Lib.hid hL
  have HSV := Lib.hid hsv
  have hl1 := hL.ims
  have hl2 := hL.its
  have HCC := Lib.hid (And.intro hc hc2)
  clear h1 h2 h3 h4 hL hsv hc hc2
  have HUP : Hid (∀ (W : World), Below n0 w W → ∀ g, Bl n0 g → Bl W.heap.size g) := fun W hb g hg => by have h := hb.size; have : g < n0 := hg; show g < W.heap.size; omega
  obtain ⟨W0, hW0⟩ : ∃ W0, ((w.alloc (.cells #[.int .i64 nw, .slice Ap l.length cp] 24)).alloc (.cells #[.slice A im.length c, .slice A2 sl.length c2] 29)).alloc (.cells #[.slice none 0 0, .slice none 0 0] 29) = W0 := ⟨_, rfl⟩
  have hB0 : Below n0 w W0 := by rw [← hW0, ← hn0]; exact ext_alloc (ext_alloc (ext_alloc (Below.refl _ _)))
  have hs0 : W0.heap.size = n0 + 3 := by rw [← hW0, ← hn0]; simp
  have hr0 : W0.heap[n0]? = some (.cells #[.int .i64 nw, .slice Ap l.length cp] 24 (0, 0)) := by
    rw [← hW0, ← hn0]; exact (Below.heap_alloc _ _ _ (by simp; omega)).trans ((Below.heap_alloc _ _ _ (by simp)).trans (heap_alloc_new _ _))
  have hr1 : W0.heap[n0 + 1]? = some (.cells #[.slice A im.length c, .slice A2 sl.length c2] 29 (0, 0)) := by
    rw [← hW0, ← hn0]
    have h := heap_alloc_new (w.alloc (.cells #[.int .i64 nw, .slice Ap l.length cp] 24)) (.cells #[.slice A im.length c, .slice A2 sl.length c2] 29)
    simp only [World.size_alloc] at h
    exact (Below.heap_alloc _ _ _ (by simp)).trans h
  have hr2 : W0.heap[n0 + 1 + 1]? = some (.cells #[.slice none 0 0, .slice none 0 0] 29 (0, 0)) := by
    rw [← hW0, ← hn0]
    have h := heap_alloc_new ((w.alloc (.cells #[.int .i64 nw, .slice Ap l.length cp] 24)).alloc (.cells #[.slice A im.length c, .slice A2 sl.length c2] 29)) (.cells #[.slice none 0 0, .slice none 0 0] 29)
    simp only [World.size_alloc] at h
    exact h
  have HBF : Hid (∀ W, Below (n0 + 3) W0 W → Below n0 w W) := fun W hb => hB0.trans (hb.mono (by omega))
  have HRP : Hid (∀ W, Below (n0 + 3) W0 W → (W.cell? ⟨n0, 0, none⟩ = some (.int .i64 nw) ∧ W.cell? ⟨n0, 1, none⟩ = some (.slice Ap l.length cp)) ∧ W.cell? ⟨n0 + 1, 0, none⟩ = some (.slice A im.length c) ∧ W.cell? ⟨n0 + 1, 1, none⟩ = some (.slice A2 sl.length c2)) := fun W hb => by
    obtain ⟨a, b, _⟩ := blk2 ((hb.block n0 (by omega)).trans hr0)
    obtain ⟨d, e, _⟩ := blk2 ((hb.block (n0 + 1) (by omega)).trans hr1)
    exact ⟨⟨a, b⟩, d, e⟩
  have HRZ : Hid (∀ W, Below (n0 + 3) W0 W → W.heap[n0 + 1 + 1]? = some (.cells #[.slice none 0 0, .slice none 0 0] 29 (0, 0))) := fun W hb => (hb.block (n0 + 1 + 1) (by omega)).trans hr2
  obtain ⟨pe, hpe⟩ : ∃ q, Hid (polE (nw, l) = q) := ⟨_, Lib.hid rfl⟩
  have HC := Lib.hid (polCheck_any Ap cp l.length nw l pe W0 rfl hpe.out ((H1.out W0 hB0).more (HUP.out W0 hB0)) hnpl)
  obtain ⟨⟨p0, p1⟩, p2, p3⟩ := HRP.out W0 (Below.refl _ _)
  clear hr0 hr1 hr2
  go_enter Tryz.func6, Tryz.ntmps6
  go_wp2_with fail
  refine HC.out.mono ?_
  rintro e w1 ⟨rfl, hb1⟩
  rw [hs0] at hb1
  clear HC hW0 p0 p1 p2 p3
  by_cases hx0 : pe = 0
  case neg =>
    have hx0' : (pe != 0) = true := by simp [hx0]
    have hrz := HRZ.out w1 hb1
    obtain ⟨z0, z1, zf⟩ := blk2 hrz
    have HX : Hid (pruneE (nw, l) (im, sl) now = pe ∧ pruneS (nw, l) (im, sl) pin now = zSns ∧ goneS (nw, l) (im, sl) pin now = []) := by
      have hm : pruneE (nw, l) (im, sl) now = pe := by unfold pruneE; rw [if_pos (by rw [hpe.out]; exact hx0), hpe.out]
      have hne : ¬ pruneE (nw, l) (im, sl) now = 0 := by rw [hm]; first | exact hx0 | decide
      exact ⟨hm, by unfold pruneS; rw [if_neg hne], by unfold goneS; rw [if_neg hne]⟩
    have hbz := HBF.out w1 hb1
    go_wp2_with fail
    have hz := blk2_set hrz (.slice none 0 0) (.slice none 0 0)
    have hbe := ((hbz.setCell (p := ⟨n0 + 1 + 1, 0, none⟩) (by show n0 ≤ n0 + 1 + 1; omega) (.slice none 0 0)).setCell (p := ⟨n0 + 1 + 1, 1, none⟩) (by show n0 ≤ n0 + 1 + 1; omega) (.slice none 0 0))
    have hse := trivial
    change bodyPost _ _ _ _ _ ((w1.setCell ⟨(n0 + 1 + 1), 0, none⟩ (.slice none 0 0)).setCell ⟨(n0 + 1 + 1), 1, none⟩ (.slice none 0 0))
    generalize (w1.setCell ⟨(n0 + 1 + 1), 0, none⟩ (.slice none 0 0)).setCell ⟨(n0 + 1 + 1), 1, none⟩ (.slice none 0 0) = W3 at hz hbe hse ⊢
    obtain ⟨z0, z1, _⟩ := blk2 hz
    refine bodyPost_ret (v := .tuple #[.agg #[(.slice none 0 0), (.slice none 0 0)], .slice none 0 0, .int .i64 pe]) ?_ rfl ?_
    · simp [results, Tryz.results6, Tryz.f6, go_sem, z0, z1]
    rw [HX.out.1, HX.out.2.1, HX.out.2.2]
    exact PruneRet.zero (by rw [hn0]; exact hbe)
  have hx0' : (pe != 0) = false := by simp [hx0]
  have HPE : Hid (polE (nw, l) = 0) := hpe.out.trans hx0
  clear hx0 hpe
  obtain ⟨se, hse⟩ : ∃ q, Hid (snE (im, sl) = q) := ⟨_, Lib.hid rfl⟩
  have hbw1 := HBF.out w1 hb1
  have HC := Lib.hid (snCheck_any A A2 c c2 im.length sl.length im sl se w1 rfl rfl hse.out ((H2.out w1 hbw1).more (HUP.out w1 hbw1)) ((H3.out w1 hbw1).more (HUP.out w1 hbw1)) hl1 (by omega))
  obtain ⟨⟨p0, p1⟩, p2, p3⟩ := HRP.out w1 hb1
  go_wp2_with fail
  refine HC.out.mono ?_
  rintro e w2 ⟨rfl, hb2⟩
  have hbb2 : Below (n0 + 3) W0 w2 := hb1.trans (hb2.mono (by have := hb1.size; omega))
  clear HC p0 p1 p2 p3
  by_cases hx0 : se = 0
  case neg =>
    have hx0' : (se != 0) = true := by simp [hx0]
    have hrz := HRZ.out w2 hbb2
    obtain ⟨z0, z1, zf⟩ := blk2 hrz
    have HX : Hid (pruneE (nw, l) (im, sl) now = se ∧ pruneS (nw, l) (im, sl) pin now = zSns ∧ goneS (nw, l) (im, sl) pin now = []) := by
      have hm : pruneE (nw, l) (im, sl) now = se := by unfold pruneE; rw [if_neg (by rw [HPE.out]; simp), if_pos (by rw [hse.out]; exact hx0), hse.out]
      have hne : ¬ pruneE (nw, l) (im, sl) now = 0 := by rw [hm]; first | exact hx0 | decide
      exact ⟨hm, by unfold pruneS; rw [if_neg hne], by unfold goneS; rw [if_neg hne]⟩
    have hbz := HBF.out w2 hbb2
    go_wp2_with fail
    have hz := blk2_set hrz (.slice none 0 0) (.slice none 0 0)
    have hbe := ((hbz.setCell (p := ⟨n0 + 1 + 1, 0, none⟩) (by show n0 ≤ n0 + 1 + 1; omega) (.slice none 0 0)).setCell (p := ⟨n0 + 1 + 1, 1, none⟩) (by show n0 ≤ n0 + 1 + 1; omega) (.slice none 0 0))
    have hse := trivial
    change bodyPost _ _ _ _ _ ((w2.setCell ⟨(n0 + 1 + 1), 0, none⟩ (.slice none 0 0)).setCell ⟨(n0 + 1 + 1), 1, none⟩ (.slice none 0 0))
    generalize (w2.setCell ⟨(n0 + 1 + 1), 0, none⟩ (.slice none 0 0)).setCell ⟨(n0 + 1 + 1), 1, none⟩ (.slice none 0 0) = W3 at hz hbe hse ⊢
    obtain ⟨z0, z1, _⟩ := blk2 hz
    refine bodyPost_ret (v := .tuple #[.agg #[(.slice none 0 0), (.slice none 0 0)], .slice none 0 0, .int .i64 se]) ?_ rfl ?_
    · simp [results, Tryz.results6, Tryz.f6, go_sem, z0, z1]
    rw [HX.out.1, HX.out.2.1, HX.out.2.2]
    exact PruneRet.zero (by rw [hn0]; exact hbe)
  have hx0' : (se != 0) = false := by simp [hx0]
  have HSE : Hid (snE (im, sl) = 0) := hse.out.trans hx0
  clear hx0 hse
  have hbw2 := HBF.out w2 hbb2
  obtain ⟨⟨p0, p1⟩, p2, p3⟩ := HRP.out w2 hbb2
  obtain ⟨n2, hn2⟩ : ∃ n2, w2.heap.size = n2 := ⟨_, rfl⟩
  have hn23 : n0 + 3 ≤ n2 := by have := hbb2.size; omega
  go_wp2_with fail
  clear p0 p1 p2 p3
  go_loopw [13, 38] (fun v i wr => ∃ (k : Nat) (T : Option Addr) (tc : Nat) (out : List Int), k ≤ sl.length ∧ i = .int .i64 k ∧ v = .slice T out.length tc ∧ Below n2 w2 wr ∧ Hid (out = (sl.take k).map (·.2.1)) ∧ Hid (OwnX (fun _ => False) encInt wr n2 3 (.slice T out.length tc) out)) (fun _ i _ => sl.length - (intOf i).toNat)
  case atStart => exact ⟨0, none, 0, [], by omega, rfl, rfl, Below.refl _ _, by simp [Hid], OwnX.nil_⟩
  case round =>
    obtain ⟨wo, rfl⟩ : ∃ wo : World, wo = wr := ⟨_, rfl⟩
    obtain ⟨k, T, tc, out, hk, rfl, rfl, hB, hout, hown⟩ := hrel
    have hbo : Below (n0 + 3) W0 wo := hbb2.trans (hB.mono (by omega))
    have hbwo := HBF.out wo hbo
    by_cases hlt : k < sl.length
    · obtain ⟨b, off, D, d, rfl, hb, g0, g1, g2, hD, hd1, hd2, hi1, hi2⟩ := (H3.out wo hbwo).snp hlt
      have hst : Hid ((sl.take (k + 1)).map (·.2.1) = (sl.take k).map (·.2.1) ++ [sl[k].2.1]) := by rw [Hid, List.take_succ_eq_append_getElem hlt, List.map_append]; rfl
      obtain ⟨x, hx⟩ : ∃ x, sl[k] = x := ⟨_, rfl⟩
      rw [hx] at g0 g1 g2 hi2 hst
      obtain ⟨num, tm, sv⟩ := x
      simp only at g0 g1 g2 hi2 hst
      have hki : (k : Int) < sl.length := by omega
      have hnn : (0 : Int) ≤ k := by omega
      have hol : out.length ≤ k := by rw [hout.out]; simp; omega
      have hszo := hB.size
      clear hx hD hd1 hi1
      go_upto_region 11 with (fail)
      obtain ⟨V1, hV1⟩ : ∃ V1, wo.alloc (.cells #[.int .i64 num, .int .i64 tm, .slice D sv.length d] 45) = V1 := ⟨_, rfl⟩
      rw [hV1]
      have hv1 : Below wo.heap.size wo V1 := by rw [← hV1]; exact ext_alloc (Below.refl _ _)
      have hrv : V1.heap[wo.heap.size]? = some (.cells #[.int .i64 num, .int .i64 tm, .slice D sv.length d] 45 (0, 0)) := by rw [← hV1]; exact heap_alloc_new _ _
      obtain ⟨_, x1, _, _⟩ := blk3 hrv
      have hlt5 := hown.out.lt
      have hO5 := Lib.hid ((hown.out.below hv1).alloc (.cells #[.int .i64 tm] 3))
      have hO5o := Lib.hid hO5.out.1
      have hsv1 := hv1.size
      have HRD : Hid (encInt.rd (V1.alloc (.cells #[.int .i64 tm] 3)) (fun g => Nw n2 (V1.alloc (.cells #[.int .i64 tm] 3)).heap.size g ∧ ¬ (fun _ => False) g ∧ (Value.slice T out.length tc).ownBlock ≠ some g) [.int .i64 tm] tm) := ⟨rfl, hi2⟩
      clear hV1 g0 g1 g2 hrv
      go_wp2_with (at_builtin; refine Hid.out ?_)
      change wpList _ _ _ _ _ _
      refine wpList_app1 (E := encInt) tyInts38 rfl _ _ rfl rfl hO5o.out tm [.int .i64 tm] rfl HRD.out (heap_alloc_new _ _) (fun _ h => h.1.2) (by simp; omega) (by unfold maxLen; omega) (by omega) ?_
      intro A7 c7 w7 hown7 hg7 hat7
      have hO7 := Lib.hid (hO5.out.app hown7 hg7 hat7 (fun g h => h.elim))
      have hB7 : Hid (Below n2 w2 w7) := ((hB.trans (hv1.mono (by omega))).alloc (by omega) (.cells #[.int .i64 tm] 3)).grown hg7 (by simp; omega) (fun g h => (hlt5 g h).1)
      clear hown7 hg7 hat7 hlt5
      go_wp2
      go_roundw
      case rel =>
        refine ⟨k + 1, A7, c7, out ++ [tm], hlt, by go_num, by simp, hB7.out, by rw [Hid, hst.out, hout.out], ?_⟩
        have := hO7.out; simpa [Hid] using this
      case measure => simp [intOf]; omega
    · have hkk : sl.length = k := by omega
      have hts : Hid (out = timesS sl) := by rw [Hid, hout.out, ← hkk, List.take_length]; rfl
      have htl : Hid (out.length = sl.length) := by rw [hts.out]; simp [Hid, timesS]
      obtain ⟨_, t1, t2, t3⟩ := hown.out.parts
      have HT3 := Lib.hid t3
      have HT12 := Lib.hid (And.intro t1 t2)
      have hkI : ¬ (k : Int) < sl.length := by omega
      clear hkk t1 t2 t3 hout hlt
      obtain ⟨qn, hqn⟩ : ∃ q, Hid (okT now = q) := ⟨_, Lib.hid rfl⟩
      have HI := Lib.hid (inR_any now 0 1073741824 wo qn hqn.out)
      have hx0 : True := trivial
      obtain ⟨qc, hqc⟩ : ∃ q, Hid (decide (okT now = false ∨ now < lastT sl) = q) := ⟨_, Lib.hid rfl⟩
      have hlast : Hid (∀ j, sl.length = j + 1 → ∃ (hj : j < out.length), out[j] = lastT sl) := fun j hj => by
        have h1 : j < out.length := by rw [htl.out]; omega
        refine ⟨h1, ?_⟩
        have h2 := (lastN_take (l := sl) (k := j) (by omega)).2
        rw [← hj, List.take_length] at h2
        rw [h2]
        have e : out = sl.map (·.2.1) := hts.out
        subst e
        simp
      have h0 : Hid (sl.length = 0 → lastT sl = 0) := fun h => by rw [List.eq_nil_of_length_eq_zero h]; rfl
      go_upto_region 13 with (fail)
      go_cut [65] (fun e wx => e = .bool qc ∧ wx = wo)
      case first =>
        go_wp2_with fail
        refine HI.out.mono ?_
        rintro e w3 ⟨rfl, rfl⟩
        clear HI
        cases qn with
        | false =>
          have hE : Hid (true = qc) := by rw [Hid, ← hqc.out, decide_eq_true (Or.inl hqn.out)]
          go_wp2
          go_meet
          exact ⟨by rw [← hE.out], rfl⟩
        | true =>
          have hnw : Hid (0 ≤ now) := by
            have := hqn.out
            simp only [okT, decide_eq_true_eq] at this
            exact this.1
          by_cases hz : sl.length = 0
          · have hE : Hid (false = qc) := by
              rw [Hid, ← hqc.out, decide_eq_false]
              rintro (h | h)
              · rw [hqn.out] at h; cases h
              · rw [h0.out hz] at h; have := hnw.out; omega
            have hoz : ¬ (0 : Int) < out.length := by rw [htl.out]; omega
            clear hz
            go_wp2
            go_meet
            exact ⟨by rw [← hE.out], rfl⟩
          · obtain ⟨j, hj⟩ : ∃ j, sl.length = j + 1 := ⟨sl.length - 1, by omega⟩
            obtain ⟨hjo, hlj⟩ := hlast.out j hj
            obtain ⟨b, off, rfl, hb, g0, _⟩ := HT3.out.int hjo
            rw [hlj] at g0
            obtain ⟨lt, hlt⟩ : ∃ lt, lastT sl = lt := ⟨_, rfl⟩
            rw [hlt] at g0
            have HLT := Lib.hid hlt
            have e5 : (out.length : Int) - 1 = j := by have := htl.out; omega
            have hoz : (0 : Int) < out.length := by omega
            have hjI : (j : Int) < out.length := by omega
            have hjb : (j : Int) ≤ 100000 := by have := htl.out; omega
            have hw5 : IntKind.i64.wrap (j : Int) = j := IntWalk.i64_in _ (by omega)
            have hj0 : (0 : Int) ≤ j := by omega
            have HJ := Lib.hid hj
            clear hlj hlt hz hj
            by_cases hnl : now < lt
            · have hE : Hid (true = qc) := by rw [Hid, ← hqc.out, decide_eq_true (Or.inr (by rw [HLT.out]; exact hnl))]
              go_wp2
              go_meet
              exact ⟨by rw [← hE.out], rfl⟩
            · have hE : Hid (false = qc) := by
                rw [Hid, ← hqc.out, decide_eq_false]
                rintro (h | h)
                · rw [hqn.out] at h; cases h
                · rw [HLT.out] at h; exact hnl h
              go_wp2
              go_meet
              exact ⟨by rw [← hE.out, decide_eq_false (show ¬ now < lt by omega)], rfl⟩
      case rest =>
        obtain ⟨rfl, hwc⟩ := hcut
        subst hwc
        cases qc with
        | true =>
          have hq := of_decide_eq_true hqc.out
          have hrz := HRZ.out wc hbo
          obtain ⟨z0, z1, zf⟩ := blk2 hrz
          have HX : Hid (pruneE (nw, l) (im, sl) now = 24 ∧ pruneS (nw, l) (im, sl) pin now = zSns ∧ goneS (nw, l) (im, sl) pin now = []) := by
            have hm : pruneE (nw, l) (im, sl) now = 24 := by unfold pruneE; rw [if_neg (by rw [HPE.out]; simp), if_neg (by show ¬ snE (im, sl) ≠ 0; rw [HSE.out]; simp), if_pos hq]
            have hne : ¬ pruneE (nw, l) (im, sl) now = 0 := by rw [hm]; first | exact hx0 | decide
            exact ⟨hm, by unfold pruneS; rw [if_neg hne], by unfold goneS; rw [if_neg hne]⟩
          have hbz := HBF.out wc hbo
          go_wp2_with fail
          have hz := blk2_set hrz (.slice none 0 0) (.slice none 0 0)
          have hbe := ((hbz.setCell (p := ⟨n0 + 1 + 1, 0, none⟩) (by show n0 ≤ n0 + 1 + 1; omega) (.slice none 0 0)).setCell (p := ⟨n0 + 1 + 1, 1, none⟩) (by show n0 ≤ n0 + 1 + 1; omega) (.slice none 0 0))
          have hse := trivial
          change bodyPost _ _ _ _ _ ((wc.setCell ⟨(n0 + 1 + 1), 0, none⟩ (.slice none 0 0)).setCell ⟨(n0 + 1 + 1), 1, none⟩ (.slice none 0 0))
          generalize (wc.setCell ⟨(n0 + 1 + 1), 0, none⟩ (.slice none 0 0)).setCell ⟨(n0 + 1 + 1), 1, none⟩ (.slice none 0 0) = W3 at hz hbe hse ⊢
          obtain ⟨z0, z1, _⟩ := blk2 hz
          refine bodyPost_ret (v := .tuple #[.agg #[(.slice none 0 0), (.slice none 0 0)], .slice none 0 0, .int .i64 24]) ?_ rfl ?_
          · simp [results, Tryz.results6, Tryz.f6, go_sem, z0, z1]
          rw [HX.out.1, HX.out.2.1, HX.out.2.2]
          exact PruneRet.zero (by rw [hn0]; exact hbe)
        | false =>
        have HQ0 := Lib.hid (of_decide_eq_false hqc.out)
        have HE0 : Hid (pruneE (nw, l) (im, sl) now = 0) := by
          rw [Hid, pruneE, if_neg (by rw [HPE.out]; simp), if_neg (by show ¬ snE (im, sl) ≠ 0; rw [HSE.out]; simp), if_neg HQ0.out]
        have HNW : Hid (0 ≤ now ∧ now ≤ 1073741824) := by
          have h := HQ0.out
          rw [Hid]
          have : okT now = true := by
            cases ho : okT now with
            | true => rfl
            | false => exact absurd (Or.inl ho) h
          simpa [okT] using this
        have HTS : Hid ((∀ t ∈ out, 0 ≤ t ∧ t ≤ 1073741824) ∧ out.Pairwise (· ≤ ·) ∧ out.length ≤ 1024) := by
          obtain ⟨_, hlen, hok, hpw⟩ := snE_iff.1 HSE.out
          rw [hts.out]
          refine ⟨fun t ht => ?_, ?_, by simpa [timesS] using hlen⟩
          · obtain ⟨x, hx, rfl⟩ := List.mem_map.1 ht
            have := (hok x hx).2.1
            simpa [inT] using this
          · unfold timesS
            rw [List.pairwise_map] at hpw ⊢
            exact hpw.imp (fun h => h.2)
        obtain ⟨n5, hn5⟩ : ∃ n5, wc.heap.size = n5 := ⟨_, rfl⟩
        have hn5s : n2 ≤ n5 := by have := hB.size; omega
        obtain ⟨⟨p0, p1⟩, p2, p3⟩ := HRP.out wc hbo
        obtain ⟨W5, hW5⟩ : ∃ W5, wc.alloc (.cells #[.slice A im.length c, .slice A2 sl.length c2] 29) = W5 := ⟨_, rfl⟩
        have hb5 : Below n5 wc W5 := by rw [← hW5, ← hn5]; exact ext_alloc (Below.refl _ _)
        have hr5 : W5.heap[n5]? = some (.cells #[.slice A im.length c, .slice A2 sl.length c2] 29 (0, 0)) := by rw [← hW5, ← hn5]; exact heap_alloc_new _ _
        have hs5 : n5 < W5.heap.size := (Array.getElem?_eq_some_iff.1 hr5).1
        have hbo5 : Below (n0 + 3) W0 W5 := hbo.trans (hb5.mono (by omega))
        have hbw5 := HBF.out W5 hbo5
        have HW5 := Lib.hid hW5
        clear hW5
        go_upto_region 17 with (fail)
        rw [HW5.out]
        have HMK := Lib.hid (marks_any Ap T cp tc out.length l.length nw now l out W5 rfl rfl ((H1.out W5 hbw5).more (HUP.out W5 hbw5)) ((HT3.out.blk (w' := W5) (fun g hg => hb5.block g (by have := hg.1.2; omega))).more (fun g hg => by have := hg.1.2; show g < W5.heap.size; omega)) HPE.out ⟨HTS.out.1, HTS.out.2.1⟩ HTS.out.2.2 HNW.out)
        clear p0 p1 p2 p3
        obtain ⟨⟨p0, p1⟩, p2, p3⟩ := HRP.out W5 hbo5
        go_wp2_with fail
        refine HMK.out.mono ?_
        rintro e w6 ⟨g, rfl, hg1, hm6, hb6⟩
        obtain ⟨n6, hn6⟩ : ∃ n6, w6.heap.size = n6 := ⟨_, rfl⟩
        have hz56 := hb6.size
        have hgn : g < n6 := by rw [← hn6]; exact hm6.lt
        have HM6 := Lib.hid hm6
        obtain ⟨K, hK⟩ : ∃ K, K = stays (nw, l) sl pin now := ⟨_, rfl⟩
        have HK := Lib.hid hK
        have hb06 : Below (n0 + 3) W0 w6 := hbo5.trans (hb6.mono (by omega))
        have hbw6 := HBF.out w6 hb06
        have hr6 : w6.heap[n5]? = some (.cells #[.slice A im.length c, .slice A2 sl.length c2] 29 (0, 0)) := (hb6.block n5 hs5).trans hr5
        have hI6 : SlAt (encSl encSec) w6 (fun b => b < w6.heap.size ∧ b ≠ n5 ∧ (Value.slice none 0 0).ownBlock ≠ some b ∧ (([] : List Int) ≠ [] → n6 ≤ b)) A im := (H2.out w6 hbw6).more (fun b hb => by have : b < n0 := hb; exact ⟨by omega, by omega, by simp [Value.ownBlock], fun h => absurd rfl h⟩)
        have hS6 : SlAt encSnp w6 (fun b => b < w6.heap.size ∧ b ≠ n5 ∧ (Value.slice none 0 0).ownBlock ≠ some b ∧ (([] : List Int) ≠ [] → n6 ≤ b)) A2 sl := (H3.out w6 hbw6).more (fun b hb => by have : b < n0 := hb; exact ⟨by omega, by omega, by simp [Value.ownBlock], fun h => absurd rfl h⟩)
        clear p0 p1 p2 p3 HMK hm6 hr5 hK
        go_wp2_with fail
        go_loopw [16, 73] (fun v iv wr => ∃ (i : Nat) (G : Option Addr) (gc : Nat) (gone : List Int) (B D : Option Addr) (vc dc : Nat) (ml : List Snp), i ≤ out.length ∧ iv = .int .i64 i ∧ v = .slice G gone.length gc ∧ Hid (pruneT im K sl i = (ml, gone)) ∧ Hid (w6.grownBy wr (some n5)) ∧ Hid (wr.heap[n5]? = some (.cells #[.slice B im.length vc, .slice D ml.length dc] 29 (0, 0))) ∧ Hid (im.length ≤ vc ∧ vc ≤ maxLen ∧ ml.length ≤ dc ∧ dc ≤ maxLen) ∧ Hid (OwnX (fun _ => False) encInt wr n6 3 (.slice G gone.length gc) gone) ∧ Hid (SlAt (encSl encSec) wr (fun b => b < wr.heap.size ∧ b ≠ n5 ∧ (Value.slice G gone.length gc).ownBlock ≠ some b ∧ (gone ≠ [] → n6 ≤ b)) B im) ∧ Hid (SlAt encSnp wr (fun b => b < wr.heap.size ∧ b ≠ n5 ∧ (Value.slice G gone.length gc).ownBlock ≠ some b ∧ (gone ≠ [] → n6 ≤ b)) D ml)) (fun _ iv _ => out.length - (intOf iv).toNat)
        case atStart => exact ⟨0, none, 0, [], A, A2, c, c2, sl, by omega, rfl, rfl, rfl, grown_reflR _ _, hr6, ⟨HCC.out.1.1, HCC.out.1.2, HCC.out.2.1, HCC.out.2.2⟩, OwnX.nil_, hI6, hS6⟩
        case round =>
          obtain ⟨wo, rfl⟩ : ∃ wo : World, wo = wr := ⟨_, rfl⟩
          obtain ⟨i, G, gc, gone, B, D, vc, dc, ml, hi, rfl, rfl, HPT, HG, HROW, HCAP, HO, HIM, HML⟩ := hrel
          have hzo := HG.out.size
          have hbwo : Below n0 w wo := hbw6.grown HG.out (by omega) (fun b hb => by injection hb with hb; omega)
          have HVAR : Hid (∀ W : World, (∀ b, b < n0 + 3 → W.heap[b]? = wo.heap[b]?) → (W.cell? ⟨n0 + 1, 0, none⟩ = some (.slice A im.length c) ∧ W.cell? ⟨n0 + 1, 1, none⟩ = some (.slice A2 sl.length c2))) := fun W hW => by
            have e1 : W.heap[n0 + 1]? = w6.heap[n0 + 1]? := (hW (n0 + 1) (by omega)).trans (HG.out.block (n0 + 1) (by omega) (by simp; omega))
            obtain ⟨_, q2, q3⟩ := HRP.out w6 hb06
            exact ⟨(World.cell?_of_block (a := ⟨n0 + 1, 0, none⟩) e1).trans q2, (World.cell?_of_block (a := ⟨n0 + 1, 1, none⟩) e1).trans q3⟩
          by_cases hlt : i < out.length
          · have hil : i < sl.length := by have := htl.out; omega
            have hiI : (i : Int) < out.length := by omega
            have hi0 : (0 : Int) ≤ i := by omega
            have hiS : (i : Int) < sl.length := by omega
            obtain ⟨m0, _⟩ := (MarkAt.blk HM6.out (HG.out.block g (by omega) (by have := hg1; simp; omega))).cell hlt
            obtain ⟨b, off, Dx, dx, rfl, hb, g0, _, _, _, _, _, hin, _⟩ := (H3.out wo hbwo).snp hil
            obtain ⟨num, hnum⟩ : ∃ num, sl[i].1 = num := ⟨_, rfl⟩
            rw [hnum] at g0 hin
            have HNUM : Hid (numAt sl i = num) := by rw [Hid, numAt_eq hil, hnum]
            have hKi : Hid (K i = (keptB (nw, l) out now i || pin.contains num)) := by rw [Hid, HK.out, stays, hts.out, HNUM.out]
            obtain ⟨q, hq⟩ : ∃ q, keptB (nw, l) out now i = q := ⟨_, rfl⟩
            rw [hq] at m0 hKi
            obtain ⟨v0, v1⟩ := HVAR.out wo (fun _ _ => rfl)
            clear hq hnum
            cases q with
            | true =>
              have hst : Hid (pruneT im K sl (i + 1) = (ml, gone)) := by rw [Hid, pruneT_stay (by rw [hKi.out]; rfl)]; exact HPT.out
              go_wp2_with fail
              go_roundw
              case rel => exact ⟨i + 1, G, gc, gone, B, D, vc, dc, ml, hlt, by go_num, rfl, hst.out, HG.out, HROW.out, HCAP.out, HO.out, HIM.out, HML.out⟩
              case measure => simp [intOf]; omega
            | false =>
              obtain ⟨qp, hqp⟩ : ∃ q, Hid (pin.contains num = q) := ⟨_, Lib.hid rfl⟩
              have HCT := Lib.hid (containsI_any Ag cg pin.length pin num qp wo rfl ((H4.out wo hbwo).more (HUP.out wo hbwo)) hngl hqp.out)
              go_wp2_with fail
              refine HCT.out.mono ?_
              rintro e w8 ⟨rfl, rfl⟩
              clear HCT
              cases qp with
              | true =>
                have hst : Hid (pruneT im K sl (i + 1) = (ml, gone)) := by rw [Hid, pruneT_stay (by rw [hKi.out, hqp.out]; rfl)]; exact HPT.out
                go_wp2_with fail
                go_roundw
                case rel => exact ⟨i + 1, G, gc, gone, B, D, vc, dc, ml, hlt, by go_num, rfl, hst.out, HG.out, HROW.out, HCAP.out, HO.out, HIM.out, HML.out⟩
                case measure => simp [intOf]; omega
              | false =>
                have hKf : K i = false := by rw [hKi.out, hqp.out]; rfl
                have hinv := pruneT_inv (K := K) HSE.out i (by omega)
                rw [HPT.out] at hinv
                have hdrop := hinv.drop HSE.out hil hKf
                rw [HNUM.out] at hdrop
                have hlim := hinv.lim HLM.out HSV.out
                have hgl : gone.length ≤ 100000 := by have h : ml.length + gone.length = sl.length := hinv.len; omega
                have hst0 := pruneT_drop (im := im) (l := sl) (K := K) (i := i) hKf
                rw [HPT.out, HNUM.out] at hst0
                obtain ⟨m', hm'⟩ : ∃ m', (sDelete (im, ml) num).2 = m' := ⟨_, rfl⟩
                have hsd : sDelete (im, ml) num = (im, m') := by rw [← hm']; exact Prod.ext hdrop.2.1 rfl
                have hst : Hid (pruneT im K sl (i + 1) = (m', gone ++ [num])) := by rw [Hid, hst0, hm']
                have HDL : Hid (Calls Tryz.prog 22 #[.agg #[.slice B im.length vc, .slice D ml.length dc], .int .i64 num] w8 (SnRetE (im, m') 0 w8)) := by
                  have h := snDelete_any B D vc dc im.length ml.length im ml num w8 rfl rfl (HIM.out.more (fun b hb => hb.1)) (HML.out.more (fun b hb => hb.1)) hlim.1 hlim.2
                  rw [hsd, hdrop.1] at h
                  exact h
                obtain ⟨y0, y1, yf⟩ := blk2 HROW.out
                clear hinv hdrop hlim hst0 hsd hm' v0 v1 m0 g0
                go_wp2_with fail
                refine HDL.out.mono ?_
                rintro e w9 ⟨B', vc', D', dc', mid, rfl, hsr, hb9⟩
                obtain ⟨⟨d1, d2, d3⟩, d4, d5, d6⟩ := hsr.read
                obtain ⟨W9, hW9⟩ : ∃ W9, w9.alloc (.cells #[.slice B' im.length vc', .slice D' m'.length dc'] 29) = W9 := ⟨_, rfl⟩
                obtain ⟨n9, hn9⟩ : ∃ n, w9.heap.size = n := ⟨_, rfl⟩
                have hz9 := hb9.size
                have hbn : Below w9.heap.size w9 W9 := by rw [← hW9]; exact ext_alloc (Below.refl _ _)
                have hrn : W9.heap[n9]? = some (.cells #[.slice B' im.length vc', .slice D' m'.length dc'] 29 (0, 0)) := by rw [← hW9, ← hn9]; exact heap_alloc_new _ _
                have hzn := hbn.size
                rw [hn9] at hz9 hzn
                have hb8 : Below w8.heap.size w8 W9 := ext_trans hb9 hbn
                have hz8 := HO.out.lt
                have HD3 := Lib.hid (show SlAt (encSl encSec) W9 (fun b => w8.heap.size ≤ b ∧ b < n9) B' im from (d3.blk (fun g hg => hbn.block g hg.2)).more (fun g hg => ⟨hg.1, by have := hg.2; omega⟩))
                have HD6 := Lib.hid (show SlAt encSnp W9 (fun b => w8.heap.size ≤ b ∧ b < n9) D' m' from (d6.blk (fun g hg => hbn.block g hg.2)).more (fun g hg => ⟨hg.1, by have := hg.2; omega⟩))
                have HDC := Lib.hid (And.intro (And.intro d1 d2) (And.intro d4 d5))
                have HO9 := Lib.hid (HO.out.below hb8)
                have h58 : n5 < w8.heap.size := (Array.getElem?_eq_some_iff.1 HROW.out).1
                have hr59 := (hb8.block n5 h58).trans HROW.out
                have HG9 : Hid (w6.grownBy W9 (some n5)) := grown_below HG.out hb8
                have hn9l : n9 < W9.heap.size := (Array.getElem?_eq_some_iff.1 hrn).1
                have HW9 := Lib.hid hW9
                clear d1 d2 d3 d4 d5 d6 hsr hb9 hbn hW9 y0 y1 yf HIM HML HO HROW
                obtain ⟨y0, y1, yf⟩ := blk2 hr59
                go_upto_region 25 with (fail)
                rw [HW9.out]
                have h56 : n5 < n6 := by omega
                have hoown : Hid (∀ b, b = n5 ∨ b = n9 → (Value.slice G gone.length gc).ownBlock ≠ some b) := fun b hb h => by have := hz8 b h; omega
                have hal : ∀ b, b = n5 ∨ b = n9 → b < W9.heap.size := fun b hb => by omega
                have HAL := Lib.hid hal
                have HSY : Hid (∀ W : World, (∀ b, b = n5 ∨ b = n9 → W.heap[b]? = W9.heap[b]?) → (W.cell? ⟨n9, 0, none⟩ = some (.slice B' im.length vc') ∧ W.cell? ⟨n9, 1, none⟩ = some (.slice D' m'.length dc')) ∧ (W.cell? ⟨n5, 0, none⟩ = some (.slice B im.length vc) ∧ W.cell? ⟨n5, 1, none⟩ = some (.slice D ml.length dc)) ∧ ∀ j, W.frozen? ⟨n5, j, none⟩ = false) := fun W hb => by
                  obtain ⟨q0, q1, _⟩ := blk2 ((hb n9 (Or.inr rfl)).trans hrn)
                  obtain ⟨q2, q3, qf⟩ := blk2 ((hb n5 (Or.inl rfl)).trans hr59)
                  exact ⟨⟨q0, q1⟩, ⟨q2, q3⟩, qf⟩
                have hO4 := Lib.hid ((HO9.out.below (Below.refl W9.heap.size W9).drew).alloc (.cells #[.int .i64 num] 3))
                have hO4o := Lib.hid hO4.out.1
                have HRD : Hid (encInt.rd (W9.drew.alloc (.cells #[.int .i64 num] 3)) (fun b => Nw n6 (W9.drew.alloc (.cells #[.int .i64 num] 3)).heap.size b ∧ ¬ (fun _ => False) b ∧ (Value.slice G gone.length gc).ownBlock ≠ some b) [.int .i64 num] num) := ⟨rfl, hin⟩
                obtain ⟨⟨s0, s1⟩, ⟨s2, s3⟩, sf⟩ := HSY.out W9.drew (fun _ _ => rfl)
                obtain ⟨⟨u0, u1⟩, ⟨u2, u3⟩, uf⟩ := HSY.out (W9.alloc (.cells #[.int .i64 num] 3)) (fun b hb => Below.heap_alloc W9 _ b (hal b hb))
                obtain ⟨⟨v0, v1⟩, ⟨v2, v3⟩, vf⟩ := HSY.out (W9.drew.alloc (.cells #[.int .i64 num] 3)) (fun b hb => Below.heap_alloc W9.drew _ b (hal b hb))
                clear hal y0 y1 yf
                go_region_law (refine step_app1 (E := encInt) tyInts38 rfl _ _ rfl rfl hO4o.out num [.int .i64 num] rfl HRD.out (heap_alloc_new _ _) (fun _ h => h.1.2) (by simp; omega) (by unfold maxLen; omega) (by omega) ?_; intro A6 c6 w10 hown6 hg6 hat6; have hk6 : Hid (∀ b, b = n5 ∨ b = n9 → w10.heap[b]? = W9.heap[b]?) := fun b hb => (hg6.block b (by have := HAL.out b hb; simp; omega) (fun e => hoown.out b hb e.symm)).trans (Below.heap_alloc W9.drew _ b (HAL.out b hb)); obtain ⟨⟨t0, t1⟩, ⟨t2, t3⟩, tf⟩ := HSY.out w10 hk6.out)
                all_goals
                  have hro7 : Hid (((w10.setCell ⟨n5, 0, none⟩ (.slice B' im.length vc')).setCell ⟨n5, 1, none⟩ (.slice D' m'.length dc')).heap[n5]? = some (.cells #[.slice B' im.length vc', .slice D' m'.length dc'] 29 (0, 0))) := blk2_set ((hk6.out n5 (Or.inl rfl)).trans hr59) (.slice B' im.length vc') (.slice D' m'.length dc')
                  have hso : ∀ g, g ≠ n5 → ((w10.setCell ⟨n5, 0, none⟩ (.slice B' im.length vc')).setCell ⟨n5, 1, none⟩ (.slice D' m'.length dc')).heap[g]? = w10.heap[g]? := fun g hg => (heap_setCell_other _ ⟨n5, 1, none⟩ g _ hg).trans (heap_setCell_other _ ⟨n5, 0, none⟩ g _ hg)
                  have hss : ((w10.setCell ⟨n5, 0, none⟩ (.slice B' im.length vc')).setCell ⟨n5, 1, none⟩ (.slice D' m'.length dc')).heap.size = w10.heap.size := by simp [World.setCell]
                  have hO7 : Hid (OwnX (fun _ => False) encInt ((w10.setCell ⟨n5, 0, none⟩ (.slice B' im.length vc')).setCell ⟨n5, 1, none⟩ (.slice D' m'.length dc')) n6 3 (.slice A6 (gone.length + 1) c6) (gone ++ [num])) := by
                    have h := hO4.out.app hown6 hg6 hat6 (fun b hb => hb.elim)
                    exact h.keep (by rw [hss]; exact Nat.le_refl _) (fun g hg _ _ => hso g (by omega))
                  have hgs6 : W9.heap.size + 1 ≤ w10.heap.size := by have := hg6.size; simp at this; omega
                  have hG7 : Hid (w6.grownBy ((w10.setCell ⟨n5, 0, none⟩ (.slice B' im.length vc')).setCell ⟨n5, 1, none⟩ (.slice D' m'.length dc')) (some n5)) := by
                    refine grown_setR (grown_setR ⟨hg6.os.trans HG9.out.os, hg6.tape.trans HG9.out.tape, hg6.output.trans HG9.out.output, by have := HG9.out.size; omega, fun k hk hn => ?_⟩ 0 _) 1 _
                    have hgz := HG9.out.size
                    refine (hg6.block k (by simp; omega) (fun e => ?_)).trans ((Below.heap_alloc W9.drew _ k (by show k < W9.heap.size; omega)).trans (HG9.out.block k hk hn))
                    have := (hz8 k e.symm).1
                    omega
                  have hbk : ∀ g, w8.heap.size ≤ g → g < n9 → ((w10.setCell ⟨n5, 0, none⟩ (.slice B' im.length vc')).setCell ⟨n5, 1, none⟩ (.slice D' m'.length dc')).heap[g]? = W9.heap[g]? := fun g h1 h2 =>
                    (hso g (by omega)).trans ((hg6.block g (by simp; omega) (fun e => by have := (hz8 g e.symm).2; omega)).trans (Below.heap_alloc W9.drew _ g (by show g < W9.heap.size; omega)))
                  have hne : ∀ g, w8.heap.size ≤ g → g < n9 → (Value.slice A6 (gone.length + 1) c6).ownBlock ≠ some g := fun g h1 h2 e => by
                    rcases hat6 with hat | hat
                    · rw [hat] at e; have := (hz8 g e).2; omega
                    · rw [hat] at e; injection e with e; simp at e; omega
                  have hD3 : Hid (SlAt (encSl encSec) ((w10.setCell ⟨n5, 0, none⟩ (.slice B' im.length vc')).setCell ⟨n5, 1, none⟩ (.slice D' m'.length dc')) (fun b => b < ((w10.setCell ⟨n5, 0, none⟩ (.slice B' im.length vc')).setCell ⟨n5, 1, none⟩ (.slice D' m'.length dc')).heap.size ∧ b ≠ n5 ∧ (Value.slice A6 (gone.length + 1) c6).ownBlock ≠ some b ∧ (gone ++ [num] ≠ [] → n6 ≤ b)) B' im) := (HD3.out.blk (fun g hg => hbk g hg.1 hg.2)).more (fun g hg => ⟨by rw [hss]; have := hg.2; omega, by have := hg.1; omega, hne g hg.1 hg.2, fun _ => by have := hg.1; omega⟩)
                  have hD6 : Hid (SlAt encSnp ((w10.setCell ⟨n5, 0, none⟩ (.slice B' im.length vc')).setCell ⟨n5, 1, none⟩ (.slice D' m'.length dc')) (fun b => b < ((w10.setCell ⟨n5, 0, none⟩ (.slice B' im.length vc')).setCell ⟨n5, 1, none⟩ (.slice D' m'.length dc')).heap.size ∧ b ≠ n5 ∧ (Value.slice A6 (gone.length + 1) c6).ownBlock ≠ some b ∧ (gone ++ [num] ≠ [] → n6 ≤ b)) D' m') := (HD6.out.blk (fun g hg => hbk g hg.1 hg.2)).more (fun g hg => ⟨by rw [hss]; have := hg.2; omega, by have := hg.1; omega, hne g hg.1 hg.2, fun _ => by have := hg.1; omega⟩)
                  have hle7 : Hid ((gone ++ [num]).length = gone.length + 1) := by simp [Hid]
                  clear hown6 hg6 hat6 hk6 hso hss hbk hne hgs6 t0 t1 t2 t3 tf
                  generalize (w10.setCell ⟨n5, 0, none⟩ (.slice B' im.length vc')).setCell ⟨n5, 1, none⟩ (.slice D' m'.length dc') = w11 at hro7 hO7 hG7 hD3 hD6 ⊢
                  go_wp2_with fail
                  go_roundw
                  case rel => exact ⟨i + 1, A6, c6, gone ++ [num], B', D', vc', dc', m', hlt, by go_num, by rw [hle7.out], hst.out, hG7.out, hro7.out, ⟨HDC.out.1.1, HDC.out.1.2, HDC.out.2.1, HDC.out.2.2⟩, by rw [Hid, hle7.out]; exact hO7.out, by rw [Hid, hle7.out]; exact hD3.out, by rw [Hid, hle7.out]; exact hD6.out⟩
                  case measure => simp [intOf]; omega
          · have hie : i = sl.length := by have := htl.out; omega
            have hiI : ¬ (i : Int) < out.length := by omega
            have HPF : Hid (pruneT im K sl sl.length = (ml, gone)) := by rw [Hid, ← hie]; exact HPT.out
            have HPS : Hid (pruneS (nw, l) (im, sl) pin now = (im, ml) ∧ goneS (nw, l) (im, sl) pin now = gone) := by
              have h := HPF.out
              rw [HK.out] at h
              unfold pruneS goneS
              rw [if_pos HE0.out, if_pos HE0.out]
              exact ⟨by rw [h], by rw [h]⟩
            have hrz : wo.heap[n0 + 1 + 1]? = some (.cells #[.slice none 0 0, .slice none 0 0] 29 (0, 0)) := (HG.out.block (n0 + 1 + 1) (by omega) (by simp; omega)).trans (HRZ.out w6 hb06)
            have hrow := HROW.out
            obtain ⟨v0, v1⟩ := HVAR.out wo (fun b hb => rfl)
            obtain ⟨z0, z1, zf⟩ := blk2 hrz
            obtain ⟨y0, y1, yf⟩ := blk2 hrow
            by_cases hg0 : gone.length = 0
            · have hge : Hid (gone = []) := List.eq_nil_of_length_eq_zero hg0
              have hml : Hid (ml = sl) := by
                have h := pruneT_nil (im := im) (l := sl) (K := K) sl.length
                rw [HPF.out] at h
                exact h hge.out
              have hgI : ((gone.length : Int) == 0) = true := by simp [hg0]
              have HCL := Lib.hid (cloned38_any A A2 c c2 im.length sl.length im sl wo rfl rfl ((H2.out wo hbwo).more (HUP.out wo hbwo)) ((H3.out wo hbwo).more (HUP.out wo hbwo)) HLM.out)
              clear hie hlt hi
              go_wp2_with fail
              refine HCL.out.mono ?_
              rintro e w9 ⟨B9, vc9, D9, dc9, mid9, rfl, hs9, hb9⟩
              obtain ⟨⟨d1, d2, d3⟩, d4, d5, d6⟩ := hs9.read
              obtain ⟨_, o1, o2, _⟩ := HO.out.parts
              have h5o : n5 < wo.heap.size := (Array.getElem?_eq_some_iff.1 hrow).1
              have hz9 := hb9.size
              have hr59 := (hb9.block n5 h5o).trans hrow
              have hrz9 := (hb9.block (n0 + 1 + 1) (by omega)).trans hrz
              have hbw9 : Below n0 w w9 := hbwo.trans (hb9.mono (by omega))
              have hrz10 : ((w9.setCell ⟨n5, 0, none⟩ (.slice B9 im.length vc9)).setCell ⟨n5, 1, none⟩ (.slice D9 sl.length dc9)).heap[n0 + 1 + 1]? = some (.cells #[.slice none 0 0, .slice none 0 0] 29 (0, 0)) := ((heap_setCell_other _ ⟨n5, 1, none⟩ _ _ (by show n0 + 1 + 1 ≠ n5; omega)).trans (heap_setCell_other _ ⟨n5, 0, none⟩ _ _ (by show n0 + 1 + 1 ≠ n5; omega))).trans hrz9
              have hr510 := blk2_set hr59 (.slice B9 im.length vc9) (.slice D9 sl.length dc9)
              have hb10 := (hbw9.setCell (p := ⟨n5, 0, none⟩) (by show n0 ≤ n5; omega) (.slice B9 im.length vc9)).setCell (p := ⟨n5, 1, none⟩) (by show n0 ≤ n5; omega) (.slice D9 sl.length dc9)
              have hd3 := d3.nw2 (b := n5) (lo := wo.heap.size) (fun g hg => ⟨by have := hg.1; omega, hg.1, hg.2⟩) (.slice B9 im.length vc9) (.slice D9 sl.length dc9)
              have hd6 := d6.nw2 (b := n5) (lo := wo.heap.size) (fun g hg => ⟨by have := hg.1; omega, hg.1, hg.2⟩) (.slice B9 im.length vc9) (.slice D9 sl.length dc9)
              have HDD := Lib.hid (And.intro hd3 hd6)
              have HDC := Lib.hid (And.intro (And.intro d1 d2) (And.intro d4 d5))
              have HGC := Lib.hid (And.intro o1 o2)
              have HB10 := Lib.hid hb10
              have HR10 := Lib.hid (And.intro hrz10 hr510)
              clear d1 d2 d3 d4 d5 d6 hs9 hrow hrz z0 z1 zf y0 y1 yf hd3 hd6 o1 o2 hb10 hrz10 hr510
              obtain ⟨y0, y1, yf⟩ := blk2 hr59
              go_upto_region 29 with (fail)
              have hpk := And.intro HDD.out (And.intro HB10.out HR10.out)
              clear HDD HB10 HR10 y0 y1 yf hr59 hrz9
              generalize (w9.setCell ⟨n5, 0, none⟩ (.slice B9 im.length vc9)).setCell ⟨n5, 1, none⟩ (.slice D9 sl.length dc9) = W10 at hpk ⊢
              obtain ⟨⟨hd3, hd6⟩, hb10, hrz10, hr510⟩ := hpk
              obtain ⟨y0, y1, _⟩ := blk2 hr510
              obtain ⟨z0, z1, zf⟩ := blk2 hrz10
              have hd3' := hd3.nw2 (b := n0 + 1 + 1) (lo := n0) (fun g hg => ⟨by have := hg.1; omega, by have := hg.1; omega, hg.2⟩) (.slice B9 im.length vc9) (.slice D9 sl.length dc9)
              have hd6' := hd6.nw2 (b := n0 + 1 + 1) (lo := n0) (fun g hg => ⟨by have := hg.1; omega, by have := hg.1; omega, hg.2⟩) (.slice B9 im.length vc9) (.slice D9 sl.length dc9)
              go_wp2_with fail
              have hz := blk2_set hrz10 (.slice B9 im.length vc9) (.slice D9 sl.length dc9)
              have hbe := ((hb10.setCell (p := ⟨n0 + 1 + 1, 0, none⟩) (by show n0 ≤ n0 + 1 + 1; omega) (.slice B9 im.length vc9)).setCell (p := ⟨n0 + 1 + 1, 1, none⟩) (by show n0 ≤ n0 + 1 + 1; omega) (.slice D9 sl.length dc9))
              have hse := (And.intro hd3' hd6')
              change bodyPost _ _ _ _ _ ((W10.setCell ⟨(n0 + 1 + 1), 0, none⟩ (.slice B9 im.length vc9)).setCell ⟨(n0 + 1 + 1), 1, none⟩ (.slice D9 sl.length dc9))
              generalize (W10.setCell ⟨(n0 + 1 + 1), 0, none⟩ (.slice B9 im.length vc9)).setCell ⟨(n0 + 1 + 1), 1, none⟩ (.slice D9 sl.length dc9) = W3 at hz hbe hse ⊢
              obtain ⟨z0, z1, _⟩ := blk2 hz
              refine bodyPost_ret (v := .tuple #[.agg #[(.slice B9 im.length vc9), (.slice D9 sl.length dc9)], .slice G 0 gc, .int .i64 0]) ?_ rfl ?_
              · simp [results, Tryz.results6, Tryz.f6, go_sem, z0, z1]
              rw [HPS.out.1, HPS.out.2, HE0.out, hml.out, hge.out]
              exact ⟨B9, vc9, D9, dc9, G, gc, rfl, ⟨HDC.out.1.1, HDC.out.1.2, by rw [hn0]; exact hse.1⟩, ⟨HDC.out.2.1, HDC.out.2.2, by rw [hn0]; exact hse.2⟩, ⟨by simp, HGC.out.2, SlAt.nil_⟩, by rw [hn0]; exact hbe⟩
            · have hgI : ((gone.length : Int) == 0) = false := by rw [beq_eq_false_iff_ne]; omega
              have hgn0 : gone ≠ [] := fun h => hg0 (by rw [h]; rfl)
              obtain ⟨_, o1, o2, o3⟩ := HO.out.parts
              have hi3 := HIM.out.nw2 (b := n0 + 1 + 1) (lo := n0) (fun g hg => ⟨by have := hg.2.2.2 hgn0; omega, by have := hg.2.2.2 hgn0; omega, hg.1⟩) (.slice B im.length vc) (.slice D ml.length dc)
              have hi6 := HML.out.nw2 (b := n0 + 1 + 1) (lo := n0) (fun g hg => ⟨by have := hg.2.2.2 hgn0; omega, by have := hg.2.2.2 hgn0; omega, hg.1⟩) (.slice B im.length vc) (.slice D ml.length dc)
              have hi9 := o3.nw2 (b := n0 + 1 + 1) (lo := n0) (fun g hg => ⟨by have := hg.1.1; omega, by have := hg.1.1; omega, hg.1.2⟩) (.slice B im.length vc) (.slice D ml.length dc)
              have HI := Lib.hid (And.intro hi3 (And.intro hi6 hi9))
              have HGC := Lib.hid (And.intro o1 o2)
              clear hie hlt hi hi3 hi6 hi9 o1 o2 o3
              go_wp2_with fail
              have hz := blk2_set hrz (.slice B im.length vc) (.slice D ml.length dc)
              have hbe := ((hbwo.setCell (p := ⟨n0 + 1 + 1, 0, none⟩) (by show n0 ≤ n0 + 1 + 1; omega) (.slice B im.length vc)).setCell (p := ⟨n0 + 1 + 1, 1, none⟩) (by show n0 ≤ n0 + 1 + 1; omega) (.slice D ml.length dc))
              have hse := HI.out
              change bodyPost _ _ _ _ _ ((wo.setCell ⟨(n0 + 1 + 1), 0, none⟩ (.slice B im.length vc)).setCell ⟨(n0 + 1 + 1), 1, none⟩ (.slice D ml.length dc))
              generalize (wo.setCell ⟨(n0 + 1 + 1), 0, none⟩ (.slice B im.length vc)).setCell ⟨(n0 + 1 + 1), 1, none⟩ (.slice D ml.length dc) = W3 at hz hbe hse ⊢
              obtain ⟨z0, z1, _⟩ := blk2 hz
              refine bodyPost_ret (v := .tuple #[.agg #[(.slice B im.length vc), (.slice D ml.length dc)], .slice G gone.length gc, .int .i64 0]) ?_ rfl ?_
              · simp [results, Tryz.results6, Tryz.f6, go_sem, z0, z1]
              rw [HPS.out.1, HPS.out.2, HE0.out]
              exact ⟨B, vc, D, dc, G, gc, rfl, ⟨HCAP.out.1, HCAP.out.2.1, by rw [hn0]; exact hse.1⟩, ⟨HCAP.out.2.2.1, HCAP.out.2.2.2, by rw [hn0]; exact hse.2.1⟩, ⟨HGC.out.1, HGC.out.2, by rw [hn0]; exact hse.2.2⟩, by rw [hn0]; exact hbe⟩
end Go.Proofs.YtnkmklnlaepdeaaGreat

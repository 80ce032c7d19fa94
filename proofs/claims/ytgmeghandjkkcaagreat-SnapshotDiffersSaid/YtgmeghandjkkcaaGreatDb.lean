/-
  The write of a step.
  A run of steps over snapshots: the memory of its state; plain words.
  A run of steps over snapshots: what a step leaves in memory.
-/
import Derived.Test.YtgmeghandjkkcaaGreatPo
import Derived.Test.YtgmeghandjkkcaaGreatSn5
import Derived.Deep.DeepCutAuto
import Derived.Test.YtgmeghandjkkcaaGreatSn6
import Derived.Test.YtgmeghandjkkcaaGreatIm
set_option linter.unusedVariables false
set_option linter.unusedSimpArgs false
set_option linter.unusedSectionVars false
set_option linter.unnecessarySimpa false
namespace Go.Proofs.YtgmeghandjkkcaaGreat
open Go.RowKit Go.Shelf
attribute [local go_sem] Oper.semAt_some

def stSec (f : Int) (i : Nat) : Sec := [f, (i : Int), 0, 0, 0, 0, 0, 0]
def stN (x : Stp) : Int := if x.2.1 % 2 = 0 then 5 else 3
def stK (x : Stp) : Nat := (x.2.2.2.1 % (stN x - x.2.2.1 % stN x)).toNat
/-- the write of a step -/
def dataW (x : Stp) : Wr := (x.2.1 % 2, x.2.2.1 % stN x, (List.range (stK x + 1)).map (stSec x.2.2.2.2))
def U8 (n : Int) : Prop := 0 ≤ n ∧ n < 256
def OkStp (x : Stp) : Prop := U8 x.1 ∧ U8 x.2.1 ∧ U8 x.2.2.1 ∧ U8 x.2.2.2.1 ∧ U8 x.2.2.2.2
theorem data_fits (x : Stp) (h : OkStp x) : fitsN [5, 3] (dataW x) = 0 := by
  obtain ⟨k, v, s, c, f⟩ := x
  obtain ⟨_, h1, h2, h3, h4⟩ := h
  simp only [U8] at h1 h2 h3 h4
  unfold dataW stK stN
  simp only
  by_cases hv : v % 2 = 0
  · rw [if_pos hv, hv]
    have hb : 0 ≤ c % (5 - s % 5) ∧ c % (5 - s % 5) < 5 - s % 5 := ⟨Int.emod_nonneg _ (by omega), Int.emod_lt_of_pos _ (by omega)⟩
    refine fitsN_mk (by omega) (by simp) (by simp) (by omega) ?_
    simp only [List.length_map, List.length_range]
    show s % 5 + _ ≤ (5 : Int)
    omega
  · rw [if_neg hv, show v % 2 = 1 by omega]
    have hb : 0 ≤ c % (3 - s % 3) ∧ c % (3 - s % 3) < 3 - s % 3 := ⟨Int.emod_nonneg _ (by omega), Int.emod_lt_of_pos _ (by omega)⟩
    refine fitsN_mk (by omega) (by simp) (by simp) (by omega) ?_
    simp only [List.length_map, List.length_range]
    show s % 3 + _ ≤ (3 : Int)
    omega
set_option maxHeartbeats 1000000 in
theorem sizes36_any (w : World) : Calls Tryz.prog 26 #[] w fun e w' => ∃ g, e = .returned (.slice (some ⟨g, 0, none⟩) 2 2) ∧ w.heap.size ≤ g ∧ w'.heap[g]? = some (.cells #[.int .i64 5, .int .i64 3] 3 (0, 0)) ∧ Below w.heap.size w w' := by
  go_enter Tryz.func26, Tryz.ntmps26
  go_wp2
  go_ret
  exact ⟨w.heap.size, rfl, Nat.le_refl _, heap_alloc_new _ _, ext_alloc (Below.refl _ _)⟩
theorem blk3_set3 {w : World} {b : Nat} {T : TypeId} {c0 c1 c2 : Value} (h : w.heap[b]? = some (.cells #[c0, c1, c2] T (0, 0))) (u v t : Value) : (((w.setCell ⟨b, 0, none⟩ u).setCell ⟨b, 1, none⟩ v).setCell ⟨b, 2, none⟩ t).heap[b]? = some (.cells #[u, v, t] T (0, 0)) := by
  simp [World.setCell, Array.getElem?_modify, h]
set_option maxHeartbeats 4000000 in
set_option maxRecDepth 100000 in
theorem data_any (a b s c f : Int) (hx : OkStp (a, b, s, c, f)) (v0 s0 : Int) (d : List Sec) (hd : dataW (a, b, s, c, f) = (v0, s0, d)) (w : World) :
    Calls Tryz.prog 28 #[.agg #[.int .u8 a, .int .u8 b, .int .u8 s, .int .u8 c, .int .u8 f]] w fun e w' => ∃ D dc, e = .returned (.agg #[.int .i64 v0, .int .i64 s0, .slice D d.length dc]) ∧ d.length ≤ dc ∧ dc ≤ maxLen ∧ SlAt encSec w' (Nw w.heap.size w'.heap.size) D d ∧ Below w.heap.size w w' := by
  obtain ⟨_, h1, h2, h3, h4⟩ := hx
  simp only [U8] at h1 h2 h3 h4
  obtain ⟨hb0, hb1⟩ := h1
  obtain ⟨hs0, hs1⟩ := h2
  obtain ⟨hc0, hc1⟩ := h3
  obtain ⟨hf0, hf1⟩ := h4
  obtain ⟨n0, hn0⟩ : ∃ n0, w.heap.size = n0 := ⟨_, rfl⟩
  obtain ⟨W0, hW0⟩ : ∃ W0, (w.alloc (.cells #[.int .u8 a, .int .u8 b, .int .u8 s, .int .u8 c, .int .u8 f] 73)).alloc (.cells #[.int .i64 0, .int .i64 0, .slice none 0 0] 70) = W0 := ⟨_, rfl⟩
  have hB0 : Below n0 w W0 := by rw [← hW0, ← hn0]; exact ext_alloc (ext_alloc (Below.refl _ _))
  have hz0 : n0 + 1 < W0.heap.size := by rw [← hW0, ← hn0]; simp
  have hr0 : W0.heap[n0]? = some (.cells #[.int .u8 a, .int .u8 b, .int .u8 s, .int .u8 c, .int .u8 f] 73 (0, 0)) := by rw [← hW0, ← hn0]; exact (Below.heap_alloc _ _ _ (by simp)).trans (heap_alloc_new _ _)
  have hrz0 : W0.heap[n0 + 1]? = some (.cells #[.int .i64 0, .int .i64 0, .slice none 0 0] 70 (0, 0)) := by rw [← hW0, ← hn0]; exact heap_new2 _ _ _
  have HSX : Hid (∀ W, Below W0.heap.size W0 W → W.cell? ⟨n0, 1, none⟩ = some (.int .u8 b)) := fun W hb => by
    rw [cell_of_row W n0 1 _ _ _ ((hb.block n0 (by omega)).trans hr0)]; rfl
  have HC5 : Hid (∀ W, Below W0.heap.size W0 W → W.cell? ⟨n0, 1, none⟩ = some (.int .u8 b) ∧ W.cell? ⟨n0, 2, none⟩ = some (.int .u8 s) ∧ W.cell? ⟨n0, 3, none⟩ = some (.int .u8 c) ∧ W.cell? ⟨n0, 4, none⟩ = some (.int .u8 f)) := fun W hb => by
    have h := (hb.block n0 (by omega)).trans hr0
    exact ⟨by rw [cell_of_row W n0 1 _ _ _ h]; rfl, by rw [cell_of_row W n0 2 _ _ _ h]; rfl, by rw [cell_of_row W n0 3 _ _ _ h]; rfl, by rw [cell_of_row W n0 4 _ _ _ h]; rfl⟩
  have HR0 := Lib.hid hr0
  have HRZ := Lib.hid hrz0
  have hbd : Below W0.heap.size W0 W0.drew := (Below.refl _ _).drew
  have hs00 := HSX.out W0.drew hbd
  have HW0 := Lib.hid hW0
  clear hr0 hrz0 hW0
  go_enter Tryz.func28, Tryz.ntmps28
  go_upto_region 1 with (fail)
  rw [HW0.out]
  by_cases hv : b % 2 = 0
  · have hbv : (b % 2 = 0) = True := eq_true hv
    have hm : b.tmod 2 = 0 := by rw [Int.tmod_eq_emod_of_nonneg hb0]; omega
    have hdd : dataW (a, b, s, c, f) = (0, s % 5, (List.range ((c % (5 - s % 5)).toNat + 1)).map (stSec f)) := by
      have hb2 : b % 2 = 0 := by omega
      have e : stN (a, b, s, c, f) = 5 := by unfold stN; simp [hb2]
      unfold dataW stK
      rw [e]
      simp only [hb2]
    rw [hdd] at hd
    simp only [Prod.mk.injEq] at hd
    obtain ⟨hv0, hs, hdl⟩ := hd
    subst hv0
    have hs0lo : 0 ≤ s0 := by omega
    have hs0hi : s0 < 5 := by omega
    obtain ⟨K, hK⟩ : ∃ K : Nat, c % (5 - s0) = (K : Int) := ⟨(c % (5 - s0)).toNat, by have := Int.emod_nonneg c (show 5 - s0 ≠ 0 by omega); omega⟩
    have hK9 : K < 9 := by have := Int.emod_lt_of_pos c (show (0 : Int) < 5 - s0 by omega); omega
    have HD : Hid (d = (List.range (K + 1)).map (stSec f)) := by rw [Hid, ← hdl, hs, hK, Int.toNat_natCast]
    have HS := Lib.hid hs
    clear hdd hdl
    go_cut [3] (fun e wx => e = .int .i64 5 ∧ Below W0.heap.size W0 wx)
    case first =>
      go_region_law (first | (go_simp; go_at_call 26; refine (sizes36_any W0.drew).mono ?_; rintro e w1 ⟨g, rfl, hg1, hg2, hb1⟩; have hx1 : Below W0.heap.size W0 w1 := ext_trans hbd hb1; obtain ⟨g0, g1, _⟩ := blk2 hg2; have hs3 := HSX.out w1 hx1))
      all_goals
        go_wp2
        go_meet
        exact ⟨rfl, hx1⟩
    case rest =>
    obtain ⟨rfl, hxc⟩ := hcut
    obtain ⟨c1, c2, c3, c4⟩ := HC5.out wc hxc
    go_upto_region 5 with (fail)
    obtain ⟨wb, hwb⟩ : ∃ wb, wc.heap.size = wb := ⟨_, rfl⟩
    obtain ⟨w4, hw4⟩ : ∃ w4, wc.alloc (.cells #[.int .i64 0, .int .i64 s0, .slice none 0 0] 70) = w4 := ⟨_, rfl⟩
    rw [hw4, hwb]
    have hb4 : Below wc.heap.size wc w4 := by rw [← hw4]; exact ext_alloc (Below.refl _ _)
    have hr4 : w4.heap[wb]? = some (.cells #[.int .i64 0, .int .i64 s0, .slice none 0 0] 70 (0, 0)) := by rw [← hw4, ← hwb]; exact heap_alloc_new _ _
    have HR4 := Lib.hid hr4
    have hx4 : Below W0.heap.size W0 w4 := ext_trans hxc hb4
    have hzw := hxc.size
    have hz4 : wb < w4.heap.size := (Array.getElem?_eq_some_iff.1 hr4).1
    have hB4 : Below n0 w w4 := hB0.trans (hx4.mono (by omega))
    clear hw4 hr4 hb4 c1 c2 c3 c4
    go_loopw [6] (fun i wr => ∃ (k : Nat) (D : Option Addr) (dc : Nat) (out : List Sec), k ≤ K + 1 ∧ i = .int .i64 k ∧ Below W0.heap.size W0 wr ∧ wb < wr.heap.size ∧ Hid (out = (List.range k).map (stSec f)) ∧ Hid (wr.heap[wb]? = some (.cells #[.int .i64 0, .int .i64 s0, .slice D k dc] 70 (0, 0))) ∧ Hid (OwnX (fun g => g = wb) encSec wr W0.heap.size 65 (.slice D k dc) out)) (fun i _ => K + 1 - (intOf i).toNat)
    case atStart => exact ⟨0, none, 0, [], by omega, rfl, hx4, hz4, by simp [Hid], HR4.out, OwnX.nil_⟩
    case round =>
      obtain ⟨wo, rfl⟩ : ∃ wo : World, wo = wr := ⟨_, rfl⟩
      obtain ⟨k, D, dc, out, hk, rfl, hB, hsz, hout, hrow, hown⟩ := hrel
      obtain ⟨c1, c2, c3, c4⟩ := HC5.out wo hB
      have hlen : Hid (out.length = k) := by rw [hout.out]; simp [Hid]
      have hzo := hB.size
      by_cases hlt : k < K + 1
      · have hki : (k : Int) ≤ (K : Int) := by omega
        have hkn : (0 : Int) ≤ k := by omega
        have hwk : IntKind.u8.wrap (k : Int) = (k : Int) := IntWalk.u8_in _ (by omega)
        obtain ⟨r0, r1, r2, rf⟩ := blk3 hrow.out
        have hst : Hid ((List.range (k + 1)).map (stSec f) = (List.range k).map (stSec f) ++ [stSec f k]) := by rw [Hid, List.range_succ, List.map_append]; rfl
        have hok : Hid (OkSec (stSec f k)) := ⟨rfl, fun x hx => by simp [stSec] at hx; omega⟩
        have hO4 := Lib.hid (hown.out.alloc (.cells #[.int .u8 f, .int .u8 k, .int .u8 0, .int .u8 0, .int .u8 0, .int .u8 0, .int .u8 0, .int .u8 0] 65))
        have hO4o := Lib.hid hO4.out.1
        have hlo := Lib.hid hO4.out.lt
        have HRD : Hid (encSec.rd (wo.alloc (.cells #[.int .u8 f, .int .u8 k, .int .u8 0, .int .u8 0, .int .u8 0, .int .u8 0, .int .u8 0, .int .u8 0] 65)) (fun g => Nw W0.heap.size (wo.alloc (.cells #[.int .u8 f, .int .u8 k, .int .u8 0, .int .u8 0, .int .u8 0, .int .u8 0, .int .u8 0, .int .u8 0] 65)).heap.size g ∧ ¬ g = wb ∧ (Value.slice D k dc).ownBlock ≠ some g) [.int .u8 f, .int .u8 k, .int .u8 0, .int .u8 0, .int .u8 0, .int .u8 0, .int .u8 0, .int .u8 0] (stSec f k)) := ⟨rfl, hok.out⟩
        go_wp2_with (at_builtin; refine Hid.out ?_)
        change wpList _ _ _ _ _ _
        refine wpList_app1 (E := encSec) tySecs36 rfl _ _ rfl rfl hO4o.out (stSec f k) [.int .u8 f, .int .u8 k, .int .u8 0, .int .u8 0, .int .u8 0, .int .u8 0, .int .u8 0, .int .u8 0] rfl HRD.out (heap_alloc_new _ _) (fun _ h => h.1.2) (by simp; omega) (by unfold maxLen; rw [hlen.out]; omega) (by rw [hlen.out]; omega) ?_
        intro A5 c5 w5 hown5 hg5 hat5
        rw [hlen.out] at hown5 hat5
        rw [hlen.out]
        have hrow5 := (hg5.block wb (by simp; omega) (fun e => hown.out.2 _ e.symm rfl)).trans ((Below.heap_alloc wo (.cells #[.int .u8 f, .int .u8 k, .int .u8 0, .int .u8 0, .int .u8 0, .int .u8 0, .int .u8 0, .int .u8 0] 65) wb hsz).trans hrow.out)
        have HR6 := Lib.hid (blk3_set hrow5 (.slice A5 (k + 1) c5))
        have hO5 : Hid (OwnX (fun g => g = wb) encSec (w5.setCell ⟨wb, 2, none⟩ (.slice A5 (k + 1) c5)) W0.heap.size 65 (.slice A5 (k + 1) c5) (out ++ [stSec f k])) := (hO4.out.app hown5 hg5 hat5 (fun g hg => by have : g = wb := hg; simp; omega)).set (p := ⟨wb, 2, none⟩) rfl _
        have hz5 := hg5.size
        have hB6 : Below W0.heap.size W0 (w5.setCell ⟨wb, 2, none⟩ (.slice A5 (k + 1) c5)) := ((hB.alloc (by omega) (.cells #[.int .u8 f, .int .u8 k, .int .u8 0, .int .u8 0, .int .u8 0, .int .u8 0, .int .u8 0, .int .u8 0] 65)).grown hg5 (by simp; omega) (fun g h => (hlo.out g h).1)).setCell (p := ⟨wb, 2, none⟩) (by show W0.heap.size ≤ wb; omega) _
        have hz6 : wb < (w5.setCell ⟨wb, 2, none⟩ (.slice A5 (k + 1) c5)).heap.size := by simp [World.setCell] at hz5 ⊢; omega
        obtain ⟨t0, t1, t2, tf⟩ := blk3 hrow5
        clear hown5 hg5 hat5 hz5 r0 r1 r2 rf c1 c2 c3 c4 hO4 hO4o HRD hrow5
        have HB6 := Lib.hid hB6
        have HZ6 := Lib.hid hz6
        clear hB6 hz6
        go_wp2
        go_roundw
        case rel => exact ⟨k + 1, A5, c5, out ++ [stSec f k], by omega, by go_num, HB6.out, HZ6.out, by rw [Hid, hst.out, hout.out], by simpa [Hid] using HR6.out, by simpa [Hid] using hO5.out⟩
        case measure => simp [intOf]; omega
      · have hkk : k = K + 1 := by omega
        subst hkk
        have hng : ¬ ((K + 1 : Nat) : Int) ≤ (K : Int) := by omega
        have hng' : ¬ (K : Int) + 1 ≤ (K : Int) := by omega
        obtain ⟨r0, r1, r2, _⟩ := blk3 hrow.out
        have hrz := (hB.block (n0 + 1) hz0).trans HRZ.out
        obtain ⟨q0, q1, q2, qf⟩ := blk3 hrz
        have hod : Hid (out = d) := by rw [Hid, hout.out, HD.out]
        have hparts := Lib.hid hown.out.parts
        have hW3 := blk3_set3 hrz (.int .i64 0) (.int .i64 s0) (.slice D (K + 1) dc)
        have hbW : Below n0 w (((wo.setCell ⟨n0 + 1, 0, none⟩ (.int .i64 0)).setCell ⟨n0 + 1, 1, none⟩ (.int .i64 s0)).setCell ⟨n0 + 1, 2, none⟩ (.slice D (K + 1) dc)) := (((hB0.trans (hB.mono (by omega))).setCell (p := ⟨n0 + 1, 0, none⟩) (by show n0 ≤ n0 + 1; omega) _).setCell (p := ⟨n0 + 1, 1, none⟩) (by show n0 ≤ n0 + 1; omega) _).setCell (p := ⟨n0 + 1, 2, none⟩) (by show n0 ≤ n0 + 1; omega) _
        have hsl : SlAt encSec (((wo.setCell ⟨n0 + 1, 0, none⟩ (.int .i64 0)).setCell ⟨n0 + 1, 1, none⟩ (.int .i64 s0)).setCell ⟨n0 + 1, 2, none⟩ (.slice D (K + 1) dc)) (Nw W0.heap.size wo.heap.size) D d := by
          have h := hparts.out.2.2.2
          rw [hod.out] at h
          exact (h.more (fun g hg => hg.1)).blk (fun g hg => by
            have hne : g ≠ n0 + 1 := by have := hg.1; omega
            exact (heap_setCell_other _ ⟨n0 + 1, 2, none⟩ g _ hne).trans ((heap_setCell_other _ ⟨n0 + 1, 1, none⟩ g _ hne).trans (heap_setCell_other _ ⟨n0 + 1, 0, none⟩ g _ hne)))
        have hsz3 : (((wo.setCell ⟨n0 + 1, 0, none⟩ (.int .i64 0)).setCell ⟨n0 + 1, 1, none⟩ (.int .i64 s0)).setCell ⟨n0 + 1, 2, none⟩ (.slice D (K + 1) dc)).heap.size = wo.heap.size := by simp [World.setCell]
        have hdl : Hid (d.length = K + 1) := by rw [← hod.out]; exact hlen.out
        have HW3 := Lib.hid (And.intro hW3 (And.intro hbW (And.intro hsl hsz3)))
        have hcap := Lib.hid (And.intro hparts.out.2.1 hparts.out.2.2.1)
        clear hW3 hbW hsl hsz3
        go_wp2
        change bodyPost _ _ _ _ _ (((wo.setCell ⟨n0 + 1, 0, none⟩ (.int .i64 0)).setCell ⟨n0 + 1, 1, none⟩ (.int .i64 s0)).setCell ⟨n0 + 1, 2, none⟩ (.slice D (K + 1) dc))
        generalize ((wo.setCell ⟨n0 + 1, 0, none⟩ (.int .i64 0)).setCell ⟨n0 + 1, 1, none⟩ (.int .i64 s0)).setCell ⟨n0 + 1, 2, none⟩ (.slice D (K + 1) dc) = W3 at HW3 ⊢
        obtain ⟨z0, z1, z2, _⟩ := blk3 HW3.out.1
        refine bodyPost_ret (v := .agg #[.int .i64 0, .int .i64 s0, .slice D (K + 1) dc]) ?_ rfl ?_
        · simp [results, Tryz.results28, Tryz.f28, go_sem, z0, z1, z2]
        · have hc := hcap.out
          rw [hod.out, hdl.out] at hc
          have h4 := HW3.out.2.2.2
          exact ⟨D, dc, by rw [hdl.out], by rw [hdl.out]; exact hc.1, hc.2, HW3.out.2.2.1.more (fun g hg => ⟨by have := hg.1; omega, by have := hg.2; omega⟩), HW3.out.2.1⟩
  · have hbv : (b % 2 = 0) = False := eq_false hv
    have hm : b.tmod 2 = 1 := by rw [Int.tmod_eq_emod_of_nonneg hb0]; omega
    have hdd : dataW (a, b, s, c, f) = (1, s % 3, (List.range ((c % (3 - s % 3)).toNat + 1)).map (stSec f)) := by
      have hb2 : b % 2 = 1 := by omega
      have e : stN (a, b, s, c, f) = 3 := by unfold stN; simp [hb2]
      unfold dataW stK
      rw [e]
      simp only [hb2]
    rw [hdd] at hd
    simp only [Prod.mk.injEq] at hd
    obtain ⟨hv0, hs, hdl⟩ := hd
    subst hv0
    have hs0lo : 0 ≤ s0 := by omega
    have hs0hi : s0 < 3 := by omega
    obtain ⟨K, hK⟩ : ∃ K : Nat, c % (3 - s0) = (K : Int) := ⟨(c % (3 - s0)).toNat, by have := Int.emod_nonneg c (show 3 - s0 ≠ 0 by omega); omega⟩
    have hK9 : K < 9 := by have := Int.emod_lt_of_pos c (show (0 : Int) < 3 - s0 by omega); omega
    have HD : Hid (d = (List.range (K + 1)).map (stSec f)) := by rw [Hid, ← hdl, hs, hK, Int.toNat_natCast]
    have HS := Lib.hid hs
    clear hdd hdl
    go_cut [3] (fun e wx => e = .int .i64 3 ∧ Below W0.heap.size W0 wx)
    case first =>
      go_region_law (first | (go_simp; go_at_call 26; refine (sizes36_any W0.drew).mono ?_; rintro e w1 ⟨g, rfl, hg1, hg2, hb1⟩; have hx1 : Below W0.heap.size W0 w1 := ext_trans hbd hb1; obtain ⟨g0, g1, _⟩ := blk2 hg2; have hs3 := HSX.out w1 hx1))
      all_goals
        go_wp2
        go_meet
        exact ⟨rfl, hx1⟩
    case rest =>
    obtain ⟨rfl, hxc⟩ := hcut
    obtain ⟨c1, c2, c3, c4⟩ := HC5.out wc hxc
    go_upto_region 5 with (fail)
    obtain ⟨wb, hwb⟩ : ∃ wb, wc.heap.size = wb := ⟨_, rfl⟩
    obtain ⟨w4, hw4⟩ : ∃ w4, wc.alloc (.cells #[.int .i64 1, .int .i64 s0, .slice none 0 0] 70) = w4 := ⟨_, rfl⟩
    rw [hw4, hwb]
    have hb4 : Below wc.heap.size wc w4 := by rw [← hw4]; exact ext_alloc (Below.refl _ _)
    have hr4 : w4.heap[wb]? = some (.cells #[.int .i64 1, .int .i64 s0, .slice none 0 0] 70 (0, 0)) := by rw [← hw4, ← hwb]; exact heap_alloc_new _ _
    have HR4 := Lib.hid hr4
    have hx4 : Below W0.heap.size W0 w4 := ext_trans hxc hb4
    have hzw := hxc.size
    have hz4 : wb < w4.heap.size := (Array.getElem?_eq_some_iff.1 hr4).1
    have hB4 : Below n0 w w4 := hB0.trans (hx4.mono (by omega))
    clear hw4 hr4 hb4 c1 c2 c3 c4
    go_loopw [6] (fun i wr => ∃ (k : Nat) (D : Option Addr) (dc : Nat) (out : List Sec), k ≤ K + 1 ∧ i = .int .i64 k ∧ Below W0.heap.size W0 wr ∧ wb < wr.heap.size ∧ Hid (out = (List.range k).map (stSec f)) ∧ Hid (wr.heap[wb]? = some (.cells #[.int .i64 1, .int .i64 s0, .slice D k dc] 70 (0, 0))) ∧ Hid (OwnX (fun g => g = wb) encSec wr W0.heap.size 65 (.slice D k dc) out)) (fun i _ => K + 1 - (intOf i).toNat)
    case atStart => exact ⟨0, none, 0, [], by omega, rfl, hx4, hz4, by simp [Hid], HR4.out, OwnX.nil_⟩
    case round =>
      obtain ⟨wo, rfl⟩ : ∃ wo : World, wo = wr := ⟨_, rfl⟩
      obtain ⟨k, D, dc, out, hk, rfl, hB, hsz, hout, hrow, hown⟩ := hrel
      obtain ⟨c1, c2, c3, c4⟩ := HC5.out wo hB
      have hlen : Hid (out.length = k) := by rw [hout.out]; simp [Hid]
      have hzo := hB.size
      by_cases hlt : k < K + 1
      · have hki : (k : Int) ≤ (K : Int) := by omega
        have hkn : (0 : Int) ≤ k := by omega
        have hwk : IntKind.u8.wrap (k : Int) = (k : Int) := IntWalk.u8_in _ (by omega)
        obtain ⟨r0, r1, r2, rf⟩ := blk3 hrow.out
        have hst : Hid ((List.range (k + 1)).map (stSec f) = (List.range k).map (stSec f) ++ [stSec f k]) := by rw [Hid, List.range_succ, List.map_append]; rfl
        have hok : Hid (OkSec (stSec f k)) := ⟨rfl, fun x hx => by simp [stSec] at hx; omega⟩
        have hO4 := Lib.hid (hown.out.alloc (.cells #[.int .u8 f, .int .u8 k, .int .u8 0, .int .u8 0, .int .u8 0, .int .u8 0, .int .u8 0, .int .u8 0] 65))
        have hO4o := Lib.hid hO4.out.1
        have hlo := Lib.hid hO4.out.lt
        have HRD : Hid (encSec.rd (wo.alloc (.cells #[.int .u8 f, .int .u8 k, .int .u8 0, .int .u8 0, .int .u8 0, .int .u8 0, .int .u8 0, .int .u8 0] 65)) (fun g => Nw W0.heap.size (wo.alloc (.cells #[.int .u8 f, .int .u8 k, .int .u8 0, .int .u8 0, .int .u8 0, .int .u8 0, .int .u8 0, .int .u8 0] 65)).heap.size g ∧ ¬ g = wb ∧ (Value.slice D k dc).ownBlock ≠ some g) [.int .u8 f, .int .u8 k, .int .u8 0, .int .u8 0, .int .u8 0, .int .u8 0, .int .u8 0, .int .u8 0] (stSec f k)) := ⟨rfl, hok.out⟩
        go_wp2_with (at_builtin; refine Hid.out ?_)
        change wpList _ _ _ _ _ _
        refine wpList_app1 (E := encSec) tySecs36 rfl _ _ rfl rfl hO4o.out (stSec f k) [.int .u8 f, .int .u8 k, .int .u8 0, .int .u8 0, .int .u8 0, .int .u8 0, .int .u8 0, .int .u8 0] rfl HRD.out (heap_alloc_new _ _) (fun _ h => h.1.2) (by simp; omega) (by unfold maxLen; rw [hlen.out]; omega) (by rw [hlen.out]; omega) ?_
        intro A5 c5 w5 hown5 hg5 hat5
        rw [hlen.out] at hown5 hat5
        rw [hlen.out]
        have hrow5 := (hg5.block wb (by simp; omega) (fun e => hown.out.2 _ e.symm rfl)).trans ((Below.heap_alloc wo (.cells #[.int .u8 f, .int .u8 k, .int .u8 0, .int .u8 0, .int .u8 0, .int .u8 0, .int .u8 0, .int .u8 0] 65) wb hsz).trans hrow.out)
        have HR6 := Lib.hid (blk3_set hrow5 (.slice A5 (k + 1) c5))
        have hO5 : Hid (OwnX (fun g => g = wb) encSec (w5.setCell ⟨wb, 2, none⟩ (.slice A5 (k + 1) c5)) W0.heap.size 65 (.slice A5 (k + 1) c5) (out ++ [stSec f k])) := (hO4.out.app hown5 hg5 hat5 (fun g hg => by have : g = wb := hg; simp; omega)).set (p := ⟨wb, 2, none⟩) rfl _
        have hz5 := hg5.size
        have hB6 : Below W0.heap.size W0 (w5.setCell ⟨wb, 2, none⟩ (.slice A5 (k + 1) c5)) := ((hB.alloc (by omega) (.cells #[.int .u8 f, .int .u8 k, .int .u8 0, .int .u8 0, .int .u8 0, .int .u8 0, .int .u8 0, .int .u8 0] 65)).grown hg5 (by simp; omega) (fun g h => (hlo.out g h).1)).setCell (p := ⟨wb, 2, none⟩) (by show W0.heap.size ≤ wb; omega) _
        have hz6 : wb < (w5.setCell ⟨wb, 2, none⟩ (.slice A5 (k + 1) c5)).heap.size := by simp [World.setCell] at hz5 ⊢; omega
        obtain ⟨t0, t1, t2, tf⟩ := blk3 hrow5
        clear hown5 hg5 hat5 hz5 r0 r1 r2 rf c1 c2 c3 c4 hO4 hO4o HRD hrow5
        have HB6 := Lib.hid hB6
        have HZ6 := Lib.hid hz6
        clear hB6 hz6
        go_wp2
        go_roundw
        case rel => exact ⟨k + 1, A5, c5, out ++ [stSec f k], by omega, by go_num, HB6.out, HZ6.out, by rw [Hid, hst.out, hout.out], by simpa [Hid] using HR6.out, by simpa [Hid] using hO5.out⟩
        case measure => simp [intOf]; omega
      · have hkk : k = K + 1 := by omega
        subst hkk
        have hng : ¬ ((K + 1 : Nat) : Int) ≤ (K : Int) := by omega
        have hng' : ¬ (K : Int) + 1 ≤ (K : Int) := by omega
        obtain ⟨r0, r1, r2, _⟩ := blk3 hrow.out
        have hrz := (hB.block (n0 + 1) hz0).trans HRZ.out
        obtain ⟨q0, q1, q2, qf⟩ := blk3 hrz
        have hod : Hid (out = d) := by rw [Hid, hout.out, HD.out]
        have hparts := Lib.hid hown.out.parts
        have hW3 := blk3_set3 hrz (.int .i64 1) (.int .i64 s0) (.slice D (K + 1) dc)
        have hbW : Below n0 w (((wo.setCell ⟨n0 + 1, 0, none⟩ (.int .i64 1)).setCell ⟨n0 + 1, 1, none⟩ (.int .i64 s0)).setCell ⟨n0 + 1, 2, none⟩ (.slice D (K + 1) dc)) := (((hB0.trans (hB.mono (by omega))).setCell (p := ⟨n0 + 1, 0, none⟩) (by show n0 ≤ n0 + 1; omega) _).setCell (p := ⟨n0 + 1, 1, none⟩) (by show n0 ≤ n0 + 1; omega) _).setCell (p := ⟨n0 + 1, 2, none⟩) (by show n0 ≤ n0 + 1; omega) _
        have hsl : SlAt encSec (((wo.setCell ⟨n0 + 1, 0, none⟩ (.int .i64 1)).setCell ⟨n0 + 1, 1, none⟩ (.int .i64 s0)).setCell ⟨n0 + 1, 2, none⟩ (.slice D (K + 1) dc)) (Nw W0.heap.size wo.heap.size) D d := by
          have h := hparts.out.2.2.2
          rw [hod.out] at h
          exact (h.more (fun g hg => hg.1)).blk (fun g hg => by
            have hne : g ≠ n0 + 1 := by have := hg.1; omega
            exact (heap_setCell_other _ ⟨n0 + 1, 2, none⟩ g _ hne).trans ((heap_setCell_other _ ⟨n0 + 1, 1, none⟩ g _ hne).trans (heap_setCell_other _ ⟨n0 + 1, 0, none⟩ g _ hne)))
        have hsz3 : (((wo.setCell ⟨n0 + 1, 0, none⟩ (.int .i64 1)).setCell ⟨n0 + 1, 1, none⟩ (.int .i64 s0)).setCell ⟨n0 + 1, 2, none⟩ (.slice D (K + 1) dc)).heap.size = wo.heap.size := by simp [World.setCell]
        have hdl : Hid (d.length = K + 1) := by rw [← hod.out]; exact hlen.out
        have HW3 := Lib.hid (And.intro hW3 (And.intro hbW (And.intro hsl hsz3)))
        have hcap := Lib.hid (And.intro hparts.out.2.1 hparts.out.2.2.1)
        clear hW3 hbW hsl hsz3
        go_wp2
        change bodyPost _ _ _ _ _ (((wo.setCell ⟨n0 + 1, 0, none⟩ (.int .i64 1)).setCell ⟨n0 + 1, 1, none⟩ (.int .i64 s0)).setCell ⟨n0 + 1, 2, none⟩ (.slice D (K + 1) dc))
        generalize ((wo.setCell ⟨n0 + 1, 0, none⟩ (.int .i64 1)).setCell ⟨n0 + 1, 1, none⟩ (.int .i64 s0)).setCell ⟨n0 + 1, 2, none⟩ (.slice D (K + 1) dc) = W3 at HW3 ⊢
        obtain ⟨z0, z1, z2, _⟩ := blk3 HW3.out.1
        refine bodyPost_ret (v := .agg #[.int .i64 1, .int .i64 s0, .slice D (K + 1) dc]) ?_ rfl ?_
        · simp [results, Tryz.results28, Tryz.f28, go_sem, z0, z1, z2]
        · have hc := hcap.out
          rw [hod.out, hdl.out] at hc
          have h4 := HW3.out.2.2.2
          exact ⟨D, dc, by rw [hdl.out], by rw [hdl.out]; exact hc.1, hc.2, HW3.out.2.2.1.more (fun g hg => ⟨by have := hg.1; omega, by have := hg.2; omega⟩), HW3.out.2.1⟩
end Go.Proofs.YtgmeghandjkkcaaGreat

namespace Go.Proofs.YtgmeghandjkkcaaGreat
open Go.RowKit Go.Shelf
attribute [local go_sem] Oper.semAt_some

abbrev Run := Img × List Snp × List Kpt
def stJ (x : Stp) (n : Nat) : Nat := (x.2.2.2.2 % (n : Int)).toNat
/-- a step of a run -/
def runS (k : Nat) (x : Stp) (t : Run) : Run :=
  if x.1 % 8 < 4 then (putAll t.1 [dataW x], setLast t.2.1 (fun d => foldL (contL t.1 [dataW x] ++ d)), t.2.2)
  else if x.1 % 8 < 6 then (t.1, t.2.1 ++ [((10 + k : Int), (k : Int), [])], t.2.2 ++ [((10 + k : Int), t.1, (k : Int))])
  else if h : t.2.2.length = 0 then t
  else if x.1 % 8 = 6 then (t.1, delL t.2.1 (stJ x t.2.2.length), t.2.2.eraseIdx (stJ x t.2.2.length))
  else ((t.2.2.getD (stJ x t.2.2.length) (0, [], 0)).2.1, setLast (t.2.1.take (stJ x t.2.2.length + 1)) (fun _ => []), t.2.2.take (stJ x t.2.2.length + 1))
def img0 : Img := [List.replicate 5 zsec, List.replicate 3 zsec]
def runT (xs : List Stp) : Nat → Run
  | 0 => (img0, [], [])
  | k + 1 => runS k (xs.getD k (0, 0, 0, 0, 0)) (runT xs k)
theorem stJ_lt {x : Stp} {n : Nat} (hn : 0 < n) : stJ x n < n := by
  unfold stJ
  have h1 := Int.emod_nonneg x.2.2.2.2 (show (n : Int) ≠ 0 by omega)
  have h2 := Int.emod_lt_of_pos x.2.2.2.2 (show (0 : Int) < n by omega)
  omega
theorem RInv.step {k : Nat} {x : Stp} {t : Run} (h : RInv k t.1 t.2.1 t.2.2) (hx : OkStp x) (hk : k ≤ 100) : RInv (k + 1) (runS k x t).1 (runS k x t).2.1 (runS k x t).2.2 := by
  obtain ⟨im, l, all⟩ := t
  unfold runS
  by_cases c1 : x.1 % 8 < 4
  · rw [if_pos c1]
    exact (h.apply (ws := [dataW x]) (fun y hy => by rw [List.mem_singleton.1 hy]; exact data_fits x hx)).2.2
  · rw [if_neg c1]
    by_cases c2 : x.1 % 8 < 6
    · rw [if_pos c2]
      exact (h.take hk).2
    · rw [if_neg c2]
      by_cases c3 : all.length = 0
      · rw [dif_pos c3]
        exact ⟨h.lens, h.ok, h.ims, h.key, fun e he => by have := h.st e he; omega, by have := h.len; omega⟩
      · rw [dif_neg c3]
        have hj : stJ x all.length < all.length := stJ_lt (by omega)
        by_cases c4 : x.1 % 8 = 6
        · rw [if_pos c4]
          exact (h.delete hj).2.2.1
        · rw [if_neg c4]
          have := (h.revert hj).2.2.2
          have e : all.getD (stJ x all.length) (0, [], 0) = all[stJ x all.length] := by rw [List.getD_eq_getElem?_getD, List.getElem?_eq_getElem hj]; rfl
          show RInv (k + 1) (all.getD (stJ x all.length) (0, [], 0)).2.1 _ _
          rw [e]
          exact this
theorem runT_inv {xs : List Stp} (hx : ∀ x ∈ xs, OkStp x) : ∀ k, k ≤ xs.length → k ≤ 100 → RInv k (runT xs k).1 (runT xs k).2.1 (runT xs k).2.2
  | 0, _, _ => by
    show RInv 0 img0 [] []
    exact ⟨by decide, by decide +kernel, rfl, rfl, (fun e he => by cases he), Nat.le_refl _⟩
  | k + 1, h1, h2 => by
    have hk : k < xs.length := h1
    have e : xs.getD k (0, 0, 0, 0, 0) = xs[k] := by rw [List.getD_eq_getElem?_getD, List.getElem?_eq_getElem hk]; rfl
    show RInv (k + 1) (runS k (xs.getD k (0, 0, 0, 0, 0)) (runT xs k)).1 (runS k (xs.getD k (0, 0, 0, 0, 0)) (runT xs k)).2.1 (runS k (xs.getD k (0, 0, 0, 0, 0)) (runT xs k)).2.2
    rw [e]
    exact (runT_inv hx k (by omega) (by omega)).step (hx _ (List.getElem_mem hk)) (by omega)
theorem foldL_len (l : List Wr) : (foldL l).length ≤ 32768 := by
  unfold foldL; split
  · exact foldS_len l
  · simp
theorem mem_setLast {l : List Snp} {f : List Wr → List Wr} {x : Snp} (h : x ∈ setLast l f) : x ∈ l ∨ ∃ y ∈ l, x = (y.1, y.2.1, f y.2.2) := by
  rcases List.eq_nil_or_concat l with rfl | ⟨r, y, rfl⟩
  · rw [setLast_nil] at h; cases h
  · rw [List.concat_eq_append, setLast_snoc] at h
    rw [List.concat_eq_append]
    rcases List.mem_append.1 h with h | h
    · exact Or.inl (by simp [h])
    · exact Or.inr ⟨y, by simp, List.mem_singleton.1 h⟩
def Cap (l : List Snp) : Prop := ∀ x ∈ l, x.2.2.length ≤ 32768
theorem Cap.step {k : Nat} {x : Stp} {t : Run} (h : Cap t.2.1) : Cap (runS k x t).2.1 := by
  have hs : ∀ (l : List Snp) (f : List Wr → List Wr), Cap l → (∀ d, (f d).length ≤ 32768) → Cap (setLast l f) := fun l f hl hf y hy => by
    rcases mem_setLast hy with hy | ⟨z, hz, rfl⟩
    · exact hl y hy
    · exact hf _
  obtain ⟨im, l, all⟩ := t
  unfold runS
  split
  · exact hs l _ h (fun d => foldL_len _)
  · split
    · intro y hy
      rcases List.mem_append.1 hy with hy | hy
      · exact h y hy
      · rw [List.mem_singleton.1 hy]; simp
    · split
      · exact h
      · split
        · show Cap (delL l (stJ x all.length))
          cases stJ x all.length with
          | zero => exact fun y hy => h y (List.mem_of_mem_drop hy)
          | succ i =>
            intro y hy
            rcases List.mem_append.1 (show y ∈ setLast (l.take (i + 1)) (fun d => foldL ((l.getD (i + 1) (0, 0, [])).2.2 ++ d)) ++ l.drop (i + 2) from hy) with hy | hy
            · exact hs (l.take (i + 1)) _ (fun z hz => h z (List.mem_of_mem_take hz)) (fun d => foldL_len _) y hy
            · exact h y (List.mem_of_mem_drop hy)
        · show Cap (setLast (l.take (stJ x all.length + 1)) (fun _ => []))
          exact hs (l.take (stJ x all.length + 1)) (fun _ => []) (fun z hz => h z (List.mem_of_mem_take hz)) (fun d => Nat.zero_le _)
theorem runT_cap {xs : List Stp} : ∀ k, Cap (runT xs k).2.1
  | 0 => fun x hx => by cases hx
  | k + 1 => (runT_cap k).step
theorem RInv.lim {k : Nat} {im : Img} {l : List Snp} {all : List Kpt} (h : RInv k im l all) (hk : k ≤ 100) (hc : Cap l) : SnLim im l := by
  have h1 := congrArg List.length h.lens
  have h2 : im.length = 2 := by simpa [Proofs.YtgmeghandjkkcaaGreat.lens] using h1
  have hrow : ∀ r ∈ im, r.length ≤ 5 := fun r hr => by
    have : lenI r ∈ Proofs.YtgmeghandjkkcaaGreat.lens im := List.mem_map.2 ⟨r, hr, rfl⟩
    rw [h.lens] at this
    unfold lenI at this
    simp at this
    omega
  refine ⟨by omega, fun r hr => by have := hrow r hr; omega, by have := h.len2; have := h.len; omega, fun x hx => ⟨by have := hc x hx; omega, fun y hy => ?_⟩⟩
  have h3 := fits_ok (snE_ok h.ok).1 (h.fits x hx y hy)
  have := h3.2.2.2
  omega
def encStp : Enc Stp := encPair encU8 (encPair encU8 (encPair encU8 (encPair encU8 encU8)))
theorem SlAt.stp {w : World} {S : Nat → Prop} {A : Option Addr} {l : List Stp} {k : Nat} (h : SlAt encStp w S A l) (hk : k < l.length) :
    ∃ b off, A = some ⟨b, off, none⟩ ∧ S b ∧ w.cell? ⟨b, off + k * 5, none⟩ = some (.int .u8 l[k].1) ∧ w.cell? ⟨b, off + k * 5 + 1, none⟩ = some (.int .u8 l[k].2.1) ∧ w.cell? ⟨b, off + k * 5 + 2, none⟩ = some (.int .u8 l[k].2.2.1) ∧ w.cell? ⟨b, off + k * 5 + 3, none⟩ = some (.int .u8 l[k].2.2.2.1) ∧ w.cell? ⟨b, off + k * 5 + 4, none⟩ = some (.int .u8 l[k].2.2.2.2) ∧ OkStp l[k] := by
  obtain ⟨b, off, cs, e, hb, hs, hr⟩ := h.at_ hk
  obtain ⟨c1, _, rfl, ⟨rfl, h1⟩, c2, _, rfl, ⟨rfl, h2⟩, c3, _, rfl, ⟨rfl, h3⟩, c4, c5, rfl, ⟨rfl, h4⟩, ⟨rfl, h5⟩⟩ := hr
  exact ⟨b, off, e, hb, hs 0 _ rfl, hs 1 _ rfl, hs 2 _ rfl, hs 3 _ rfl, hs 4 _ rfl, h1, h2, h3, h4, h5⟩
def encK : Enc Kpt := encPair encInt (encPair (encSl (encSl encSec)) encInt)
/-- what the run may read besides its variables and the list that grows -/
def RunP (lo rb sb : Nat) (w : World) (v : Value) (b : Nat) : Prop := Nw lo w.heap.size b ∧ ¬ (b = rb ∨ b = sb) ∧ v.ownBlock ≠ some b
/-- the memory of a run's state -/
structure RunM (lo rb sb : Nat) (w : World) (B : Option Addr) (vc : Nat) (D : Option Addr) (dc : Nat) (Bi : Option Addr) (vi : Nat) (A : Option Addr) (ac : Nat) (im : Img) (l : List Snp) (all : List Kpt) : Prop where
  row : w.heap[sb]? = some (.cells #[.slice B im.length vc, .slice D l.length dc] 26 (0, 0))
  res : w.heap[rb]? = some (.cells #[.slice none 0 0, .slice none 0 0] 26 (0, 0))
  own : OwnX (fun b => b = rb ∨ b = sb) encK w lo 61 (.slice A all.length ac) all
  cur : SlAt (encSl encSec) w (RunP lo rb sb w (.slice A all.length ac)) B im
  its : SlAt encSnp w (RunP lo rb sb w (.slice A all.length ac)) D l
  imv : SlAt (encSl encSec) w (RunP lo rb sb w (.slice A all.length ac)) Bi im
  cap : im.length ≤ vc ∧ vc ≤ maxLen ∧ l.length ≤ dc ∧ dc ≤ maxLen ∧ im.length ≤ vi ∧ vi ≤ maxLen
section
variable {lo rb sb : Nat} {w w' : World} {B D Bi A : Option Addr} {vc dc vi ac : Nat} {im : Img} {l : List Snp} {all : List Kpt}
theorem RunM.lt (h : RunM lo rb sb w B vc D dc Bi vi A ac im l all) : sb < w.heap.size ∧ rb < w.heap.size := ⟨(Array.getElem?_eq_some_iff.1 h.row).1, (Array.getElem?_eq_some_iff.1 h.res).1⟩
theorem RunP.up {v : Value} (hs : w.heap.size ≤ w'.heap.size) : ∀ b, RunP lo rb sb w v b → RunP lo rb sb w' v b := fun b hb => ⟨⟨hb.1.1, by have := hb.1.2; omega⟩, hb.2⟩
theorem RunP.bl {v : Value} : ∀ b, RunP lo rb sb w v b → Bl w.heap.size b := fun b hb => hb.1.2
theorem RunM.below (h : RunM lo rb sb w B vc D dc Bi vi A ac im l all) (hb : Below w.heap.size w w') : RunM lo rb sb w' B vc D dc Bi vi A ac im l all :=
  ⟨(hb.block sb h.lt.1).trans h.row, (hb.block rb h.lt.2).trans h.res, h.own.below hb, (h.cur.blk (fun b hb' => hb.block b hb'.1.2)).more (RunP.up hb.size), (h.its.blk (fun b hb' => hb.block b hb'.1.2)).more (RunP.up hb.size), (h.imv.blk (fun b hb' => hb.block b hb'.1.2)).more (RunP.up hb.size), h.cap⟩
/-- the variable of the snapshots is stored, the image too -/
theorem RunM.store (h : RunM lo rb sb w B vc D dc Bi vi A ac im l all) (hne : rb ≠ sb) {B' D' Bi' : Option Addr} {vc' dc' vi' : Nat} {im' : Img} {l' : List Snp}
    (h1 : SlAt (encSl encSec) w (RunP lo rb sb w (.slice A all.length ac)) B' im') (h2 : SlAt encSnp w (RunP lo rb sb w (.slice A all.length ac)) D' l') (h3 : SlAt (encSl encSec) w (RunP lo rb sb w (.slice A all.length ac)) Bi' im')
    (hc : im'.length ≤ vc' ∧ vc' ≤ maxLen ∧ l'.length ≤ dc' ∧ dc' ≤ maxLen ∧ im'.length ≤ vi' ∧ vi' ≤ maxLen) :
    RunM lo rb sb ((w.setCell ⟨sb, 0, none⟩ (.slice B' im'.length vc')).setCell ⟨sb, 1, none⟩ (.slice D' l'.length dc')) B' vc' D' dc' Bi' vi' A ac im' l' all := by
  have hz : ((w.setCell ⟨sb, 0, none⟩ (.slice B' im'.length vc')).setCell ⟨sb, 1, none⟩ (.slice D' l'.length dc')).heap.size = w.heap.size := by simp [World.setCell]
  have hk : ∀ b, b ≠ sb → ((w.setCell ⟨sb, 0, none⟩ (.slice B' im'.length vc')).setCell ⟨sb, 1, none⟩ (.slice D' l'.length dc')).heap[b]? = w.heap[b]? := fun b hb => (heap_setCell_other _ ⟨sb, 1, none⟩ b _ hb).trans (heap_setCell_other _ ⟨sb, 0, none⟩ b _ hb)
  have hP : ∀ b, RunP lo rb sb w (.slice A all.length ac) b → RunP lo rb sb ((w.setCell ⟨sb, 0, none⟩ (.slice B' im'.length vc')).setCell ⟨sb, 1, none⟩ (.slice D' l'.length dc')) (.slice A all.length ac) b := fun b hb => ⟨by rw [hz]; exact hb.1, hb.2⟩
  exact ⟨blk2_set h.row _ _, (hk rb hne).trans h.res, (h.own.set (p := ⟨sb, 0, none⟩) (Or.inr rfl) _).set (p := ⟨sb, 1, none⟩) (Or.inr rfl) _, (h1.blk (fun b hb => hk b (fun e => hb.2.1 (Or.inr e)))).more hP, (h2.blk (fun b hb => hk b (fun e => hb.2.1 (Or.inr e)))).more hP, (h3.blk (fun b hb => hk b (fun e => hb.2.1 (Or.inr e)))).more hP, hc⟩
/-- new memory is none of the variables, nor the list's -/
theorem RunM.new (h : RunM lo rb sb w B vc D dc Bi vi A ac im l all) (hlo : lo ≤ w.heap.size) {b : Nat} (hb : Nw w.heap.size w'.heap.size b) : RunP lo rb sb w' (.slice A all.length ac) b := by
  have hl := h.lt
  have h1 := hb.1
  exact ⟨⟨by omega, hb.2⟩, fun e => by omega, fun e => by have := (h.own.lt b e).2; omega⟩
end
end Go.Proofs.YtgmeghandjkkcaaGreat

namespace Go.Proofs.YtgmeghandjkkcaaGreat
open Go.RowKit Go.Shelf

theorem Calls.at_w {P : Program} {f : FuncId} {args : Array Value} {R : Ending → World → Prop} (w : World) (h : Calls P f args w R) : Calls P f args w R := h
theorem runS_apply {k : Nat} {x : Stp} {im : Img} {l : List Snp} {all : List Kpt} (h : x.1 % 8 < 4) : runS k x (im, l, all) = (putAll im [dataW x], setLast l (fun d => foldL (contL im [dataW x] ++ d)), all) := by
  unfold runS; rw [if_pos h]
theorem runS_take {k : Nat} {x : Stp} {im : Img} {l : List Snp} {all : List Kpt} (h1 : ¬ x.1 % 8 < 4) (h2 : x.1 % 8 < 6) : runS k x (im, l, all) = (im, l ++ [((10 + k : Int), (k : Int), [])], all ++ [((10 + k : Int), im, (k : Int))]) := by
  unfold runS; rw [if_neg h1, if_pos h2]
theorem runS_none {k : Nat} {x : Stp} {im : Img} {l : List Snp} {all : List Kpt} (h1 : ¬ x.1 % 8 < 4) (h2 : ¬ x.1 % 8 < 6) (h3 : all.length = 0) : runS k x (im, l, all) = (im, l, all) := by
  unfold runS; rw [if_neg h1, if_neg h2, dif_pos h3]
theorem runS_delete {k : Nat} {x : Stp} {im : Img} {l : List Snp} {all : List Kpt} (h2 : ¬ x.1 % 8 < 6) (h3 : ¬ all.length = 0) (h4 : x.1 % 8 = 6) {j : Nat} (hj : stJ x all.length = j) : runS k x (im, l, all) = (im, delL l j, all.eraseIdx j) := by
  unfold runS; rw [if_neg (by omega), if_neg h2, dif_neg h3, if_pos h4, hj]
theorem runS_revert {k : Nat} {x : Stp} {im : Img} {l : List Snp} {all : List Kpt} (h2 : ¬ x.1 % 8 < 6) (h3 : ¬ all.length = 0) (h4 : ¬ x.1 % 8 = 6) {j : Nat} (hj : stJ x all.length = j) (hjl : j < all.length) : runS k x (im, l, all) = (all[j].2.1, setLast (l.take (j + 1)) (fun _ => []), all.take (j + 1)) := by
  unfold runS; rw [if_neg (by omega), if_neg h2, dif_neg h3, if_neg h4, hj, List.getD_eq_getElem?_getD, List.getElem?_eq_getElem hjl]; rfl
/-- the variable of new snapshots behind a call -/
structure XRow (lo : Nat) (w0 : World) (im : Img) (l : List Snp) (w : World) (xb : Nat) (B : Option Addr) (vc : Nat) (D : Option Addr) (dc : Nat) : Prop where
  le : lo ≤ xb
  ext : Below lo w0 w
  row : w.heap[xb]? = some (.cells #[.slice B im.length vc, .slice D l.length dc] 26 (0, 0))
  cap : im.length ≤ vc ∧ vc ≤ maxLen ∧ l.length ≤ dc ∧ dc ≤ maxLen
  cur : SlAt (encSl encSec) w (Nw lo w.heap.size) B im
  its : SlAt encSnp w (Nw lo w.heap.size) D l
section
variable {lo xb : Nat} {w0 w wc : World} {im : Img} {l : List Snp} {B D : Option Addr} {vc dc : Nat}
theorem XRow.mkSet {c0 c1 : Value} (hlo : lo ≤ wc.heap.size) (hr : w.heap[xb]? = some (.cells #[c0, c1] 26 (0, 0))) (hle : lo ≤ xb) (hx : xb < wc.heap.size) (hb : Below lo w0 w) (hc : im.length ≤ vc ∧ vc ≤ maxLen ∧ l.length ≤ dc ∧ dc ≤ maxLen)
    (h1 : SlAt (encSl encSec) w (Nw wc.heap.size w.heap.size) B im) (h2 : SlAt encSnp w (Nw wc.heap.size w.heap.size) D l) :
    XRow lo w0 im l ((w.setCell ⟨xb, 0, none⟩ (.slice B im.length vc)).setCell ⟨xb, 1, none⟩ (.slice D l.length dc)) xb B vc D dc := by
  have hz : ((w.setCell ⟨xb, 0, none⟩ (.slice B im.length vc)).setCell ⟨xb, 1, none⟩ (.slice D l.length dc)).heap.size = w.heap.size := by simp [World.setCell]
  have hN : ∀ b, Nw wc.heap.size w.heap.size b → Nw lo ((w.setCell ⟨xb, 0, none⟩ (.slice B im.length vc)).setCell ⟨xb, 1, none⟩ (.slice D l.length dc)).heap.size b := fun b hb => by rw [hz]; exact hb.mono hlo (Nat.le_refl _)
  refine ⟨hle, (hb.setCell (p := ⟨xb, 0, none⟩) hle _).setCell (p := ⟨xb, 1, none⟩) hle _, blk2_set hr _ _, hc, (h1.set2 (fun g hg => by have := hg.1; omega) _ _).more hN, (h2.set2 (fun g hg => by have := hg.1; omega) _ _).more hN⟩
theorem XRow.mkAlloc (hlo : lo ≤ wc.heap.size) (hw : wc.heap.size ≤ w.heap.size) (hb : Below lo w0 w) (hc : im.length ≤ vc ∧ vc ≤ maxLen ∧ l.length ≤ dc ∧ dc ≤ maxLen)
    (h1 : SlAt (encSl encSec) w (Nw wc.heap.size w.heap.size) B im) (h2 : SlAt encSnp w (Nw wc.heap.size w.heap.size) D l) :
    XRow lo w0 im l (w.alloc (.cells #[.slice B im.length vc, .slice D l.length dc] 26)) w.heap.size B vc D dc := by
  have hN : ∀ b, Nw wc.heap.size w.heap.size b → Nw lo (w.alloc (.cells #[.slice B im.length vc, .slice D l.length dc] 26)).heap.size b := fun b hb => ⟨Nat.le_trans hlo hb.1, by have := hb.2; simp; omega⟩
  have hk : ∀ b, Nw wc.heap.size w.heap.size b → (w.alloc (.cells #[.slice B im.length vc, .slice D l.length dc] 26)).heap[b]? = w.heap[b]? := fun b hb => Below.heap_alloc _ _ _ hb.2
  exact ⟨Nat.le_trans hlo hw, hb.alloc (Nat.le_trans hlo hw) _, heap_alloc_new _ _, hc, (h1.blk hk).more hN, (h2.blk hk).more hN⟩
theorem XRow.fwd (h : XRow lo w0 im l w xb B vc D dc) (hlo : lo ≤ w.heap.size) {w' : World} (hb : Below w.heap.size w w') : XRow lo w0 im l w' xb B vc D dc := by
  have hN : ∀ b, Nw lo w.heap.size b → Nw lo w'.heap.size b := fun b hb' => hb'.mono (Nat.le_refl _) hb.size
  exact ⟨h.le, h.ext.trans (hb.mono hlo), (hb.block xb (Array.getElem?_eq_some_iff.1 h.row).1).trans h.row, h.cap, (h.cur.blk (fun b hb' => hb.block b hb'.2)).more hN, (h.its.blk (fun b hb' => hb.block b hb'.2)).more hN⟩
end
section
variable {lo rb sb : Nat} {w w' : World} {B D Bi A B' D' Bi' A5 : Option Addr} {vc dc vi ac vc' dc' vi' c5 n : Nat} {im im' : Img} {l l' : List Snp} {all all' : List Kpt}
/-- a step that stores new snapshots and a new image -/
theorem RunM.next {xb : Nat} (h : RunM lo rb sb w B vc D dc Bi vi A ac im l all) (hne : rb ≠ sb) (hlo : lo ≤ w.heap.size) (hx : XRow w.heap.size w im' l' w' xb B' vc' D' dc')
    (h3 : SlAt (encSl encSec) w' (Nw w.heap.size w'.heap.size) Bi' im') (hc : im'.length ≤ vi' ∧ vi' ≤ maxLen) :
    RunM lo rb sb ((w'.setCell ⟨sb, 0, none⟩ (.slice B' im'.length vc')).setCell ⟨sb, 1, none⟩ (.slice D' l'.length dc')) B' vc' D' dc' Bi' vi' A ac im' l' all :=
  (h.below hx.ext).store hne (hx.cur.more (fun _ hb => h.new hlo hb)) (hx.its.more (fun _ hb => h.new hlo hb)) (h3.more (fun _ hb => h.new hlo hb)) ⟨hx.cap.1, hx.cap.2.1, hx.cap.2.2.1, hx.cap.2.2.2, hc.1, hc.2⟩
/-- a step that leaves the image -/
theorem RunM.next0 {xb : Nat} (h : RunM lo rb sb w B vc D dc Bi vi A ac im l all) (hne : rb ≠ sb) (hlo : lo ≤ w.heap.size) (hx : XRow w.heap.size w im l' w' xb B' vc' D' dc') :
    RunM lo rb sb ((w'.setCell ⟨sb, 0, none⟩ (.slice B' im.length vc')).setCell ⟨sb, 1, none⟩ (.slice D' l'.length dc')) B' vc' D' dc' Bi vi A ac im l' all :=
  (h.below hx.ext).store hne (hx.cur.more (fun _ hb => h.new hlo hb)) (hx.its.more (fun _ hb => h.new hlo hb)) (h.below hx.ext).imv ⟨hx.cap.1, hx.cap.2.1, hx.cap.2.2.1, hx.cap.2.2.2, h.cap.2.2.2.2⟩
/-- a step that takes an image that was there -/
theorem RunM.nextOld {xb : Nat} (h : RunM lo rb sb w B vc D dc Bi vi A ac im l all) (hne : rb ≠ sb) (hlo : lo ≤ w.heap.size) (hx : XRow w.heap.size w im' l' w' xb B' vc' D' dc')
    (h3 : SlAt (encSl encSec) w (RunP lo rb sb w (.slice A all.length ac)) Bi' im') (hc : im'.length ≤ vi' ∧ vi' ≤ maxLen) :
    RunM lo rb sb ((w'.setCell ⟨sb, 0, none⟩ (.slice B' im'.length vc')).setCell ⟨sb, 1, none⟩ (.slice D' l'.length dc')) B' vc' D' dc' Bi' vi' A ac im' l' all :=
  (h.below hx.ext).store hne (hx.cur.more (fun _ hb => h.new hlo hb)) (hx.its.more (fun _ hb => h.new hlo hb)) ((h3.blk (fun b hb => hx.ext.block b hb.1.2)).more (RunP.up hx.ext.size)) ⟨hx.cap.1, hx.cap.2.1, hx.cap.2.2.1, hx.cap.2.2.2, hc.1, hc.2⟩
/-- the list of what is remembered has grown -/
theorem RunM.app {tmp : Obj} {x : Kpt} (h : RunM lo rb sb w B vc D dc Bi vi A ac im l all) (hn : all.length = n)
    (hown : Own encK w' lo 61 (fun g => Nw lo (w.alloc tmp).heap.size g ∧ ¬ (g = rb ∨ g = sb) ∧ (Value.slice A n ac).ownBlock ≠ some g) (.slice A5 (n + 1) c5) (all ++ [x])) (hg : (w.alloc tmp).grownBy w' (Value.slice A n ac).ownBlock)
    (hat : (Value.slice A5 (n + 1) c5).ownBlock = (Value.slice A n ac).ownBlock ∨ (Value.slice A5 (n + 1) c5).ownBlock = some (w.alloc tmp).heap.size) : RunM lo rb sb w' B vc D dc Bi vi A5 c5 im l (all ++ [x]) := by
  subst hn
  have h1 := h.below (ext_alloc (o := tmp) (Below.refl w.heap.size w))
  have hlt := h1.lt
  have hsb : (Value.slice A all.length ac).ownBlock ≠ some sb := fun e => h1.own.2 sb e (Or.inr rfl)
  have hrb : (Value.slice A all.length ac).ownBlock ≠ some rb := fun e => h1.own.2 rb e (Or.inl rfl)
  have hP : ∀ b, RunP lo rb sb (w.alloc tmp) (.slice A all.length ac) b → RunP lo rb sb w' (.slice A5 (all ++ [x]).length c5) b := fun b hb => by
    refine ⟨hb.1.mono (Nat.le_refl _) hg.size, hb.2.1, fun e => ?_⟩
    rw [List.length_append, List.length_singleton] at e
    rcases hat with hat | hat
    · exact hb.2.2 (by rw [← hat]; exact e)
    · rw [hat] at e; injection e with e; have := hb.1.2; omega
  have hk : ∀ b, RunP lo rb sb (w.alloc tmp) (.slice A all.length ac) b → w'.heap[b]? = (w.alloc tmp).heap[b]? := fun b hb => hg.block b hb.1.2 (fun e => hb.2.2 e.symm)
  refine ⟨(hg.block sb hlt.1 (fun e => hsb e.symm)).trans h1.row, (hg.block rb hlt.2 (fun e => hrb e.symm)).trans h1.res, ?_, (h1.cur.blk hk).more hP, (h1.its.blk hk).more hP, (h1.imv.blk hk).more hP, h.cap⟩
  have := h1.own.app hown hg hat (fun g hg' => by rcases hg' with rfl | rfl; exact hlt.2; exact hlt.1)
  rw [List.length_append, List.length_singleton]
  exact this
/-- what is remembered lies in a new block -/
theorem RunM.fresh (h : RunM lo rb sb w B vc D dc Bi vi A ac im l all) (hlo : lo ≤ w.heap.size) (hb : Below w.heap.size w w') (hn : all'.length = n)
    (hown : Own encK w' w.heap.size 61 (fun g => Nw lo w.heap.size g ∧ ¬ (g = rb ∨ g = sb)) (.slice A5 n c5) all') : RunM lo rb sb w' B vc D dc Bi vi A5 c5 im l all' := by
  subst hn
  have h1 := h.below hb
  have hlt := h.lt
  have hl := hown.lt
  have hP : ∀ b, RunP lo rb sb w (.slice A all.length ac) b → RunP lo rb sb w' (.slice A5 all'.length c5) b := fun b hb' =>
    ⟨hb'.1.mono (Nat.le_refl _) hb.size, hb'.2.1, fun e => by have := (hl b e).1; have := hb'.1.2; omega⟩
  refine ⟨h1.row, h1.res, ?_, (h.cur.blk (fun b hb' => hb.block b hb'.1.2)).more hP, (h.its.blk (fun b hb' => hb.block b hb'.1.2)).more hP, (h.imv.blk (fun b hb' => hb.block b hb'.1.2)).more hP, h.cap⟩
  have hX : ∀ g, (Value.slice A5 all'.length c5).ownBlock = some g → ¬ (g = rb ∨ g = sb) := fun g e hx => by
    have := (hl g e).1
    rcases hx with rfl | rfl
    · omega
    · omega
  obtain ⟨css, ⟨k0, k1⟩, k2, k3⟩ := hown
  refine ⟨Own.more (S := fun g => Nw lo w.heap.size g ∧ ¬ (g = rb ∨ g = sb)) ⟨css, ⟨k0, ?_⟩, k2, k3⟩ (fun g hg => ⟨hg.1.mono (Nat.le_refl _) hb.size, hg.2, fun e => by have := (hl g e).1; have := hg.1.2; omega⟩) (fun g hg hS => hS.2.2 hg), hX⟩
  rcases k1 with k1 | ⟨g, cap, cur, e1, hg, r⟩
  · exact Or.inl k1
  · exact Or.inr ⟨g, cap, cur, e1, Nat.le_trans hlo hg, r⟩
/-- the readings of what is remembered -/
theorem RunM.kept (h : RunM lo rb sb w B vc D dc Bi vi A ac im l all) : all.length ≤ ac ∧ ac ≤ maxLen ∧ SlAt encK w (fun g => Nw lo w.heap.size g ∧ ¬ (g = rb ∨ g = sb)) A all := by
  obtain ⟨_, h1, h2, h3⟩ := h.own.parts
  exact ⟨h1, h2, h3⟩
end
theorem kpt_cs {w : World} {S : Nat → Prop} {x : Kpt} {cs : List Value} (h : encK.rd w S cs x) : ∃ D c, cs = [.int .i64 x.1, .slice D x.2.1.length c, .int .i64 x.2.2] ∧ I64 x.1 ∧ I64 x.2.2 ∧ x.2.1.length ≤ c ∧ c ≤ maxLen ∧ SlAt (encSl encSec) w S D x.2.1 := by
  obtain ⟨c1, c2, rfl, ⟨rfl, h1⟩, ⟨c3, c4, rfl, ⟨D, c, rfl, h3, h4, h5⟩, ⟨rfl, h2⟩⟩⟩ := h
  exact ⟨D, c, rfl, h1, h2, h3, h4, h5⟩
theorem kpt_mk {w : World} {S : Nat → Prop} {x : Kpt} {D : Option Addr} {c : Nat} (h1 : I64 x.1) (h2 : I64 x.2.2) (h3 : x.2.1.length ≤ c) (h4 : c ≤ maxLen) (h5 : SlAt (encSl encSec) w S D x.2.1) : encK.rd w S [.int .i64 x.1, .slice D x.2.1.length c, .int .i64 x.2.2] x :=
  ⟨[_], [_, _], rfl, ⟨rfl, h1⟩, ⟨[_], [_], rfl, ⟨D, c, rfl, h3, h4, h5⟩, ⟨rfl, h2⟩⟩⟩
theorem SlAt.kpt {w : World} {S : Nat → Prop} {A : Option Addr} {l : List Kpt} {k : Nat} (h : SlAt encK w S A l) (hk : k < l.length) :
    ∃ b off D c, A = some ⟨b, off, none⟩ ∧ S b ∧
      w.cell? ⟨b, off + k * 3, none⟩ = some (.int .i64 l[k].1) ∧ w.cell? ⟨b, off + k * 3 + 1, none⟩ = some (.slice D l[k].2.1.length c) ∧ w.cell? ⟨b, off + k * 3 + 2, none⟩ = some (.int .i64 l[k].2.2) ∧
      SlAt (encSl encSec) w S D l[k].2.1 ∧ l[k].2.1.length ≤ c ∧ c ≤ maxLen ∧ I64 l[k].1 ∧ I64 l[k].2.2 := by
  obtain ⟨b, off, cs, e, hb, hs, hr⟩ := h.at_ hk
  obtain ⟨D, c, rfl, h1, h2, h3, h4, h5⟩ := kpt_cs hr
  exact ⟨b, off, D, c, e, hb, hs 0 _ rfl, hs 1 _ rfl, hs 2 _ rfl, h5, h3, h4, h1, h2⟩
theorem tyK : SliceTy Tryz.prog 57 61 3 40 := sliceTy_mk (z := .agg #[.int .i64 0, .slice none 0 0, .int .i64 0]) Tryz.underlying57 (by kernel_rfl) rfl (by decide)
theorem eraseIdx_eq {α : Type} (l : List α) (j : Nat) : l.eraseIdx j = l.take j ++ l.drop (j + 1) := by
  induction l generalizing j with
  | nil => simp
  | cons x l ih => cases j with
    | zero => rfl
    | succ j => simp [ih]
theorem RunM.keptImg {lo rb sb jj : Nat} {w : World} {B D Bi A : Option Addr} {vc dc vi ac : Nat} {im : Img} {l : List Snp} {all : List Kpt} (h : RunM lo rb sb w B vc D dc Bi vi A ac im l all) (hj : jj < all.length) :
    ∃ ga offa Dk ck, A = some ⟨ga, offa, none⟩ ∧ (Nw lo w.heap.size ga ∧ ¬ (ga = rb ∨ ga = sb)) ∧ w.cell? ⟨ga, offa + jj * 3, none⟩ = some (.int .i64 all[jj].1) ∧ w.cell? ⟨ga, offa + jj * 3 + 1, none⟩ = some (.slice Dk all[jj].2.1.length ck) ∧
      SlAt (encSl encSec) w (RunP lo rb sb w (.slice A all.length ac)) Dk all[jj].2.1 ∧ all[jj].2.1.length ≤ ck ∧ ck ≤ maxLen := by
  obtain ⟨g, cs, rfl, h1, h2, h3, h4, _, h5⟩ := h.own.1.elem hj
  obtain ⟨Dk, ck, rfl, _, _, k3, k4, k5⟩ := kpt_cs h5
  refine ⟨g, 0, Dk, ck, rfl, ⟨⟨h1, h2⟩, h.own.2 g rfl⟩, ?_, ?_, k5, k3, k4⟩
  · have := h4 0 _ rfl
    rw [Nat.zero_add]; exact this
  · have := h4 1 _ rfl
    rw [Nat.zero_add]; exact this
end Go.Proofs.YtgmeghandjkkcaaGreat

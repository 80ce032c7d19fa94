/-
  The write of a step.
-/
import Derived.Test.YtgmeghandjkkcaaPo
import Derived.Test.YtgmeghandjkkcaaSn5
import Derived.Deep.DeepCutAuto
set_option linter.unusedVariables false
set_option linter.unusedSimpArgs false
set_option linter.unusedSectionVars false
set_option linter.unnecessarySimpa false
namespace Go.Proofs.Ytgmeghandjkkcaa
open Go.RowKit Go.Shelf
attribute [local go_sem] Oper.semAt_some

def stSec (f : Int) (i : Nat) : Sec := [f, (i : Int), 0, 0, 0, 0, 0, 0]
def stN (x : Stp) : Int := if x.2.1 % 2 = 0 then 5 else 3
def stK (x : Stp) : Nat := (x.2.2.2.1 % (stN x - x.2.2.1 % stN x)).toNat
/-- the write of a step -/
def dataW (x : Stp) : Wr := (x.2.1 % 2, x.2.2.1 % stN x, (List.range (stK x + 1)).map (stSec x.2.2.2.2))
def U8 (n : Int) : Prop := 0 ≤ n ∧ n < 256
def OkStp (x : Stp) : Prop := U8 x.1 ∧ U8 x.2.1 ∧ U8 x.2.2.1 ∧ U8 x.2.2.2.1 ∧ U8 x.2.2.2.2
theorem data_fits (x : Stp) (h : OkStp x) : fitsN [5, 3] (dataW x) = 0 := by
  obtain ⟨k, v, s, c, f⟩ := x
  obtain ⟨_, h1, h2, h3, h4⟩ := h
  simp only [U8] at h1 h2 h3 h4
  unfold dataW stK stN
  simp only
  by_cases hv : v % 2 = 0
  · rw [if_pos hv, hv]
    have hb : 0 ≤ c % (5 - s % 5) ∧ c % (5 - s % 5) < 5 - s % 5 := ⟨Int.emod_nonneg _ (by omega), Int.emod_lt_of_pos _ (by omega)⟩
    refine fitsN_mk (by omega) (by simp) (by simp) (by omega) ?_
    simp only [List.length_map, List.length_range]
    show s % 5 + _ ≤ (5 : Int)
    omega
  · rw [if_neg hv, show v % 2 = 1 by omega]
    have hb : 0 ≤ c % (3 - s % 3) ∧ c % (3 - s % 3) < 3 - s % 3 := ⟨Int.emod_nonneg _ (by omega), Int.emod_lt_of_pos _ (by omega)⟩
    refine fitsN_mk (by omega) (by simp) (by simp) (by omega) ?_
    simp only [List.length_map, List.length_range]
    show s % 3 + _ ≤ (3 : Int)
    omega
set_option maxHeartbeats 1000000 in
theorem sizes36_any (w : World) : Calls Try.prog 40 #[] w fun e w' => ∃ g, e = .returned (.slice (some ⟨g, 0, none⟩) 2 2) ∧ w.heap.size ≤ g ∧ w'.heap[g]? = some (.cells #[.int .i64 5, .int .i64 3] 3 (0, 0)) ∧ Below w.heap.size w w' := by
  go_enter Try.func40, Try.ntmps40
  go_wp2
  go_ret
  exact ⟨w.heap.size, rfl, Nat.le_refl _, heap_alloc_new _ _, ext_alloc (Below.refl _ _)⟩
theorem blk3_set3 {w : World} {b : Nat} {T : TypeId} {c0 c1 c2 : Value} (h : w.heap[b]? = some (.cells #[c0, c1, c2] T (0, 0))) (u v t : Value) : (((w.setCell ⟨b, 0, none⟩ u).setCell ⟨b, 1, none⟩ v).setCell ⟨b, 2, none⟩ t).heap[b]? = some (.cells #[u, v, t] T (0, 0)) := by
  simp [World.setCell, Array.getElem?_modify, h]
set_option maxHeartbeats 4000000 in
set_option maxRecDepth 100000 in
theorem data_any (a b s c f : Int) (hx : OkStp (a, b, s, c, f)) (v0 s0 : Int) (d : List Sec) (hd : dataW (a, b, s, c, f) = (v0, s0, d)) (w : World) :
    Calls Try.prog 20 #[.agg #[.int .u8 a, .int .u8 b, .int .u8 s, .int .u8 c, .int .u8 f]] w fun e w' => ∃ D dc, e = .returned (.agg #[.int .i64 v0, .int .i64 s0, .slice D d.length dc]) ∧ d.length ≤ dc ∧ dc ≤ maxLen ∧ SlAt encSec w' (Nw w.heap.size w'.heap.size) D d ∧ Below w.heap.size w w' := by
  obtain ⟨_, h1, h2, h3, h4⟩ := hx
  simp only [U8] at h1 h2 h3 h4
  obtain ⟨hb0, hb1⟩ := h1
  obtain ⟨hs0, hs1⟩ := h2
  obtain ⟨hc0, hc1⟩ := h3
  obtain ⟨hf0, hf1⟩ := h4
  obtain ⟨n0, hn0⟩ : ∃ n0, w.heap.size = n0 := ⟨_, rfl⟩
  obtain ⟨W0, hW0⟩ : ∃ W0, (w.alloc (.cells #[.int .u8 a, .int .u8 b, .int .u8 s, .int .u8 c, .int .u8 f] 50)).alloc (.cells #[.int .i64 0, .int .i64 0, .slice none 0 0] 54) = W0 := ⟨_, rfl⟩
  have hB0 : Below n0 w W0 := by rw [← hW0, ← hn0]; exact ext_alloc (ext_alloc (Below.refl _ _))
  have hz0 : n0 + 1 < W0.heap.size := by rw [← hW0, ← hn0]; simp
  have hr0 : W0.heap[n0]? = some (.cells #[.int .u8 a, .int .u8 b, .int .u8 s, .int .u8 c, .int .u8 f] 50 (0, 0)) := by rw [← hW0, ← hn0]; exact (Below.heap_alloc _ _ _ (by simp)).trans (heap_alloc_new _ _)
  have hrz0 : W0.heap[n0 + 1]? = some (.cells #[.int .i64 0, .int .i64 0, .slice none 0 0] 54 (0, 0)) := by rw [← hW0, ← hn0]; exact heap_new2 _ _ _
  have HSX : Hid (∀ W, Below W0.heap.size W0 W → W.cell? ⟨n0, 1, none⟩ = some (.int .u8 b)) := fun W hb => by
    rw [cell_of_row W n0 1 _ _ _ ((hb.block n0 (by omega)).trans hr0)]; rfl
  have HC5 : Hid (∀ W, Below W0.heap.size W0 W → W.cell? ⟨n0, 1, none⟩ = some (.int .u8 b) ∧ W.cell? ⟨n0, 2, none⟩ = some (.int .u8 s) ∧ W.cell? ⟨n0, 3, none⟩ = some (.int .u8 c) ∧ W.cell? ⟨n0, 4, none⟩ = some (.int .u8 f)) := fun W hb => by
    have h := (hb.block n0 (by omega)).trans hr0
    exact ⟨by rw [cell_of_row W n0 1 _ _ _ h]; rfl, by rw [cell_of_row W n0 2 _ _ _ h]; rfl, by rw [cell_of_row W n0 3 _ _ _ h]; rfl, by rw [cell_of_row W n0 4 _ _ _ h]; rfl⟩
  have HR0 := Lib.hid hr0
  have HRZ := Lib.hid hrz0
  have hbd : Below W0.heap.size W0 W0.drew := (Below.refl _ _).drew
  have hs00 := HSX.out W0.drew hbd
  have HW0 := Lib.hid hW0
  clear hr0 hrz0 hW0
  go_enter Try.func20, Try.ntmps20
  go_upto_region 1 with (fail)
  rw [HW0.out]
  by_cases hv : b % 2 = 0
  · have hbv : (b % 2 = 0) = True := eq_true hv
    have hm : b.tmod 2 = 0 := by rw [Int.tmod_eq_emod_of_nonneg hb0]; omega
    have hdd : dataW (a, b, s, c, f) = (0, s % 5, (List.range ((c % (5 - s % 5)).toNat + 1)).map (stSec f)) := by
      have hb2 : b % 2 = 0 := by omega
      have e : stN (a, b, s, c, f) = 5 := by unfold stN; simp [hb2]
      unfold dataW stK
      rw [e]
      simp only [hb2]
    rw [hdd] at hd
    simp only [Prod.mk.injEq] at hd
    obtain ⟨hv0, hs, hdl⟩ := hd
    subst hv0
    have hs0lo : 0 ≤ s0 := by omega
    have hs0hi : s0 < 5 := by omega
    obtain ⟨K, hK⟩ : ∃ K : Nat, c % (5 - s0) = (K : Int) := ⟨(c % (5 - s0)).toNat, by have := Int.emod_nonneg c (show 5 - s0 ≠ 0 by omega); omega⟩
    have hK9 : K < 9 := by have := Int.emod_lt_of_pos c (show (0 : Int) < 5 - s0 by omega); omega
    have HD : Hid (d = (List.range (K + 1)).map (stSec f)) := by rw [Hid, ← hdl, hs, hK, Int.toNat_natCast]
    have HS := Lib.hid hs
    clear hdd hdl
    go_cut [3] (fun e wx => e = .int .i64 5 ∧ Below W0.heap.size W0 wx)
    case first =>
      go_region_law (first | (go_simp; go_at_call 40; refine (sizes36_any W0.drew).mono ?_; rintro e w1 ⟨g, rfl, hg1, hg2, hb1⟩; have hx1 : Below W0.heap.size W0 w1 := ext_trans hbd hb1; obtain ⟨g0, g1, _⟩ := blk2 hg2; have hs3 := HSX.out w1 hx1))
      all_goals
        go_wp2
        go_meet
        exact ⟨rfl, hx1⟩
    case rest =>
    obtain ⟨rfl, hxc⟩ := hcut
    obtain ⟨c1, c2, c3, c4⟩ := HC5.out wc hxc
    go_upto_region 5 with (fail)
    obtain ⟨wb, hwb⟩ : ∃ wb, wc.heap.size = wb := ⟨_, rfl⟩
    obtain ⟨w4, hw4⟩ : ∃ w4, wc.alloc (.cells #[.int .i64 0, .int .i64 s0, .slice none 0 0] 54) = w4 := ⟨_, rfl⟩
    rw [hw4, hwb]
    have hb4 : Below wc.heap.size wc w4 := by rw [← hw4]; exact ext_alloc (Below.refl _ _)
    have hr4 : w4.heap[wb]? = some (.cells #[.int .i64 0, .int .i64 s0, .slice none 0 0] 54 (0, 0)) := by rw [← hw4, ← hwb]; exact heap_alloc_new _ _
    have HR4 := Lib.hid hr4
    have hx4 : Below W0.heap.size W0 w4 := ext_trans hxc hb4
    have hzw := hxc.size
    have hz4 : wb < w4.heap.size := (Array.getElem?_eq_some_iff.1 hr4).1
    have hB4 : Below n0 w w4 := hB0.trans (hx4.mono (by omega))
    clear hw4 hr4 hb4 c1 c2 c3 c4
    go_loopw [6] (fun i wr => ∃ (k : Nat) (D : Option Addr) (dc : Nat) (out : List Sec), k ≤ K + 1 ∧ i = .int .i64 k ∧ Below W0.heap.size W0 wr ∧ wb < wr.heap.size ∧ Hid (out = (List.range k).map (stSec f)) ∧ Hid (wr.heap[wb]? = some (.cells #[.int .i64 0, .int .i64 s0, .slice D k dc] 54 (0, 0))) ∧ Hid (OwnX (fun g => g = wb) encSec wr W0.heap.size 67 (.slice D k dc) out)) (fun i _ => K + 1 - (intOf i).toNat)
    case atStart => exact ⟨0, none, 0, [], by omega, rfl, hx4, hz4, by simp [Hid], HR4.out, OwnX.nil_⟩
    case round =>
      obtain ⟨wo, rfl⟩ : ∃ wo : World, wo = wr := ⟨_, rfl⟩
      obtain ⟨k, D, dc, out, hk, rfl, hB, hsz, hout, hrow, hown⟩ := hrel
      obtain ⟨c1, c2, c3, c4⟩ := HC5.out wo hB
      have hlen : Hid (out.length = k) := by rw [hout.out]; simp [Hid]
      have hzo := hB.size
      by_cases hlt : k < K + 1
      · have hki : (k : Int) ≤ (K : Int) := by omega
        have hkn : (0 : Int) ≤ k := by omega
        have hwk : IntKind.u8.wrap (k : Int) = (k : Int) := IntWalk.u8_in _ (by omega)
        obtain ⟨r0, r1, r2, rf⟩ := blk3 hrow.out
        have hst : Hid ((List.range (k + 1)).map (stSec f) = (List.range k).map (stSec f) ++ [stSec f k]) := by rw [Hid, List.range_succ, List.map_append]; rfl
        have hok : Hid (OkSec (stSec f k)) := ⟨rfl, fun x hx => by simp [stSec] at hx; omega⟩
        have hO4 := Lib.hid (hown.out.alloc (.cells #[.int .u8 f, .int .u8 k, .int .u8 0, .int .u8 0, .int .u8 0, .int .u8 0, .int .u8 0, .int .u8 0] 67))
        have hO4o := Lib.hid hO4.out.1
        have hlo := Lib.hid hO4.out.lt
        have HRD : Hid (encSec.rd (wo.alloc (.cells #[.int .u8 f, .int .u8 k, .int .u8 0, .int .u8 0, .int .u8 0, .int .u8 0, .int .u8 0, .int .u8 0] 67)) (fun g => Nw W0.heap.size (wo.alloc (.cells #[.int .u8 f, .int .u8 k, .int .u8 0, .int .u8 0, .int .u8 0, .int .u8 0, .int .u8 0, .int .u8 0] 67)).heap.size g ∧ ¬ g = wb ∧ (Value.slice D k dc).ownBlock ≠ some g) [.int .u8 f, .int .u8 k, .int .u8 0, .int .u8 0, .int .u8 0, .int .u8 0, .int .u8 0, .int .u8 0] (stSec f k)) := ⟨rfl, hok.out⟩
        go_wp2_with (at_builtin; refine Hid.out ?_)
        change wpList _ _ _ _ _ _
        refine wpList_app1 (E := encSec) tySecs36 rfl _ _ rfl rfl hO4o.out (stSec f k) [.int .u8 f, .int .u8 k, .int .u8 0, .int .u8 0, .int .u8 0, .int .u8 0, .int .u8 0, .int .u8 0] rfl HRD.out (heap_alloc_new _ _) (fun _ h => h.1.2) (by simp; omega) (by unfold maxLen; rw [hlen.out]; omega) (by rw [hlen.out]; omega) ?_
        intro A5 c5 w5 hown5 hg5 hat5
        rw [hlen.out] at hown5 hat5
        rw [hlen.out]
        have hrow5 := (hg5.block wb (by simp; omega) (fun e => hown.out.2 _ e.symm rfl)).trans ((Below.heap_alloc wo (.cells #[.int .u8 f, .int .u8 k, .int .u8 0, .int .u8 0, .int .u8 0, .int .u8 0, .int .u8 0, .int .u8 0] 67) wb hsz).trans hrow.out)
        have HR6 := Lib.hid (blk3_set hrow5 (.slice A5 (k + 1) c5))
        have hO5 : Hid (OwnX (fun g => g = wb) encSec (w5.setCell ⟨wb, 2, none⟩ (.slice A5 (k + 1) c5)) W0.heap.size 67 (.slice A5 (k + 1) c5) (out ++ [stSec f k])) := (hO4.out.app hown5 hg5 hat5 (fun g hg => by have : g = wb := hg; simp; omega)).set (p := ⟨wb, 2, none⟩) rfl _
        have hz5 := hg5.size
        have hB6 : Below W0.heap.size W0 (w5.setCell ⟨wb, 2, none⟩ (.slice A5 (k + 1) c5)) := ((hB.alloc (by omega) (.cells #[.int .u8 f, .int .u8 k, .int .u8 0, .int .u8 0, .int .u8 0, .int .u8 0, .int .u8 0, .int .u8 0] 67)).grown hg5 (by simp; omega) (fun g h => (hlo.out g h).1)).setCell (p := ⟨wb, 2, none⟩) (by show W0.heap.size ≤ wb; omega) _
        have hz6 : wb < (w5.setCell ⟨wb, 2, none⟩ (.slice A5 (k + 1) c5)).heap.size := by simp [World.setCell] at hz5 ⊢; omega
        obtain ⟨t0, t1, t2, tf⟩ := blk3 hrow5
        clear hown5 hg5 hat5 hz5 r0 r1 r2 rf c1 c2 c3 c4 hO4 hO4o HRD hrow5
        have HB6 := Lib.hid hB6
        have HZ6 := Lib.hid hz6
        clear hB6 hz6
        go_wp2
        go_roundw
        case rel => exact ⟨k + 1, A5, c5, out ++ [stSec f k], by omega, by go_num, HB6.out, HZ6.out, by rw [Hid, hst.out, hout.out], by simpa [Hid] using HR6.out, by simpa [Hid] using hO5.out⟩
        case measure => simp [intOf]; omega
      · have hkk : k = K + 1 := by omega
        subst hkk
        have hng : ¬ ((K + 1 : Nat) : Int) ≤ (K : Int) := by omega
        have hng' : ¬ (K : Int) + 1 ≤ (K : Int) := by omega
        obtain ⟨r0, r1, r2, _⟩ := blk3 hrow.out
        have hrz := (hB.block (n0 + 1) hz0).trans HRZ.out
        obtain ⟨q0, q1, q2, qf⟩ := blk3 hrz
        have hod : Hid (out = d) := by rw [Hid, hout.out, HD.out]
        have hparts := Lib.hid hown.out.parts
        have hW3 := blk3_set3 hrz (.int .i64 0) (.int .i64 s0) (.slice D (K + 1) dc)
        have hbW : Below n0 w (((wo.setCell ⟨n0 + 1, 0, none⟩ (.int .i64 0)).setCell ⟨n0 + 1, 1, none⟩ (.int .i64 s0)).setCell ⟨n0 + 1, 2, none⟩ (.slice D (K + 1) dc)) := (((hB0.trans (hB.mono (by omega))).setCell (p := ⟨n0 + 1, 0, none⟩) (by show n0 ≤ n0 + 1; omega) _).setCell (p := ⟨n0 + 1, 1, none⟩) (by show n0 ≤ n0 + 1; omega) _).setCell (p := ⟨n0 + 1, 2, none⟩) (by show n0 ≤ n0 + 1; omega) _
        have hsl : SlAt encSec (((wo.setCell ⟨n0 + 1, 0, none⟩ (.int .i64 0)).setCell ⟨n0 + 1, 1, none⟩ (.int .i64 s0)).setCell ⟨n0 + 1, 2, none⟩ (.slice D (K + 1) dc)) (Nw W0.heap.size wo.heap.size) D d := by
          have h := hparts.out.2.2.2
          rw [hod.out] at h
          exact (h.more (fun g hg => hg.1)).blk (fun g hg => by
            have hne : g ≠ n0 + 1 := by have := hg.1; omega
            exact (heap_setCell_other _ ⟨n0 + 1, 2, none⟩ g _ hne).trans ((heap_setCell_other _ ⟨n0 + 1, 1, none⟩ g _ hne).trans (heap_setCell_other _ ⟨n0 + 1, 0, none⟩ g _ hne)))
        have hsz3 : (((wo.setCell ⟨n0 + 1, 0, none⟩ (.int .i64 0)).setCell ⟨n0 + 1, 1, none⟩ (.int .i64 s0)).setCell ⟨n0 + 1, 2, none⟩ (.slice D (K + 1) dc)).heap.size = wo.heap.size := by simp [World.setCell]
        have hdl : Hid (d.length = K + 1) := by rw [← hod.out]; exact hlen.out
        have HW3 := Lib.hid (And.intro hW3 (And.intro hbW (And.intro hsl hsz3)))
        have hcap := Lib.hid (And.intro hparts.out.2.1 hparts.out.2.2.1)
        clear hW3 hbW hsl hsz3
        go_wp2
        change bodyPost _ _ _ _ _ (((wo.setCell ⟨n0 + 1, 0, none⟩ (.int .i64 0)).setCell ⟨n0 + 1, 1, none⟩ (.int .i64 s0)).setCell ⟨n0 + 1, 2, none⟩ (.slice D (K + 1) dc))
        generalize ((wo.setCell ⟨n0 + 1, 0, none⟩ (.int .i64 0)).setCell ⟨n0 + 1, 1, none⟩ (.int .i64 s0)).setCell ⟨n0 + 1, 2, none⟩ (.slice D (K + 1) dc) = W3 at HW3 ⊢
        obtain ⟨z0, z1, z2, _⟩ := blk3 HW3.out.1
        refine bodyPost_ret (v := .agg #[.int .i64 0, .int .i64 s0, .slice D (K + 1) dc]) ?_ rfl ?_
        · simp [results, Try.results20, Try.f20, go_sem, z0, z1, z2]
        · have hc := hcap.out
          rw [hod.out, hdl.out] at hc
          have h4 := HW3.out.2.2.2
          exact ⟨D, dc, by rw [hdl.out], by rw [hdl.out]; exact hc.1, hc.2, HW3.out.2.2.1.more (fun g hg => ⟨by have := hg.1; omega, by have := hg.2; omega⟩), HW3.out.2.1⟩
  · have hbv : (b % 2 = 0) = False := eq_false hv
    have hm : b.tmod 2 = 1 := by rw [Int.tmod_eq_emod_of_nonneg hb0]; omega
    have hdd : dataW (a, b, s, c, f) = (1, s % 3, (List.range ((c % (3 - s % 3)).toNat + 1)).map (stSec f)) := by
      have hb2 : b % 2 = 1 := by omega
      have e : stN (a, b, s, c, f) = 3 := by unfold stN; simp [hb2]
      unfold dataW stK
      rw [e]
      simp only [hb2]
    rw [hdd] at hd
    simp only [Prod.mk.injEq] at hd
    obtain ⟨hv0, hs, hdl⟩ := hd
    subst hv0
    have hs0lo : 0 ≤ s0 := by omega
    have hs0hi : s0 < 3 := by omega
    obtain ⟨K, hK⟩ : ∃ K : Nat, c % (3 - s0) = (K : Int) := ⟨(c % (3 - s0)).toNat, by have := Int.emod_nonneg c (show 3 - s0 ≠ 0 by omega); omega⟩
    have hK9 : K < 9 := by have := Int.emod_lt_of_pos c (show (0 : Int) < 3 - s0 by omega); omega
    have HD : Hid (d = (List.range (K + 1)).map (stSec f)) := by rw [Hid, ← hdl, hs, hK, Int.toNat_natCast]
    have HS := Lib.hid hs
    clear hdd hdl
    go_cut [3] (fun e wx => e = .int .i64 3 ∧ Below W0.heap.size W0 wx)
    case first =>
      go_region_law (first | (go_simp; go_at_call 40; refine (sizes36_any W0.drew).mono ?_; rintro e w1 ⟨g, rfl, hg1, hg2, hb1⟩; have hx1 : Below W0.heap.size W0 w1 := ext_trans hbd hb1; obtain ⟨g0, g1, _⟩ := blk2 hg2; have hs3 := HSX.out w1 hx1))
      all_goals
        go_wp2
        go_meet
        exact ⟨rfl, hx1⟩
    case rest =>
    obtain ⟨rfl, hxc⟩ := hcut
    obtain ⟨c1, c2, c3, c4⟩ := HC5.out wc hxc
    go_upto_region 5 with (fail)
    obtain ⟨wb, hwb⟩ : ∃ wb, wc.heap.size = wb := ⟨_, rfl⟩
    obtain ⟨w4, hw4⟩ : ∃ w4, wc.alloc (.cells #[.int .i64 1, .int .i64 s0, .slice none 0 0] 54) = w4 := ⟨_, rfl⟩
    rw [hw4, hwb]
    have hb4 : Below wc.heap.size wc w4 := by rw [← hw4]; exact ext_alloc (Below.refl _ _)
    have hr4 : w4.heap[wb]? = some (.cells #[.int .i64 1, .int .i64 s0, .slice none 0 0] 54 (0, 0)) := by rw [← hw4, ← hwb]; exact heap_alloc_new _ _
    have HR4 := Lib.hid hr4
    have hx4 : Below W0.heap.size W0 w4 := ext_trans hxc hb4
    have hzw := hxc.size
    have hz4 : wb < w4.heap.size := (Array.getElem?_eq_some_iff.1 hr4).1
    have hB4 : Below n0 w w4 := hB0.trans (hx4.mono (by omega))
    clear hw4 hr4 hb4 c1 c2 c3 c4
    go_loopw [6] (fun i wr => ∃ (k : Nat) (D : Option Addr) (dc : Nat) (out : List Sec), k ≤ K + 1 ∧ i = .int .i64 k ∧ Below W0.heap.size W0 wr ∧ wb < wr.heap.size ∧ Hid (out = (List.range k).map (stSec f)) ∧ Hid (wr.heap[wb]? = some (.cells #[.int .i64 1, .int .i64 s0, .slice D k dc] 54 (0, 0))) ∧ Hid (OwnX (fun g => g = wb) encSec wr W0.heap.size 67 (.slice D k dc) out)) (fun i _ => K + 1 - (intOf i).toNat)
    case atStart => exact ⟨0, none, 0, [], by omega, rfl, hx4, hz4, by simp [Hid], HR4.out, OwnX.nil_⟩
    case round =>
      obtain ⟨wo, rfl⟩ : ∃ wo : World, wo = wr := ⟨_, rfl⟩
      obtain ⟨k, D, dc, out, hk, rfl, hB, hsz, hout, hrow, hown⟩ := hrel
      obtain ⟨c1, c2, c3, c4⟩ := HC5.out wo hB
      have hlen : Hid (out.length = k) := by rw [hout.out]; simp [Hid]
      have hzo := hB.size
      by_cases hlt : k < K + 1
      · have hki : (k : Int) ≤ (K : Int) := by omega
        have hkn : (0 : Int) ≤ k := by omega
        have hwk : IntKind.u8.wrap (k : Int) = (k : Int) := IntWalk.u8_in _ (by omega)
        obtain ⟨r0, r1, r2, rf⟩ := blk3 hrow.out
        have hst : Hid ((List.range (k + 1)).map (stSec f) = (List.range k).map (stSec f) ++ [stSec f k]) := by rw [Hid, List.range_succ, List.map_append]; rfl
        have hok : Hid (OkSec (stSec f k)) := ⟨rfl, fun x hx => by simp [stSec] at hx; omega⟩
        have hO4 := Lib.hid (hown.out.alloc (.cells #[.int .u8 f, .int .u8 k, .int .u8 0, .int .u8 0, .int .u8 0, .int .u8 0, .int .u8 0, .int .u8 0] 67))
        have hO4o := Lib.hid hO4.out.1
        have hlo := Lib.hid hO4.out.lt
        have HRD : Hid (encSec.rd (wo.alloc (.cells #[.int .u8 f, .int .u8 k, .int .u8 0, .int .u8 0, .int .u8 0, .int .u8 0, .int .u8 0, .int .u8 0] 67)) (fun g => Nw W0.heap.size (wo.alloc (.cells #[.int .u8 f, .int .u8 k, .int .u8 0, .int .u8 0, .int .u8 0, .int .u8 0, .int .u8 0, .int .u8 0] 67)).heap.size g ∧ ¬ g = wb ∧ (Value.slice D k dc).ownBlock ≠ some g) [.int .u8 f, .int .u8 k, .int .u8 0, .int .u8 0, .int .u8 0, .int .u8 0, .int .u8 0, .int .u8 0] (stSec f k)) := ⟨rfl, hok.out⟩
        go_wp2_with (at_builtin; refine Hid.out ?_)
        change wpList _ _ _ _ _ _
        refine wpList_app1 (E := encSec) tySecs36 rfl _ _ rfl rfl hO4o.out (stSec f k) [.int .u8 f, .int .u8 k, .int .u8 0, .int .u8 0, .int .u8 0, .int .u8 0, .int .u8 0, .int .u8 0] rfl HRD.out (heap_alloc_new _ _) (fun _ h => h.1.2) (by simp; omega) (by unfold maxLen; rw [hlen.out]; omega) (by rw [hlen.out]; omega) ?_
        intro A5 c5 w5 hown5 hg5 hat5
        rw [hlen.out] at hown5 hat5
        rw [hlen.out]
        have hrow5 := (hg5.block wb (by simp; omega) (fun e => hown.out.2 _ e.symm rfl)).trans ((Below.heap_alloc wo (.cells #[.int .u8 f, .int .u8 k, .int .u8 0, .int .u8 0, .int .u8 0, .int .u8 0, .int .u8 0, .int .u8 0] 67) wb hsz).trans hrow.out)
        have HR6 := Lib.hid (blk3_set hrow5 (.slice A5 (k + 1) c5))
        have hO5 : Hid (OwnX (fun g => g = wb) encSec (w5.setCell ⟨wb, 2, none⟩ (.slice A5 (k + 1) c5)) W0.heap.size 67 (.slice A5 (k + 1) c5) (out ++ [stSec f k])) := (hO4.out.app hown5 hg5 hat5 (fun g hg => by have : g = wb := hg; simp; omega)).set (p := ⟨wb, 2, none⟩) rfl _
        have hz5 := hg5.size
        have hB6 : Below W0.heap.size W0 (w5.setCell ⟨wb, 2, none⟩ (.slice A5 (k + 1) c5)) := ((hB.alloc (by omega) (.cells #[.int .u8 f, .int .u8 k, .int .u8 0, .int .u8 0, .int .u8 0, .int .u8 0, .int .u8 0, .int .u8 0] 67)).grown hg5 (by simp; omega) (fun g h => (hlo.out g h).1)).setCell (p := ⟨wb, 2, none⟩) (by show W0.heap.size ≤ wb; omega) _
        have hz6 : wb < (w5.setCell ⟨wb, 2, none⟩ (.slice A5 (k + 1) c5)).heap.size := by simp [World.setCell] at hz5 ⊢; omega
        obtain ⟨t0, t1, t2, tf⟩ := blk3 hrow5
        clear hown5 hg5 hat5 hz5 r0 r1 r2 rf c1 c2 c3 c4 hO4 hO4o HRD hrow5
        have HB6 := Lib.hid hB6
        have HZ6 := Lib.hid hz6
        clear hB6 hz6
        go_wp2
        go_roundw
        case rel => exact ⟨k + 1, A5, c5, out ++ [stSec f k], by omega, by go_num, HB6.out, HZ6.out, by rw [Hid, hst.out, hout.out], by simpa [Hid] using HR6.out, by simpa [Hid] using hO5.out⟩
        case measure => simp [intOf]; omega
      · have hkk : k = K + 1 := by omega
        subst hkk
        have hng : ¬ ((K + 1 : Nat) : Int) ≤ (K : Int) := by omega
        have hng' : ¬ (K : Int) + 1 ≤ (K : Int) := by omega
        obtain ⟨r0, r1, r2, _⟩ := blk3 hrow.out
        have hrz := (hB.block (n0 + 1) hz0).trans HRZ.out
        obtain ⟨q0, q1, q2, qf⟩ := blk3 hrz
        have hod : Hid (out = d) := by rw [Hid, hout.out, HD.out]
        have hparts := Lib.hid hown.out.parts
        have hW3 := blk3_set3 hrz (.int .i64 1) (.int .i64 s0) (.slice D (K + 1) dc)
        have hbW : Below n0 w (((wo.setCell ⟨n0 + 1, 0, none⟩ (.int .i64 1)).setCell ⟨n0 + 1, 1, none⟩ (.int .i64 s0)).setCell ⟨n0 + 1, 2, none⟩ (.slice D (K + 1) dc)) := (((hB0.trans (hB.mono (by omega))).setCell (p := ⟨n0 + 1, 0, none⟩) (by show n0 ≤ n0 + 1; omega) _).setCell (p := ⟨n0 + 1, 1, none⟩) (by show n0 ≤ n0 + 1; omega) _).setCell (p := ⟨n0 + 1, 2, none⟩) (by show n0 ≤ n0 + 1; omega) _
        have hsl : SlAt encSec (((wo.setCell ⟨n0 + 1, 0, none⟩ (.int .i64 1)).setCell ⟨n0 + 1, 1, none⟩ (.int .i64 s0)).setCell ⟨n0 + 1, 2, none⟩ (.slice D (K + 1) dc)) (Nw W0.heap.size wo.heap.size) D d := by
          have h := hparts.out.2.2.2
          rw [hod.out] at h
          exact (h.more (fun g hg => hg.1)).blk (fun g hg => by
            have hne : g ≠ n0 + 1 := by have := hg.1; omega
            exact (heap_setCell_other _ ⟨n0 + 1, 2, none⟩ g _ hne).trans ((heap_setCell_other _ ⟨n0 + 1, 1, none⟩ g _ hne).trans (heap_setCell_other _ ⟨n0 + 1, 0, none⟩ g _ hne)))
        have hsz3 : (((wo.setCell ⟨n0 + 1, 0, none⟩ (.int .i64 1)).setCell ⟨n0 + 1, 1, none⟩ (.int .i64 s0)).setCell ⟨n0 + 1, 2, none⟩ (.slice D (K + 1) dc)).heap.size = wo.heap.size := by simp [World.setCell]
        have hdl : Hid (d.length = K + 1) := by rw [← hod.out]; exact hlen.out
        have HW3 := Lib.hid (And.intro hW3 (And.intro hbW (And.intro hsl hsz3)))
        have hcap := Lib.hid (And.intro hparts.out.2.1 hparts.out.2.2.1)
        clear hW3 hbW hsl hsz3
        go_wp2
        change bodyPost _ _ _ _ _ (((wo.setCell ⟨n0 + 1, 0, none⟩ (.int .i64 1)).setCell ⟨n0 + 1, 1, none⟩ (.int .i64 s0)).setCell ⟨n0 + 1, 2, none⟩ (.slice D (K + 1) dc))
        generalize ((wo.setCell ⟨n0 + 1, 0, none⟩ (.int .i64 1)).setCell ⟨n0 + 1, 1, none⟩ (.int .i64 s0)).setCell ⟨n0 + 1, 2, none⟩ (.slice D (K + 1) dc) = W3 at HW3 ⊢
        obtain ⟨z0, z1, z2, _⟩ := blk3 HW3.out.1
        refine bodyPost_ret (v := .agg #[.int .i64 1, .int .i64 s0, .slice D (K + 1) dc]) ?_ rfl ?_
        · simp [results, Try.results20, Try.f20, go_sem, z0, z1, z2]
        · have hc := hcap.out
          rw [hod.out, hdl.out] at hc
          have h4 := HW3.out.2.2.2
          exact ⟨D, dc, by rw [hdl.out], by rw [hdl.out]; exact hc.1, hc.2, HW3.out.2.2.1.more (fun g hg => ⟨by have := hg.1; omega, by have := hg.2; omega⟩), HW3.out.2.1⟩
end Go.Proofs.Ytgmeghandjkkcaa

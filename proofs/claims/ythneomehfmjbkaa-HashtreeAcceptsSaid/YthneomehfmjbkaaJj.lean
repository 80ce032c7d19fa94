/-
  The walk of the law HashtreeFollows.
-/
import Derived.Test.YthneomehfmjbkaaJi
set_option linter.unusedVariables false
set_option linter.unusedSimpArgs false
set_option linter.unusedSectionVars false
set_option linter.unnecessarySimpa false
namespace Go.Proofs.Ythneomehfmjbkaa
open Go.RowKit Go.Shelf
attribute [local go_sem] Oper.semAt_some

set_option maxHeartbeats 8000000 in
set_option maxRecDepth 100000 in
theorem follows_any (A A2 : Option Addr) (c c2 : Nat) (l data : List Sec) (lf vol st : Int) (w : World) (h1 : SlAt encSec w (Bl w.heap.size) A l) (h2 : l.length ≤ c) (h3 : c ≤ maxLen) (hlf : 0 ≤ lf ∧ lf < 256) (k1 : SlAt encSec w (Bl w.heap.size) A2 data) (k2 : data.length ≤ c2) (k3 : c2 ≤ maxLen) (hst : I64 st) :
    Calls Try.prog 6 #[.slice A l.length c, .int .u8 lf, .agg #[.int .i64 vol, .int .i64 st, .slice A2 data.length c2]] w (LawRet w) := by
  have H1 := Lib.hid h1; clear h1
  have H2 := Lib.hid k1; clear k1
  have hl64 := max_len11 h2 h3
  have hd64 := max_len11 k2 k3
  have HC := Lib.hid (And.intro h2 h3)
  obtain ⟨f, rfl⟩ : ∃ f : Nat, lf = f := ⟨lf.toNat, by omega⟩
  obtain ⟨hf1, hf2⟩ := hlf
  obtain ⟨hst1, hst2⟩ := hst
  obtain ⟨w0, hw0⟩ : ∃ w0, w.alloc (.cells #[.int .i64 vol, .int .i64 st, .slice A2 data.length c2] 47) = w0 := ⟨_, rfl⟩
  have hb0 : Below w.heap.size w w0 := by rw [← hw0]; exact ext_alloc (Below.refl _ _)
  have hs0 : w0.heap.size = w.heap.size + 1 := by rw [← hw0]; simp
  have hr0 : w0.heap[w.heap.size]? = some (.cells #[.int .i64 vol, .int .i64 st, .slice A2 data.length c2] 47 (0, 0)) := by rw [← hw0]; exact heap_alloc_new _ _
  obtain ⟨r0, r1, r2, _⟩ := blk3 hr0
  have HRW := Lib.hid (fun W (hb : Below w0.heap.size w0 W) => (hb.block w.heap.size (by omega)).trans hr0)
  clear hr0 h2 h3 k2 k3
  by_cases hl1 : (l.length : Int) < 1
  case pos => go_enter Try.func6, Try.ntmps6
              go_wp2_with fail
              refine (awake_any _).mono ?_
              rintro e wz ⟨rfl, hbz⟩
              go_wp2
              go_ret
              exact ⟨rfl, ext_trans hb0 hbz⟩
  by_cases hl2 : (100 : Int) < l.length
  case pos => go_enter Try.func6, Try.ntmps6
              go_wp2_with fail
              refine (awake_any _).mono ?_
              rintro e wz ⟨rfl, hbz⟩
              go_wp2
              go_ret
              exact ⟨rfl, ext_trans hb0 hbz⟩
  by_cases hs1 : st < 0
  case pos => go_enter Try.func6, Try.ntmps6
              go_wp2_with fail
              refine (awake_any _).mono ?_
              rintro e wz ⟨rfl, hbz⟩
              go_wp2
              go_ret
              exact ⟨rfl, ext_trans hb0 hbz⟩
  by_cases hs2 : (l.length : Int) < st
  case pos => go_enter Try.func6, Try.ntmps6
              go_wp2_with fail
              refine (awake_any _).mono ?_
              rintro e wz ⟨rfl, hbz⟩
              go_wp2
              go_ret
              exact ⟨rfl, ext_trans hb0 hbz⟩
  by_cases hs3 : (l.length : Int) - st < data.length
  case pos => go_enter Try.func6, Try.ntmps6
              go_wp2_with fail
              refine (awake_any _).mono ?_
              rintro e wz ⟨rfl, hbz⟩
              go_wp2
              go_ret
              exact ⟨rfl, ext_trans hb0 hbz⟩
  obtain ⟨sn, rfl⟩ : ∃ sn : Nat, st = sn := ⟨st.toNat, by omega⟩
  obtain ⟨m, hm⟩ : ∃ m : Nat, f % 20 + 1 = m := ⟨_, rfl⟩
  have hm20 : 1 ≤ m ∧ m ≤ 20 := by omega
  have hmi : (f : Int) % 20 + 1 = m := by omega
  have hfit : sn + data.length ≤ l.length := by omega
  have hbd := build_ok (l := l) (m := m) (by omega) (by omega)
  have HB := Lib.hid (build_any A c l.length l (m : Int) w0 rfl HC.out (H1.out.fwd hb0) (by omega) (by unfold I64; omega))
  rw [hbd.1, hbd.2.1] at HB
  obtain ⟨lv, hlv⟩ : ∃ lv, levels (digests l m) = lv := ⟨_, rfl⟩
  obtain ⟨md, hmd⟩ : ∃ md, chg l sn data = md := ⟨_, rfl⟩
  have hml : Hid (md.length = l.length) := by rw [← hmd]; exact chg_len _ _ _
  have hfo := follow_ok (l := l) (st := sn) (m := m) (d := data) (by omega) (by omega) hfit
  have hbm := build_ok (l := md) (m := m) (by have := hml.out; omega) (by omega)
  obtain ⟨lm, hlm⟩ : ∃ lm, levels (digests md m) = lm := ⟨_, rfl⟩
  rw [hmd, hlv, hlm] at hfo
  rw [hlm, hml.out] at hbm
  rw [hlv] at HB hbd
  have hlvl : lv.length ≤ 102 := by
    rw [← hlv]; have := levels_len (digests l m); rw [digests_len] at this; have := leavesN_le (n := l.length) hm20.1; omega
  have hlml : lm.length ≤ 102 := by
    rw [← hlm]; have := levels_len (digests md m); rw [digests_len] at this; have h5 := leavesN_le (n := md.length) hm20.1; rw [hml.out] at h5 this; omega
  have HFO := Lib.hid hfo
  have HBM := Lib.hid hbm
  have HMD := Lib.hid hmd
  clear hbd hm hfo hbm hmd hlv hlm
  go_enter Try.func6, Try.ntmps6
  go_wp2_with fail
  refine HB.out.mono ?_
  rintro e w1 ⟨A1, c1, rfl, t1, t2, t3, hb1⟩
  simp only at t1 t3
  have HC1 : Hid (lv.length ≤ c1 ∧ c1 ≤ maxLen) := ⟨t1, t2⟩
  have HT1 := Lib.hid t3
  clear t1 t2 t3 HB r0 r1 r2 hw0
  go_upto_region 5 with (fail)
  obtain ⟨w2, hw2⟩ : ∃ w2, w1.alloc (.cells #[.int .i64 l.length, .int .i64 m, .slice A1 lv.length c1] 26) = w2 := ⟨_, rfl⟩
  rw [hw2]
  have hb2 : Below w1.heap.size w1 w2 := by rw [← hw2]; exact ext_alloc (Below.refl _ _)
  have hr2 : w2.heap[w1.heap.size]? = some (.cells #[.int .i64 l.length, .int .i64 m, .slice A1 lv.length c1] 26 (0, 0)) := by rw [← hw2]; exact heap_alloc_new _ _
  have hs2' : w2.heap.size = w1.heap.size + 1 := by rw [← hw2]; simp
  clear hw2
  have HT2 := HT1.out.blk (w' := w2) (fun g hg => hb2.block g hg.2)
  have HTW := Lib.hid (fun W (hb : Below w2.heap.size w2 W) => (HT2.more (S' := Bl w2.heap.size) (fun g hg => by have : g < w1.heap.size := hg.2; show g < w2.heap.size; omega)).fwd hb)
  have HRT := Lib.hid (fun W (hb : Below w2.heap.size w2 W) => (hb.block w1.heap.size (by omega)).trans hr2)
  have hb02 : Below w0.heap.size w0 w2 := ext_trans hb1 hb2
  have hbw2 : Below w.heap.size w w2 := ext_trans hb0 hb02
  clear hr2 HT2 HT1
  have HCL := Lib.hid (cloneSecs_own A c l.length l w2 rfl (by omega) (H1.out.fwd hbw2) (by omega))
  go_wp2_with fail
  refine HCL.out.mono ?_
  rintro e w3 ⟨g, c3, rfl, q1, q2, hown, hb3⟩
  have hb03 : Below w0.heap.size w0 w3 := ext_trans hb02 hb3
  have hgl := hown.lt g rfl
  have HOW := Lib.hid hown
  clear hown HCL
  obtain ⟨r0, r1, r2, _⟩ := blk3 (HRW.out w3 hb03)
  have hs02 := hb02.size
  go_wp2_with fail
  go_loopw [11, 12, 64] (fun _ _ kk W => ∃ j : Nat, j ≤ data.length ∧ kk = .int .i64 (j : Nat) ∧ Hid (Own encSec W w2.heap.size 50 (fun _ => False) (.slice (some ⟨g, 0, none⟩) l.length c3) (chg l sn (data.take j))) ∧ Below w2.heap.size w2 W) (fun _ _ kk _ => data.length - (intOf kk).toNat)
  case atStart => exact ⟨0, by omega, rfl, by rw [List.take_zero, chg_nil]; exact HOW.out, hb3⟩
  case round =>
    obtain ⟨W, rfl⟩ : ∃ W : World, W = wr := ⟨_, rfl⟩
    obtain ⟨j, hj, rfl, hown, hBW⟩ := hrel
    have hbW : Below w.heap.size w W := ext_trans hbw2 hBW
    have hb0W : Below w0.heap.size w0 W := ext_trans hb02 hBW
    have hWs := hBW.size
    clear r0 r1 r2
    obtain ⟨r0, r1, r2, _⟩ := blk3 (HRW.out W hb0W)
    by_cases hlt : j < data.length
    · have hji : (j : Int) < data.length := by omega
      have hj0 : (0 : Int) ≤ j := by omega
      obtain ⟨b, off, x0, x1, x2, x3, x4, x5, x6, x7, rfl, hb, hxe, hok, y0, y1, y2, y3, y4, y5, y6, y7⟩ := (H2.out.fwd hbW).sec hlt
      rw [hxe] at hok
      have hlen : (chg l sn (data.take j)).length = l.length := chg_len _ _ _
      have hkk : sn + j < l.length := by omega
      have hidx : (sn : Int) + j < l.length := by omega
      have hwl : w.heap.size < W.heap.size := by omega
      have hgW := (hown.out.lt g rfl).2
      obtain ⟨hc8, hfz⟩ := hown.out.cellSec hlen (k := sn + j) (by rw [hlen]; exact hkk)
      have HST : Hid (∀ W5, Below W.heap.size W W5 → Own encSec ((((((((W5.setCell ⟨g, (sn + j) * 8, none⟩ (.int .u8 x0)).setCell ⟨g, (sn + j) * 8 + 1, none⟩ (.int .u8 x1)).setCell ⟨g, (sn + j) * 8 + 2, none⟩ (.int .u8 x2)).setCell ⟨g, (sn + j) * 8 + 3, none⟩ (.int .u8 x3)).setCell ⟨g, (sn + j) * 8 + 4, none⟩ (.int .u8 x4)).setCell ⟨g, (sn + j) * 8 + 5, none⟩ (.int .u8 x5)).setCell ⟨g, (sn + j) * 8 + 6, none⟩ (.int .u8 x6)).setCell ⟨g, (sn + j) * 8 + 7, none⟩ (.int .u8 x7)) w2.heap.size 50 (fun _ => False) (.slice (some ⟨g, 0, none⟩) l.length c3) (chg l sn (data.take (j + 1)))) := fun W5 hb5 => by
        rw [chg_step hlt, hxe]
        exact (hown.out.blk (w' := W5) (fun b hb => hb5.block b (by
          rcases hb with hb | hb
          · exact hb.elim
          · exact (hown.out.lt b hb).2))).setSec hlen (by rw [hlen]; exact hkk) hok
      go_upto_region 9 with (fail)
      obtain ⟨Wb, hWb⟩ : ∃ Wb, W.alloc (.cells #[.int .u8 x0, .int .u8 x1, .int .u8 x2, .int .u8 x3, .int .u8 x4, .int .u8 x5, .int .u8 x6, .int .u8 x7] 50) = Wb := ⟨_, rfl⟩
      rw [hWb]
      have hbb : Below W.heap.size W Wb := by rw [← hWb]; exact ext_alloc (Below.refl _ _)
      have hrb : Wb.heap[W.heap.size]? = some (.cells #[.int .u8 x0, .int .u8 x1, .int .u8 x2, .int .u8 x3, .int .u8 x4, .int .u8 x5, .int .u8 x6, .int .u8 x7] 50 (0, 0)) := by rw [← hWb]; exact heap_alloc_new _ _
      have hNX := Lib.hid (HST.out Wb hbb)
      clear hWb y0 y1 y2 y3 y4 y5 y6 y7 r0 r1 r2 HST
      obtain ⟨r0, r1, r2, _⟩ := blk3 (HRW.out Wb (ext_trans hb0W hbb))
      obtain ⟨y0, y1, y2, y3, y4, y5, y6, y7, _⟩ := blk8 hrb
      have hfb : ∀ i, Wb.frozen? ⟨g, i, none⟩ = false := fun i => (hown.out.blk (w' := Wb) (fun b hb => hbb.block b (by
          rcases hb with hb | hb
          · exact hb.elim
          · exact (hown.out.lt b hb).2))).cellSec hlen (k := sn + j) (by rw [hlen]; exact hkk) |>.2 i
      have hcb : ∀ i, i < 8 → ∃ u, Wb.cell? ⟨g, (sn + j) * 8 + i, none⟩ = some u := fun i hi => (hown.out.blk (w' := Wb) (fun b hb => hbb.block b (by
          rcases hb with hb | hb
          · exact hb.elim
          · exact (hown.out.lt b hb).2))).cellSec hlen (k := sn + j) (by rw [hlen]; exact hkk) |>.1 i hi
      obtain ⟨u0, d0⟩ := hcb 0 (by omega)
      obtain ⟨u1, d1⟩ := hcb 1 (by omega)
      obtain ⟨u2, d2⟩ := hcb 2 (by omega)
      obtain ⟨u3, d3⟩ := hcb 3 (by omega)
      obtain ⟨u4, d4⟩ := hcb 4 (by omega)
      obtain ⟨u5, d5⟩ := hcb 5 (by omega)
      obtain ⟨u6, d6⟩ := hcb 6 (by omega)
      obtain ⟨u7, d7⟩ := hcb 7 (by omega)
      simp only [Nat.add_zero] at d0
      have hBb : Below w2.heap.size w2 Wb := ext_trans hBW hbb
      have hsj0 : (0 : Int) ≤ (sn : Int) + j := by omega
      clear hrb hcb hc8 hfz hown hlen hbb
      go_upto_region 10 with (fail)
      obtain ⟨W5, hW5⟩ : ∃ W5, (((((((Wb.setCell ⟨g, (sn + j) * 8, none⟩ (.int .u8 x0)).setCell ⟨g, (sn + j) * 8 + 1, none⟩ (.int .u8 x1)).setCell ⟨g, (sn + j) * 8 + 2, none⟩ (.int .u8 x2)).setCell ⟨g, (sn + j) * 8 + 3, none⟩ (.int .u8 x3)).setCell ⟨g, (sn + j) * 8 + 4, none⟩ (.int .u8 x4)).setCell ⟨g, (sn + j) * 8 + 5, none⟩ (.int .u8 x5)).setCell ⟨g, (sn + j) * 8 + 6, none⟩ (.int .u8 x6)).setCell ⟨g, (sn + j) * 8 + 7, none⟩ (.int .u8 x7) = W5 := ⟨_, rfl⟩
      rw [hW5] at hNX ⊢
      have hB5 : Below w2.heap.size w2 W5 := by rw [← hW5]; exact ((((((((hBb.setCell (p := ⟨g, (sn + j) * 8, none⟩) hgl.1 _).setCell (p := ⟨g, (sn + j) * 8 + 1, none⟩) hgl.1 _).setCell (p := ⟨g, (sn + j) * 8 + 2, none⟩) hgl.1 _).setCell (p := ⟨g, (sn + j) * 8 + 3, none⟩) hgl.1 _).setCell (p := ⟨g, (sn + j) * 8 + 4, none⟩) hgl.1 _).setCell (p := ⟨g, (sn + j) * 8 + 5, none⟩) hgl.1 _).setCell (p := ⟨g, (sn + j) * 8 + 6, none⟩) hgl.1 _).setCell (p := ⟨g, (sn + j) * 8 + 7, none⟩) hgl.1 _)
      clear hW5 r0 r1 r2 y0 y1 y2 y3 y4 y5 y6 y7 d0 d1 d2 d3 d4 d5 d6 d7 hfb
      go_wp2_with fail
      go_roundw
      case rel => exact ⟨j + 1, hlt, by go_num, hNX.out, hB5⟩
      case measure => simp [intOf]; omega
    · have hjj : j = data.length := by omega
      have hjno : ¬ (j : Int) < data.length := by omega
      have hown2 : Own encSec W w2.heap.size 50 (fun _ => False) (.slice (some ⟨g, 0, none⟩) l.length c3) md := by
        have := hown.out
        rw [hjj, List.take_length, HMD.out] at this
        exact this
      have hgW := (hown2.lt g rfl).2
      have hsl : SlAt encSec W (fun b => b = g) (some ⟨g, 0, none⟩) md := by
        obtain ⟨A', c'', he, _, _, k3⟩ := hown2.reads (S' := fun b => b = g) (fun _ h => h.elim) (fun g' h => by simpa [Value.ownBlock] using h.symm)
        simp only [List.cons.injEq, Value.slice.injEq, and_true] at he
        obtain ⟨rfl, _, rfl⟩ := he
        exact k3
      have HMW := Lib.hid (fun W2 (hb : Below W.heap.size W W2) => (hsl.blk (w' := W2) (fun b hb' => hb.block b (by rw [hb']; exact hgW))).more (S' := Bl W2.heap.size) (fun b hb' => by have := hb.size; show b < W2.heap.size; rw [hb']; omega))
      have HU := Lib.hid (update_any (l.length : Int) (m : Int) A1 (some ⟨g, 0, none⟩) c1 c3 lv.length l.length lv md (sn : Int) (data.length : Int) W rfl hml.out (HTW.out W hBW) (HMW.out W (Below.refl _ _)) (by omega) HC1.out ⟨q1, q2⟩ ⟨by unfold I64; omega, by unfold I64; omega⟩ ⟨by unfold I64; omega, by unfold I64; omega⟩)
      rw [HFO.out.1, HFO.out.2] at HU
      have HBD := Lib.hid (fun W2 (hb : Below W.heap.size W W2) => build_any (some ⟨g, 0, none⟩) c3 l.length md (m : Int) W2 hml.out ⟨q1, q2⟩ (HMW.out W2 hb) (by omega) (by unfold I64; omega))
      rw [HBM.out.1, HBM.out.2.1] at HBD
      obtain ⟨s0, s1, s2, _⟩ := blk3 (HRT.out W hBW)
      clear hsl hown2 hown
      go_wp2_with fail
      refine HU.out.mono ?_
      rintro e w4 ⟨A4, c4, rfl, t1, t2, t3, hb4⟩
      simp only at t1 t3
      have HC4 : Hid (lm.length ≤ c4 ∧ c4 ≤ maxLen) := ⟨t1, t2⟩
      have HT4 := Lib.hid t3
      clear t1 t2 t3 HU s0 s1 s2 r0 r1 r2
      go_upto_region 12 with (fail)
      obtain ⟨w5, hw5⟩ : ∃ w5, w4.alloc (.cells #[.int .i64 l.length, .int .i64 m, .slice A4 lm.length c4] 26) = w5 := ⟨_, rfl⟩
      rw [hw5]
      have hb5 : Below w4.heap.size w4 w5 := by rw [← hw5]; exact ext_alloc (Below.refl _ _)
      have hr5 : w5.heap[w4.heap.size]? = some (.cells #[.int .i64 l.length, .int .i64 m, .slice A4 lm.length c4] 26 (0, 0)) := by rw [← hw5]; exact heap_alloc_new _ _
      have hs5 : w5.heap.size = w4.heap.size + 1 := by rw [← hw5]; simp
      clear hw5
      go_wp2_with fail
      refine (HBD.out w5 (ext_trans hb4 hb5)).mono ?_
      rintro e w6 ⟨A6, c6, rfl, t1, t2, t3, hb6⟩
      simp only at t1 t3
      have HT6 := Lib.hid t3
      clear t1 t2 t3 HBD
      go_upto_region 13 with (fail)
      obtain ⟨w7, hw7⟩ : ∃ w7, w6.alloc (.cells #[.int .i64 l.length, .int .i64 m, .slice A6 lm.length c6] 26) = w7 := ⟨_, rfl⟩
      rw [hw7]
      have hb7 : Below w6.heap.size w6 w7 := by rw [← hw7]; exact ext_alloc (Below.refl _ _)
      have hr7 : w7.heap[w6.heap.size]? = some (.cells #[.int .i64 l.length, .int .i64 m, .slice A6 lm.length c6] 26 (0, 0)) := by rw [← hw7]; exact heap_alloc_new _ _
      have hs7 : w7.heap.size = w6.heap.size + 1 := by rw [← hw7]; simp
      clear hw7
      have hb47 : Below w4.heap.size w4 w7 := ext_trans (ext_trans hb5 hb6) hb7
      have hs6 := hb6.size
      have hr57 := (hb7.block w4.heap.size (by omega)).trans ((hb6.block w4.heap.size (by omega)).trans hr5)
      have hA4 : SlAt (encSl encU64) w7 (Bl w7.heap.size) A4 lm := (HT4.out.blk (w' := w7) (fun g hg => hb47.block g hg.2)).more (fun g hg => by have : g < w4.heap.size := hg.2; show g < w7.heap.size; omega)
      have HSM := Lib.hid (same_any (l.length : Int) (m : Int) (l.length : Int) (m : Int) A4 A6 c4 c6 lm.length lm.length lm lm true w7 rfl rfl (by simp) hA4 ((HT6.out.blk (w' := w7) (fun g hg => hb7.block g hg.2)).more (fun g hg => by have : g < w6.heap.size := hg.2; show g < w7.heap.size; omega)) (by omega) (by omega))
      have HCK := Lib.hid (fun W2 (hb : Below w7.heap.size w7 W2) => check_any (l.length : Int) (m : Int) A4 c4 lm.length lm 0 W2 rfl HBM.out.2.2 (hA4.fwd hb) (by omega) HC4.out ⟨by unfold I64; omega, by unfold I64; omega⟩)
      have hbw7 : Below w.heap.size w w7 := ext_trans (ext_trans hbW hb4) hb47
      obtain ⟨s0, s1, s2, _⟩ := blk3 hr57
      obtain ⟨z0, z1, z2, _⟩ := blk3 hr7
      have HR5 := Lib.hid hr57
      have h47 : w4.heap.size < w7.heap.size := by omega
      clear hr5 hr7 hr57 hA4
      go_wp2_with fail
      refine HSM.out.mono ?_
      rintro e w8 ⟨rfl, hb8⟩
      clear HSM s0 s1 s2 z0 z1 z2
      obtain ⟨s0, s1, s2, _⟩ := blk3 ((hb8.block _ h47).trans HR5.out)
      go_wp2_with fail
      refine (HCK.out w8 hb8).mono ?_
      rintro e w9 ⟨rfl, hb9⟩
      clear HCK s0 s1 s2
      go_wp2_with fail
      refine (awake_any _).mono ?_
      rintro e wz ⟨rfl, hbz⟩
      go_wp2
      go_ret
      exact ⟨rfl, ext_trans (ext_trans (ext_trans hbw7 hb8) hb9) hbz⟩
end Go.Proofs.Ythneomehfmjbkaa

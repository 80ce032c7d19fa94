/-
  The law of a run without deleting and reverting: the cost is what is counted: the walk.
-/
import Derived.Test.YtgmeghandjkkcaaDf
import Derived.Test.YtgmeghandjkkcaaDu
import Derived.Test.YtgmeghandjkkcaaBm
set_option linter.unusedVariables false
set_option linter.unusedSimpArgs false
set_option linter.unusedSectionVars false
set_option linter.unnecessarySimpa false
namespace Go.Proofs.Ytgmeghandjkkcaa
open Go.RowKit Go.Shelf
attribute [local go_sem] Oper.semAt_some

theorem stp_mk {w : World} {S : Nat → Prop} {x : Stp} (h : OkStp x) : encStp.rd w S [.int .u8 x.1, .int .u8 x.2.1, .int .u8 x.2.2.1, .int .u8 x.2.2.2.1, .int .u8 x.2.2.2.2] x :=
  ⟨[_], [_, _, _, _], rfl, ⟨rfl, h.1⟩, ⟨[_], [_, _, _], rfl, ⟨rfl, h.2.1⟩, ⟨[_], [_, _], rfl, ⟨rfl, h.2.2.1⟩, ⟨[_], [_], rfl, ⟨rfl, h.2.2.2.1⟩, ⟨rfl, h.2.2.2.2⟩⟩⟩⟩⟩
theorem data_bnd (x : Stp) (h : OkStp x) : 0 ≤ (dataW x).1 ∧ (dataW x).1 < 2 ∧ 0 ≤ (dataW x).2.1 ∧ (dataW x).2.1 < 5 ∧ (dataW x).2.2.length ≤ 5 := by
  obtain ⟨k, v, s, c, f⟩ := x
  obtain ⟨_, h1, h2, h3, h4⟩ := h
  simp only [U8] at h1 h2 h3 h4
  unfold dataW stK stN
  simp only [List.length_map, List.length_range]
  by_cases hv : v % 2 = 0
  · rw [if_pos hv]
    have hb : 0 ≤ c % (5 - s % 5) ∧ c % (5 - s % 5) < 5 - s % 5 := ⟨Int.emod_nonneg _ (by omega), Int.emod_lt_of_pos _ (by omega)⟩
    refine ⟨by omega, by omega, by omega, by omega, by omega⟩
  · rw [if_neg hv]
    have hb : 0 ≤ c % (3 - s % 3) ∧ c % (3 - s % 3) < 3 - s % 3 := ⟨Int.emod_nonneg _ (by omega), Int.emod_lt_of_pos _ (by omega)⟩
    refine ⟨by omega, by omega, by omega, by omega, by omega⟩
theorem tyStp : SliceTy Try.prog 37 50 5 5 := sliceTy_mk (z := .agg #[.int .u8 0, .int .u8 0, .int .u8 0, .int .u8 0, .int .u8 0]) Try.underlying37 (by kernel_rfl) rfl (by decide)
def isOnly (x : Stp) : Bool := decide (x.1 % 8 < 6)
set_option maxHeartbeats 4000000 in
set_option maxRecDepth 100000 in
theorem saves36_any (A0 : Option Addr) (c0 n : Nat) (xs : List Stp) (w : World) (hn : xs.length = n) (h1 : SlAt encStp w (Bl w.heap.size) A0 xs) (hs : n ≤ 9223372036854775807) :
    Calls Try.prog 6 #[.slice A0 n c0] w (LawRet w) := by
  subst hn
  have H1 := Lib.hid h1
  clear h1
  have hB0 : Below w.heap.size w w := Below.refl _ _
  have hmm := @run_makeMap Try.prog
  go_enter Try.func6, Try.ntmps6
  by_cases hle : xs.length ≤ 25
  case neg =>
    have hgt : (25 : Int) < xs.length := by omega
    go_upto_region 2 with (fail)
    go_wp2_with fail
    refine (awake36_any _).mono ?_
    rintro e wz ⟨rfl, hbz⟩
    go_wp2
    go_ret
    exact ⟨rfl, ext_trans hB0 (ext_trans hB0 hbz)⟩
  have hng : ¬ (25 : Int) < xs.length := by omega
  go_wp2_with fail
  go_loopw [3, 4] (fun o i wr => ∃ (k m : Nat) (A : Option Addr) (c : Nat) (out : List Stp), k ≤ xs.length ∧ m ≤ k ∧ i = .int .i64 k ∧ o = .slice A m c ∧ Below w.heap.size w wr ∧ Hid (out.length = m) ∧ Hid (out = (xs.take k).filter isOnly) ∧ Hid (OwnX (fun _ => False) encStp wr w.heap.size 50 (.slice A m c) out)) (fun _ i _ => xs.length - (intOf i).toNat)
  case atStart => exact ⟨0, 0, none, 0, [], by omega, by omega, rfl, rfl, hB0, rfl, by simp [Hid], OwnX.nil_⟩
  case round =>
    obtain ⟨wo, rfl⟩ : ∃ wo : World, wo = wr := ⟨_, rfl⟩
    obtain ⟨k, m, A, c, out, hk, hmk, rfl, rfl, hB, hlen, hout, hown⟩ := hrel
    by_cases hlt : k < xs.length
    · have hki : (k : Int) < xs.length := by omega
      have hkn : (0 : Int) ≤ k := by omega
      obtain ⟨b, off, rfl, hbb, g0, g1, g2, g3, g4, hox⟩ := (H1.out.fwd hB).stp hlt
      have htk : Hid (xs.take (k + 1) = xs.take k ++ [xs[k]]) := List.take_succ_eq_append_getElem hlt
      obtain ⟨x, hx⟩ : ∃ x, xs[k] = x := ⟨_, rfl⟩
      rw [hx] at g0 g1 g2 g3 g4 hox htk
      obtain ⟨ka, vb, sc, cc, ff⟩ := x
      have HOX := Lib.hid hox
      obtain ⟨⟨ka0, ka1⟩, _⟩ := hox
      simp only at g0 g1 g2 g3 g4 ka0 ka1
      obtain ⟨r8, hr8⟩ : ∃ r8, ka % 8 = r8 := ⟨_, rfl⟩
      have hr8t : ka.tmod 8 = r8 := by rw [Int.tmod_eq_emod_of_nonneg ka0]; exact hr8
      have HR8 := Lib.hid hr8
      have hr80 : 0 ≤ r8 := by omega
      have hr88 : r8 < 8 := by omega
      clear hr8 hx hbb
      have hzo := hB.size
      by_cases hk6 : r8 < 6
      · have hf : Hid ((xs.take (k + 1)).filter isOnly = (xs.take k).filter isOnly ++ [(ka, vb, sc, cc, ff)]) := by
          rw [Hid, htk.out, List.filter_append]
          congr 1
          have : isOnly (ka, vb, sc, cc, ff) = true := by unfold isOnly; simp only [decide_eq_true_eq]; rw [HR8.out]; exact hk6
          simp [this]
        have hO4 := Lib.hid (hown.out.alloc (.cells #[.int .u8 ka, .int .u8 vb, .int .u8 sc, .int .u8 cc, .int .u8 ff] 50))
        have hO4o := Lib.hid hO4.out.1
        have hlo := Lib.hid hown.out.lt
        have HRD : Hid (encStp.rd (wo.alloc (.cells #[.int .u8 ka, .int .u8 vb, .int .u8 sc, .int .u8 cc, .int .u8 ff] 50)) (fun g => Nw w.heap.size (wo.alloc (.cells #[.int .u8 ka, .int .u8 vb, .int .u8 sc, .int .u8 cc, .int .u8 ff] 50)).heap.size g ∧ ¬ False ∧ (Value.slice A m c).ownBlock ≠ some g) [.int .u8 ka, .int .u8 vb, .int .u8 sc, .int .u8 cc, .int .u8 ff] (ka, vb, sc, cc, ff)) := stp_mk HOX.out
        go_wp2_with (at_builtin; refine Hid.out ?_)
        change wpList _ _ _ _ _ _
        refine wpList_app1 (E := encStp) tyStp rfl _ _ rfl rfl hO4o.out (ka, vb, sc, cc, ff) [.int .u8 ka, .int .u8 vb, .int .u8 sc, .int .u8 cc, .int .u8 ff] rfl HRD.out (heap_alloc_new _ _) (fun _ h => h.1.2) (by simp; omega) (by unfold maxLen; rw [hlen.out]; omega) (by rw [hlen.out]; omega) ?_
        intro A5 c5 w5 hown5 hg5 hat5
        rw [hlen.out] at hown5 hat5
        rw [hlen.out]
        have hO5 : Hid (OwnX (fun _ => False) encStp w5 w.heap.size 50 (.slice A5 (m + 1) c5) (out ++ [(ka, vb, sc, cc, ff)])) := hO4.out.app hown5 hg5 hat5 (fun g hg => hg.elim)
        have hB6 : Below w.heap.size w w5 := (hB.alloc (by omega) _).grown hg5 (by simp; omega) (fun g h => (hlo.out g h).1)
        have HB6 := Lib.hid hB6
        clear hown5 hg5 hat5 hO4 hO4o HRD hB6 g0 g1 g2 g3 g4
        go_wp2
        go_roundw
        case rel => exact ⟨k + 1, m + 1, A5, c5, out ++ [(ka, vb, sc, cc, ff)], by omega, by omega, by go_num, rfl, HB6.out, by rw [Hid, List.length_append, hlen.out]; rfl, by rw [Hid, hf.out, hout.out], hO5.out⟩
        case measure => simp [intOf]; omega
      · have hf : Hid ((xs.take (k + 1)).filter isOnly = (xs.take k).filter isOnly) := by
          rw [Hid, htk.out, List.filter_append]
          have : isOnly (ka, vb, sc, cc, ff) = false := by unfold isOnly; simp only [decide_eq_false_iff_not]; rw [HR8.out]; exact hk6
          simp [this]
        go_wp2
        go_roundw
        case rel => exact ⟨k + 1, m, A, c, out, by omega, by omega, by go_num, rfl, hB, hlen.out, by rw [Hid, hf.out, hout.out], hown.out⟩
        case measure => simp [intOf]; omega
    · have hkk : k = xs.length := by omega
      subst hkk
      have hall6 : ∀ x ∈ out, x.1 % 8 < 6 := fun x hx => by
        rw [hout.out] at hx
        simpa [isOnly] using (List.mem_filter.1 hx).2
      have HALL6 := Lib.hid hall6
      have hmo : m = out.length := hlen.out.symm
      subst hmo
      obtain ⟨_, hcc1, hcc2, hsl⟩ := hown.out.parts
      have H0 := H1
      have H1 := Lib.hid (hsl.more (S' := Bl wo.heap.size) (fun g hg => hg.1.2))
      have hle : out.length ≤ 25 := by omega
      have hBw := Lib.hid hB
      have hngx : ¬ (xs.length : Int) < xs.length := by omega
      clear hall6 hsl hown hlen hB hout
      have hok : ∀ x ∈ out, OkStp x := fun x hx => by
        obtain ⟨k, hk, rfl⟩ := List.mem_iff_getElem.1 hx
        obtain ⟨_, _, _, _, _, _, _, _, _, h⟩ := H1.out.stp hk
        exact h
      obtain ⟨im, l, all, ht⟩ : ∃ im l all, Hid (runT out out.length = (im, l, all)) := ⟨_, _, _, Lib.hid rfl⟩
      obtain ⟨m, hm⟩ : ∃ m, all.length = m := ⟨_, rfl⟩
      have hinv := runT_inv hok out.length (Nat.le_refl _) (by omega)
      have hcap := runT_cap (xs := out) out.length
      rw [ht.out] at hinv hcap
      have hlm : l.length = m := by rw [← hm]; exact hinv.len2
      have hm25 : m ≤ 25 := by rw [← hm]; exact Nat.le_trans hinv.len hle
      have hims := (hinv.lim (by omega) hcap).ims
      have HRUN : Hid (Calls Try.prog 16 #[.slice A out.length c] wo fun e w' => ∃ B vc D dc A ac Bi vi, e = .returned (.tuple #[.agg #[.slice B im.length vc, .slice D m dc], .slice A m ac, .slice Bi im.length vi, .bool true]) ∧ (im.length ≤ vc ∧ vc ≤ maxLen ∧ m ≤ dc ∧ dc ≤ maxLen ∧ m ≤ ac ∧ ac ≤ maxLen ∧ im.length ≤ vi ∧ vi ≤ maxLen) ∧ SlAt (encSl encSec) w' (Nw wo.heap.size w'.heap.size) B im ∧ SlAt encSnp w' (Nw wo.heap.size w'.heap.size) D l ∧ SlAt encK w' (Nw wo.heap.size w'.heap.size) A all ∧ SlAt (encSl encSec) w' (Nw wo.heap.size w'.heap.size) Bi im ∧ Below wo.heap.size wo w') := by
        have h := run36_any A c out.length out wo rfl H1.out hle im l all ht.out
        rw [hlm, hm] at h
        exact h
      have HINV := Lib.hid hinv
      have HLM := Lib.hid (hinv.lim (by omega) hcap)
      have HL := Lib.hid (And.intro hlm hm)
      have HOK := Lib.hid hok
      clear hinv hcap hlm hm hok
      go_wp2_with fail
      refine HRUN.out.mono ?_
      rintro e w1 ⟨B, vc, D, dc, A, ac, Bi, vi, rfl, ⟨hc1, hc2, hc3, hc4, hc5, hc6, hc7, hc8⟩, k1, k2, k3, k4, hb1⟩
      have K1 := Lib.hid (k1.more (S' := Bl w1.heap.size) (fun g hg => hg.2))
      have K2 := Lib.hid (k2.more (S' := Bl w1.heap.size) (fun g hg => hg.2))
      have K3 := Lib.hid (k3.more (S' := Bl w1.heap.size) (fun g hg => hg.2))
      have K4 := Lib.hid (k4.more (S' := Bl w1.heap.size) (fun g hg => hg.2))
      clear k1 k2 k3 k4 HRUN
      go_upto_region 10 with (fail)
      obtain ⟨xb, hxb⟩ : ∃ xb, w1.heap.size = xb := ⟨_, rfl⟩
      obtain ⟨w2, hw2⟩ : ∃ w2, w1.alloc (.cells #[.slice B im.length vc, .slice D m dc] 26) = w2 := ⟨_, rfl⟩
      rw [hw2, hxb]
      have hb12 : Below w1.heap.size w1 w2 := by rw [← hw2]; exact ext_alloc (Below.refl _ _)
      have hr2 : w2.heap[xb]? = some (.cells #[.slice B im.length vc, .slice D m dc] 26 (0, 0)) := by rw [← hw2, ← hxb]; exact heap_alloc_new _ _
      have hb2 : Below wo.heap.size wo w2 := ext_trans hb1 hb12
      have HC : Hid (∀ W, Below w2.heap.size w2 W → W.cell? ⟨xb, 0, none⟩ = some (.slice B im.length vc) ∧ W.cell? ⟨xb, 1, none⟩ = some (.slice D m dc)) := fun W hb => by
        obtain ⟨a, b, _⟩ := blk2 ((hb.block xb (Array.getElem?_eq_some_iff.1 hr2).1).trans hr2)
        exact ⟨a, b⟩
      have HB12 := Lib.hid hb12
      clear hw2 hr2 hb12 hb1 hxb
      go_wp2_with fail
      go_loopw [9, 10, 11, 12] (fun t mp tk i wr => ∃ (k b : Nat) (seen : List Pl) (total : Nat) (q : Bool), k ≤ out.length ∧ t = .int .i64 total ∧ mp = .map (some b) ∧ tk = .bool q ∧ i = .int .i64 k ∧ total ≤ 5 * k ∧ w2.heap.size ≤ b ∧ Below w2.heap.size w2 wr ∧ Hid (BMap wr b seen) ∧ Hid (SvI (runT out k).2.1 seen total) ∧ Hid (q = decide ((runT out k).2.1 ≠ []))) (fun _ _ _ i _ => out.length - (intOf i).toNat)
      case atStart => exact ⟨0, w2.heap.size, [], 0, false, by omega, rfl, rfl, rfl, rfl, by omega, Nat.le_refl _, ext_alloc (Below.refl _ _), BMap.empty w2, SvI.nil, rfl⟩
      case round =>
        obtain ⟨wq, rfl⟩ : ∃ wq : World, wq = wr := ⟨_, rfl⟩
        obtain ⟨k, b, seen, total, q, hk, rfl, rfl, rfl, rfl, htot, hbw, hB, hbm, hsv, hqq⟩ := hrel
        by_cases hlt : k < out.length
        · have hki : (k : Int) < out.length := by omega
          have hkn : (0 : Int) ≤ k := by omega
          have hk6a := HALL6.out _ (List.getElem_mem hlt)
          obtain ⟨bs, off, rfl, hbb, g0, g1, g2, g3, g4, hox⟩ := (H1.out.fwd (ext_trans hb2 hB)).stp hlt
          have hinv := runT_inv HOK.out k (by omega) (by omega)
          have hst2 : Hid (runT out (k + 1) = runS k out[k] (runT out k)) := by
            have e : out.getD k (0, 0, 0, 0, 0) = out[k] := by rw [List.getD_eq_getElem?_getD, List.getElem?_eq_getElem hlt]; rfl
            show runS k (out.getD k (0, 0, 0, 0, 0)) (runT out k) = _
            rw [e]
          obtain ⟨im9, l9, all9, hT⟩ : ∃ im9 l9 all9, Hid (runT out k = (im9, l9, all9)) := ⟨_, _, _, Lib.hid rfl⟩
          obtain ⟨x, hx⟩ : ∃ x, out[k] = x := ⟨_, rfl⟩
          rw [hx] at g0 g1 g2 g3 g4 hox hst2 hk6a
          rw [hT.out] at hinv hsv hqq hst2
          obtain ⟨ka, vb, sc, cc, ff⟩ := x
          have HINV9 := Lib.hid hinv
          have HOX := Lib.hid hox
          obtain ⟨⟨ka0, ka1⟩, _⟩ := hox
          simp only at g0 g1 g2 g3 g4 ka0 ka1 hk6a
          have HK6 := Lib.hid hk6a
          obtain ⟨r8, hr8⟩ : ∃ r8, ka % 8 = r8 := ⟨_, rfl⟩
          have hr8t : ka.tmod 8 = r8 := by rw [Int.tmod_eq_emod_of_nonneg ka0]; exact hr8
          have HR8 := Lib.hid hr8
          have hr80 : 0 ≤ r8 := by omega
          have hr88 : r8 < 8 := by omega
          have hzq := hB.size
          have hbl : b < wq.heap.size := hbm.out.lt
          clear hr8 hx hinv hk6a
          by_cases hk4 : r8 < 4
          case neg =>
            have hk4' : 4 ≤ r8 := by omega
            have hnx : Hid ((runT out (k + 1)).2.1 = l9 ++ [((10 + k : Int), (k : Int), [])]) := by
              rw [Hid, hst2.out, runS_take (show ¬ ka % 8 < 4 by rw [HR8.out]; exact hk4) (show ka % 8 < 6 from HK6.out)]
            clear hbb
            go_wp2
            go_roundw
            case rel => exact ⟨k + 1, wq.heap.size, [], total, true, by omega, rfl, rfl, rfl, by go_num, by omega, by omega, hB.alloc (by omega) _, BMap.empty wq, by rw [Hid, hnx.out]; exact hsv.out.take _ _, by rw [Hid, hnx.out]; simp⟩
            case measure => simp [intOf]; omega
          case pos =>
            have hk4' : ¬ 4 ≤ r8 := by omega
            obtain ⟨⟨v0, s0, dd⟩, hdw⟩ : ∃ z, Hid (dataW (ka, vb, sc, cc, ff) = z) := ⟨_, Lib.hid rfl⟩
            have hbnd := data_bnd _ HOX.out
            have hfit := Lib.hid (data_fits _ HOX.out)
            rw [hdw.out] at hbnd hfit
            obtain ⟨d1, d2, d3, d4, d5⟩ := hbnd
            simp only at d1 d2 d3 d4 d5
            have hnx : Hid ((runT out (k + 1)).2.1 = setLast l9 (fun d => foldL (contL im9 [(v0, s0, dd)] ++ d))) := by
              rw [Hid, hst2.out, runS_apply (show ka % 8 < 4 by rw [HR8.out]; exact hk4), hdw.out]
            have HDA := Lib.hid (data_any ka vb sc cc ff HOX.out v0 s0 dd hdw.out wq)
            go_wp2_with fail
            refine HDA.out.mono ?_
            rintro e w5 ⟨D5, c5, rfl, y1, y2, y3, hb5⟩
            obtain ⟨wb, hwb⟩ : ∃ wb, w5.heap.size = wb := ⟨_, rfl⟩
            have hz5 := hb5.size
            go_upto_region 21 with (fail)
            obtain ⟨w6, hw6⟩ : ∃ w6, w5.alloc (.cells #[.int .i64 v0, .int .i64 s0, .slice D5 dd.length c5] 54) = w6 := ⟨_, rfl⟩
            rw [hw6]
            try rw [hwb]
            have hr6 : w6.heap[wb]? = some (.cells #[.int .i64 v0, .int .i64 s0, .slice D5 dd.length c5] 54 (0, 0)) := by rw [← hw6, ← hwb]; exact heap_alloc_new _ _
            have hb56 : Below w5.heap.size w5 w6 := by rw [← hw6]; exact ext_alloc (Below.refl _ _)
            have hB6 : Below w2.heap.size w2 w6 := ext_trans hB (ext_trans hb5 hb56)
            have HR6 := Lib.hid hr6
            have hwl : wb < w6.heap.size := (Array.getElem?_eq_some_iff.1 hr6).1
            have HM6 : Hid (BMap w6 b seen) := hbm.out.kept ((hb56.block b (by omega)).trans (hb5.block b hbl))
            have hbwb : b < wb := by omega
            have hwbw : w2.heap.size ≤ wb := by omega
            clear hw6 hr6 hb56 hb5 y1 y2 y3 HDA g0 g1 g2 g3 g4 hbb
            go_wp2_with fail
            go_loopw [9, 14] (fun t j wr => ∃ (j0 : Nat) (sn : List Pl) (t' : Nat), j0 ≤ dd.length ∧ j = .int .i64 j0 ∧ t = .int .i64 t' ∧ t' ≤ total + j0 ∧ Below w2.heap.size w2 wr ∧ wb < wr.heap.size ∧ Hid (wr.heap[wb]? = some (.cells #[.int .i64 v0, .int .i64 s0, .slice D5 dd.length c5] 54 (0, 0))) ∧ Hid (BMap wr b sn) ∧ Hid (q = true → sn = seeTo seen (v0, s0, dd) j0 ∧ t' + seen.length = total + sn.length) ∧ Hid (q = false → sn = seen ∧ t' = total)) (fun _ j _ => dd.length - (intOf j).toNat)
            case atStart => exact ⟨0, seen, total, by omega, rfl, rfl, by omega, hB6, hwl, HR6.out, HM6.out, fun _ => ⟨rfl, rfl⟩, fun _ => ⟨rfl, rfl⟩⟩
            case round =>
              obtain ⟨wo9, rfl⟩ : ∃ wo9 : World, wo9 = wr := ⟨_, rfl⟩
              obtain ⟨j0, sn, t', hj, rfl, rfl, ht', hB9, hwl9, hrow, hbm9, hqt, hqf⟩ := hrel
              obtain ⟨t0, t1, t2, tf⟩ := blk3 hrow.out
              have hz9 := hB9.size
              by_cases hj2 : j0 < dd.length
              · have hji : (j0 : Int) < dd.length := by omega
                have hjn : (0 : Int) ≤ j0 := by omega
                have hrw : Hid ((wo9.alloc (.cells #[.int .i64 v0, .int .i64 (s0 + (j0 : Int))] 56)).heap[wb]? = some (.cells #[.int .i64 v0, .int .i64 s0, .slice D5 dd.length c5] 54 (0, 0))) := (Below.heap_alloc _ _ _ hwl9).trans hrow.out
                have hbA : Hid (BMap (wo9.alloc (.cells #[.int .i64 v0, .int .i64 (s0 + (j0 : Int))] 56)) b sn) := hbm9.out.kept (Below.heap_alloc _ _ _ hbm9.out.lt)
                have hBA : Hid (Below w2.heap.size w2 (wo9.alloc (.cells #[.int .i64 v0, .int .i64 (s0 + (j0 : Int))] 56))) := hB9.alloc (by omega) _
                have hwlA : wb < (wo9.alloc (.cells #[.int .i64 v0, .int .i64 (s0 + (j0 : Int))] 56)).heap.size := by simp; omega
                cases q with
                | false =>
                  obtain ⟨e1, e2⟩ := hqf.out rfl
                  go_wp2
                  go_roundw
                  case rel => exact ⟨j0 + 1, sn, t', by omega, by go_num, rfl, by omega, hBA.out, hwlA, hrw.out, hbA.out, fun h => (by cases h), fun _ => hqf.out rfl⟩
                  case measure => simp [intOf]; omega
                | true =>
                  have HQT := Lib.hid (hqt.out rfl)
                  by_cases hm9 : (v0, s0 + (j0 : Int)) ∈ sn
                  · have hlk := hbA.out.lookup (v0, s0 + (j0 : Int)) (q := true) (decide_eq_true hm9)
                    have hlk' : (Instr.lookup 51 (.map (some b)) (.agg #[.int .i64 v0, .int .i64 (s0 + (j0 : Int))]) false).run Try.prog (wo9.alloc (.cells #[.int .i64 v0, .int .i64 (s0 + (j0 : Int))] 56)) = .ok (.bool true) (wo9.alloc (.cells #[.int .i64 v0, .int .i64 (s0 + (j0 : Int))] 56)) := hlk
                    have hsn : Hid (sn = seeTo seen (v0, s0, dd) (j0 + 1)) := by
                      show sn = seeS (seeTo seen (v0, s0, dd) j0) (v0, s0 + (j0 : Int))
                      rw [← HQT.out.1]
                      unfold seeS
                      rw [if_pos hm9]
                    have HM9 := Lib.hid hm9
                    clear hlk hm9
                    go_wp2
                    go_roundw
                    case rel => exact ⟨j0 + 1, sn, t', by omega, by go_num, rfl, by omega, hBA.out, hwlA, hrw.out, hbA.out, fun _ => ⟨hsn.out, HQT.out.2⟩, fun h => (by cases h)⟩
                    case measure => simp [intOf]; omega
                  · have hlk := hbA.out.lookup (v0, s0 + (j0 : Int)) (q := false) (decide_eq_false hm9)
                    have hlk' : (Instr.lookup 51 (.map (some b)) (.agg #[.int .i64 v0, .int .i64 (s0 + (j0 : Int))]) false).run Try.prog (wo9.alloc (.cells #[.int .i64 v0, .int .i64 (s0 + (j0 : Int))] 56)) = .ok (.bool false) (wo9.alloc (.cells #[.int .i64 v0, .int .i64 (s0 + (j0 : Int))] 56)) := hlk
                    have hsn : Hid (sn ++ [(v0, s0 + (j0 : Int))] = seeTo seen (v0, s0, dd) (j0 + 1)) := by
                      show _ = seeS (seeTo seen (v0, s0, dd) j0) (v0, s0 + (j0 : Int))
                      rw [← HQT.out.1]
                      unfold seeS
                      rw [if_neg hm9]
                    have HM9 := Lib.hid hm9
                    clear hlk hm9
                    go_wp2_with (at_mapUpdate; refine Hid.out ?_)
                    change wpList _ _ _ _ _ _
                    refine wpList_mapUpdate_b _ rfl _ _ _ rfl b _ (v0, s0 + (j0 : Int)) rfl rfl rfl hbA.out HM9.out ?_
                    intro w7 hM7 hg7 hs7
                    have HM7 := Lib.hid hM7
                    have hrw7 : Hid (w7.heap[wb]? = some (.cells #[.int .i64 v0, .int .i64 s0, .slice D5 dd.length c5] 54 (0, 0))) := (hg7.block wb hwlA (fun e => by injection e with e; omega)).trans hrw.out
                    have hB7 : Hid (Below w2.heap.size w2 w7) := hBA.out.grown hg7 (by simp; omega) (fun g h => by injection h with h; omega)
                    have hwl7 : Hid (wb < w7.heap.size) := by rw [Hid, hs7]; exact hwlA
                    clear hM7 hg7 hs7 hlk'
                    go_wp2
                    go_roundw
                    case rel => exact ⟨j0 + 1, sn ++ [(v0, s0 + (j0 : Int))], t' + 1, by omega, by go_num, by go_num, by omega, hB7.out, hwl7.out, hrw7.out, HM7.out, fun _ => ⟨hsn.out, by have := HQT.out.2; simp; omega⟩, fun h => (by cases h)⟩
                    case measure => simp [intOf]; omega
              · have hjj : j0 = dd.length := by omega
                subst hjj
                have hng9 : ¬ (dd.length : Int) < dd.length := by omega
                have hsv2 : Hid (SvI (runT out (k + 1)).2.1 sn t' ∧ q = decide ((runT out (k + 1)).2.1 ≠ [])) := by
                  rw [Hid, hnx.out]
                  cases q with
                  | false =>
                    have hl : l9 = [] := by
                      have := hqq.out
                      simpa using this
                    obtain ⟨e1, e2⟩ := hqf.out rfl
                    rw [hl, setLast_nil, e1, e2]
                    exact ⟨by rw [← hl]; exact hsv.out, by simp⟩
                  | true =>
                    have hl : l9 ≠ [] := by
                      have := hqq.out
                      simpa using this
                    obtain ⟨e1, e2⟩ := hqt.out rfl
                    refine ⟨by rw [e1]; exact hsv.out.apply HINV9.out hfit.out hl (by rw [← e1]; exact e2), ?_⟩
                    rw [eq_comm, decide_eq_true_eq]
                    rcases List.eq_nil_or_concat l9 with h | ⟨r, y, h⟩
                    · exact absurd h hl
                    · rw [h, List.concat_eq_append, setLast_snoc]; simp
                go_wp2
                go_roundw
                case rel => exact ⟨k + 1, b, sn, t', q, by omega, rfl, rfl, rfl, by go_num, by omega, hbw, hB9, hbm9.out, hsv2.out.1, hsv2.out.2⟩
                case measure => simp [intOf]; omega
        · have hkk : k = out.length := by omega
          subst hkk
          have hngz : ¬ (out.length : Int) < out.length := by omega
          rw [ht.out] at hsv
          have hcst : Hid (sCost (im, l) = total) := by
            have h := hsv.out.tot
            unfold sCost
            rw [Hid, if_neg (by rw [HINV.out.ok]; simp)]
            exact h.symm
          go_wp2_with fail
          refine (awake36_any wq).mono ?_
          rintro e w8 ⟨rfl, hb8⟩
          have hB8 : Below w2.heap.size w2 w8 := ext_trans hB hb8
          have KC := snCost_any B D vc dc im.length m im l w8 rfl HL.out.1 ((K1.out.fwd HB12.out).fwd hB8) ((K2.out.fwd HB12.out).fwd hB8) HLM.out
          rw [hcst.out] at KC
          have HKC := Lib.hid KC
          obtain ⟨p0, p1⟩ := HC.out w8 hB8
          clear KC
          go_wp2_with fail
          refine HKC.out.mono ?_
          rintro e w9 ⟨rfl, hb9⟩
          clear p0 p1 HKC
          go_wp2_with fail
          go_ret
          exact ⟨rfl, ext_trans hBw.out (ext_trans hb2 (ext_trans hB8 hb9))⟩
end Go.Proofs.Ytgmeghandjkkcaa

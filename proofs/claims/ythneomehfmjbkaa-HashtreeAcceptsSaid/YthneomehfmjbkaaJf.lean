/-
  The reference's Verify: the walk.
-/
import Derived.Test.YthneomehfmjbkaaJe
set_option linter.unusedVariables false
set_option linter.unusedSimpArgs false
set_option linter.unusedSectionVars false
set_option linter.unnecessarySimpa false
namespace Go.Proofs.Ythneomehfmjbkaa
open Go.RowKit Go.Shelf
attribute [local go_sem] Oper.semAt_some

set_option maxHeartbeats 4000000 in
theorem refVerify_any (root s lf ix : Int) (A A2 : Option Addr) (c c2 n n2 : Nat) (data : List Sec) (p : List Int) (r : Bool) (w : World) (hn : data.length = n) (hn2 : p.length = n2) (hr : verT root s lf ix data p = r) (h1 : SlAt encSec w (Bl w.heap.size) A data) (h2 : SlAt encU64 w (Bl w.heap.size) A2 p) (hs : n ≤ 100) (hs2 : n2 ≤ 100000) (hc2 : n2 ≤ c2 ∧ c2 ≤ maxLen) (hI : I64 s ∧ I64 lf ∧ I64 ix) :
    Calls Try.prog 33 #[.int .u64 root, .int .i64 s, .int .i64 lf, .int .i64 ix, .slice A n c, .slice A2 n2 c2] w fun e w' => e = .returned (.bool r) ∧ Below w.heap.size w w' := by
  subst hn hn2
  have HR := Lib.hid hr; clear hr
  have H1 := Lib.hid h1; clear h1
  have H2 := Lib.hid h2; clear h2
  obtain ⟨⟨hs1, hs2'⟩, ⟨hf1, hf2⟩, hx1, hx2⟩ := hI
  have HL := Lib.hid (limN_cases s lf)
  have hNO : Hid (verE s lf ix data = false → r = false) := fun h => by rw [← HR.out, verT, h]; rfl
  go_enter Try.func33, Try.ntmps33
  by_cases hl0 : limN s lf = 0
  case neg =>
    have hrf := Lib.hid (hNO.out (by unfold verE; simp [hl0]))
    have hl00 := Lib.hid hl0
    clear hl0 hNO
    rcases HL.out with ⟨g1, g2⟩ | ⟨g1, g2, g3, g4⟩ | ⟨g1, g2⟩
    · by_cases g3 : s < 1
      · go_wp2_with fail
        go_ret
        rw [hrf.out]
        exact ⟨rfl, Below.refl _ _⟩
      · go_wp2_with fail
        go_ret
        rw [hrf.out]
        exact ⟨rfl, Below.refl _ _⟩
    · by_cases g5 : lf < 1
      · go_wp2_with fail
        go_ret
        rw [hrf.out]
        exact ⟨rfl, Below.refl _ _⟩
      · go_wp2_with fail
        go_ret
        rw [hrf.out]
        exact ⟨rfl, Below.refl _ _⟩
    · exact absurd g1 hl00.out
  obtain ⟨a1, a2, a3, a4⟩ : 1 ≤ s ∧ s ≤ 4096 ∧ 1 ≤ lf ∧ lf ≤ 4096 := by
    rcases HL.out with ⟨g1, _⟩ | ⟨g1, _⟩ | ⟨_, g2⟩
    · rw [g1] at hl0; cases hl0
    · rw [g1] at hl0; cases hl0
    · exact g2
  have HL0 := Lib.hid hl0
  clear hl0 HL
  obtain ⟨sn, rfl⟩ : ∃ sn : Nat, s = sn := ⟨s.toNat, by omega⟩
  obtain ⟨m, rfl⟩ : ∃ m : Nat, lf = m := ⟨lf.toNat, by omega⟩
  have HLV := Lib.hid (refLeaves_any sn m w ⟨by omega, by omega⟩ ⟨by omega, by omega⟩)
  obtain ⟨N, hN⟩ : ∃ N, leavesN sn m = N := ⟨_, rfl⟩
  have HNL : Hid (N ≤ sn) := by rw [← hN]; exact leavesN_le (by omega)
  have HLF : Hid (∀ i, i < N → i * m < sn) := fun i h => leaf_lt (by omega) (by rw [hN]; exact h)
  rw [hN] at HLV
  have HNN := Lib.hid hN
  clear hN
  go_wp2_with fail
  refine HLV.out.mono ?_
  rintro e w ⟨rfl, rfl⟩
  clear HLV
  by_cases hi0 : ix < 0
  case pos =>
    have hrf := Lib.hid (hNO.out (by unfold verE; have : ¬ 0 ≤ ix := by omega
                                     simp [this]))
    go_wp2_with fail
    go_ret
    rw [hrf.out]
    exact ⟨rfl, Below.refl _ _⟩
  obtain ⟨i0, rfl⟩ : ∃ i0 : Nat, ix = i0 := ⟨ix.toNat, by omega⟩
  have hNl : N ≤ 4096 := by have := HNL.out; omega
  by_cases hiN : i0 < N
  case neg =>
    have hiN' : ¬ (i0 : Int) < N := by omega
    have hrf := Lib.hid (hNO.out (by unfold verE; simp [HNN.out]; intro _; omega))
    go_wp2_with fail
    go_ret
    rw [hrf.out]
    exact ⟨rfl, Below.refl _ _⟩
  have hiN' : (i0 : Int) < N := by omega
  have him := HLF.out i0 hiN
  obtain ⟨q, hq⟩ : ∃ q, i0 * m = q := ⟨_, rfl⟩
  have hq2 : (i0 : Int) * (m : Int) = q := by rw [← hq]; simp
  rw [hq] at him
  clear hq
  obtain ⟨hc21, hc22⟩ := hc2
  have hc22' : c2 ≤ 9223372036854775807 := by unfold maxLen at hc22; omega
  have hqi : (q : Int) < sn := by omega
  have hEQ : Hid (verE (sn : Int) (m : Int) (i0 : Int) data = decide ((data.length : Int) = min (m : Int) ((sn : Int) - q))) := by
    unfold verE
    have e1 : decide (limN (sn : Int) (m : Int) = 0) = true := by simp [HL0.out]
    have e2 : decide ((0 : Int) ≤ i0) = true := by simp
    have e3 : decide ((i0 : Int) < leavesN ((sn : Int)).toNat ((m : Int)).toNat) = true := by simp [HNN.out]; omega
    rw [Hid, e1, e2, e3, ← hq2]; simp
  by_cases hlen : (data.length : Int) = min (m : Int) ((sn : Int) - q)
  case neg =>
    have hrf := Lib.hid (hNO.out (by rw [hEQ.out]; simp; omega))
    by_cases hmin : (m : Int) ≤ (sn : Int) - q
    · have hl' : ((data.length : Int) != (m : Int)) = true := by simp; omega
      clear hlen
      go_wp2_with fail
      go_ret
      rw [hrf.out]
      exact ⟨rfl, Below.refl _ _⟩
    · have hl' : ((data.length : Int) != (sn : Int) - q) = true := by simp; omega
      clear hlen
      go_wp2_with fail
      go_ret
      rw [hrf.out]
      exact ⟨rfl, Below.refl _ _⟩
  obtain ⟨d0, hd0⟩ : ∃ d0, Hid (digS data = d0) := ⟨_, rfl⟩
  have hd0u : Hid (U64 d0) := by rw [← hd0.out]; exact dig_range _
  have hRR : Hid (r = verEnd root (verL N i0 d0 p)) := by
    rw [Hid, ← HR.out, verT, hEQ.out, decide_eq_true hlen, ← hd0.out]
    simp [HNN.out]
  have HDG := Lib.hid (refSectors_dig A c data.length data d0 w rfl hd0.out H1.out (by omega))
  have hmin : (m : Int) ≤ (sn : Int) - q ∨ ¬ (m : Int) ≤ (sn : Int) - q := by omega
  have hl1 : (m : Int) ≤ (sn : Int) - q → ((data.length : Int) != (m : Int)) = false := fun h => by simp; omega
  have hl2 : ¬ (m : Int) ≤ (sn : Int) - q → ((data.length : Int) != (sn : Int) - q) = false := fun h => by simp; omega
  clear hlen hNO hEQ HLF HR
  rcases hmin with hmin | hmin
  · have hl' := hl1 hmin
    clear hl1 hl2
    go_wp2_with fail
    refine HDG.out.mono ?_
    rintro e w1 ⟨rfl, hb1⟩
    have hpl : Hid (SlAt encU64 w1 (Bl w.heap.size) A2 p) := H2.out.below hb1
    clear HDG
    go_wp2_with fail
    have z1 : decide ((i0 : Int) < 0) = false := by simp
    have z2 : decide (N ≤ i0) = false := by simp; omega
    try simp only [z1, z2, Bool.or_false, Bool.false_or]
    clear z1 z2
    have hcl : p.length ≤ c2 := hc21
    go_loopw [3, 5, 13, 14] (fun ui up un ud wr => ∃ (i n : Nat) (d : Int) (A3 : Option Addr) (c3 : Nat) (ps : List Int), n ≤ 4096 ∧ i < n ∧ ui = .int .i64 (i : Nat) ∧ un = .int .i64 (n : Nat) ∧ ud = .int .u64 d ∧ up = .slice A3 ps.length c3 ∧ ps.length ≤ c3 ∧ c3 ≤ 9223372036854775807 ∧ Hid (U64 d) ∧ Hid (SlAt encU64 wr (Bl w.heap.size) A3 ps) ∧ Hid (verL N i0 d0 p = verL n i d ps) ∧ Below w.heap.size w wr) (fun _ _ un _ _ => (intOf un).toNat)
    case atStart => exact ⟨i0, N, d0, A2, c2, p, hNl, hiN, rfl, rfl, rfl, rfl, hcl, hc22', hd0u, hpl, rfl, hb1⟩
    case round =>
      obtain ⟨wo, rfl⟩ : ∃ wo : World, wo = wr := ⟨_, rfl⟩
      obtain ⟨i, n, d, A3, c3, ps, hn4, hin, rfl, rfl, rfl, rfl, hpc, hc3, hdu, hps, hv, hbw⟩ := hrel
      have hni : (n : Int) ≤ 4096 := by omega
      have hii : (i : Int) < n := by omega
      by_cases hn1 : n ≤ 1
      · have hn1' : ¬ (1 : Int) < n := by omega
        have hv1 : Hid (r = (d == root && ps.isEmpty)) := by rw [Hid, hRR.out, hv.out, verL_one hn1]; rfl
        clear hn1
        by_cases hp0 : ps.length = 0
        · have hp0' : ((ps.length : Int) == 0) = true := by simp [hp0]
          have hpe : ps.isEmpty = true := by rw [List.eq_nil_of_length_eq_zero hp0]; rfl
          by_cases hdr : d = root
          · have hdr' : (d == root) = true := by simp [hdr]
            have hrr : Hid (r = true) := by rw [Hid, hv1.out, hdr', hpe]; rfl
            clear hp0 hdr hpe
            go_wp2_with fail
            go_ret
            rw [hrr.out]
            exact ⟨rfl, hbw⟩
          · have hdr' : (d == root) = false := by simp [hdr]
            have hrr : Hid (r = false) := by rw [Hid, hv1.out, hdr']; rfl
            clear hp0 hdr hpe
            go_wp2_with fail
            go_ret
            rw [hrr.out]
            exact ⟨rfl, hbw⟩
        · have hp0' : ((ps.length : Int) == 0) = false := by simp; intro h; exact hp0 (by rw [h]; rfl)
          have hrr : Hid (r = false) := by
            have : ps.isEmpty = false := by cases ps with
              | nil => simp at hp0
              | cons x t => rfl
            rw [Hid, hv1.out, this]; simp
          clear hp0
          go_wp2_with fail
          go_ret
          rw [hrr.out]
          exact ⟨rfl, hbw⟩
      · have hn1' : (1 : Int) < n := by omega
        have hol := oth_le i
        have HOT := Lib.hid (fun b hb => refOther_any i n wo b hin (by omega) hb)
        have hV1 := Lib.hid (fun ho => verL_no (i := i) (d := d) (p := ps) hn1 ho)
        have hV2 := Lib.hid (fun ho => verL_nil (i := i) (d := d) hn1 ho)
        have hV3 := Lib.hid (fun x t ho => verL_cons (i := i) (d := d) (x := x) (r := t) hn1 ho)
        obtain ⟨o, ho⟩ : ∃ o, oth i = o := ⟨_, rfl⟩
        rw [ho] at hol hV1 hV2 hV3 HOT
        clear ho hn1
        go_wp2_with fail
        by_cases hoN : o < n
        · refine (HOT.out true (by simp [hoN])).mono ?_
          rintro e wo ⟨rfl, rfl⟩
          clear HOT
          have hoN' : (o : Int) < n := by omega
          cases ps with
          | nil =>
            have hrr : Hid (r = false) := by rw [Hid, hRR.out, hv.out, hV2.out hoN]; rfl
            go_wp2_with fail
            go_ret
            rw [hrr.out]
            exact ⟨rfl, hbw⟩
          | cons x t =>
            obtain ⟨b3, off3, rfl, hb3, k0, hxu, hps3⟩ := SlAt.cons_ hps.out
            have HX := Lib.hid hxu
            have HPS := Lib.hid hps3
            have htl : (x :: t).length = t.length + 1 := rfl
            rw [htl] at hpc ⊢
            clear hxu hps3 htl hps
            have htn : ((t.length + 1 : Nat) : Int) = (t.length : Int) + 1 := by omega
            have htz : (((t.length : Int) + 1) == 0) = false := by simp; omega
            have hst := Lib.hid (hV3.out x t hoN)
            by_cases hi2 : i % 2 = 0
            · have hi2' : ((i : Int) % 2 == 1) = false := by simp; omega
              rw [if_pos hi2] at hst
              clear hi2
              go_wp2_with fail
              refine (refPair_any d x wo hdu.out HX.out).mono ?_
              rintro e w5 ⟨rfl, hb5⟩
              have hps5 : Hid (SlAt encU64 w5 (Bl w.heap.size) (some ⟨b3, off3 + 1, none⟩) t) := HPS.out.below (hb5.mono hbw.size)
              have hbw5 := ext_trans hbw hb5
              have hpsI : Hid (SlAt encU64 w5 (Bl w.heap.size) (if c3 = 1 then some ⟨b3, off3, none⟩ else some ⟨b3, off3 + 1, none⟩) t) := by
                by_cases hc31 : c3 = 1
                · have ht0 : t = [] := List.eq_nil_of_length_eq_zero (by omega)
                  rw [ht0]; exact SlAt.nil_
                · rw [if_neg hc31]; exact hps5.out
              have h1t : (1 : Int) ≤ (t.length : Int) + 1 := by omega
              have h1c : (t.length : Int) + 1 ≤ c3 := by omega
              obtain ⟨dn, hdn⟩ : ∃ dn, pairD d x = dn := ⟨_, rfl⟩
              have hdn5 : Hid (U64 dn) := by rw [← hdn]; exact pairD_u64 _ _
              rw [hdn] at hst ⊢
              clear hdn k0
              go_wp2_with fail
              go_roundw
              case rel => exact ⟨i / 2, (n + 1) / 2, dn, if c3 = 1 then some ⟨b3, off3, none⟩ else some ⟨b3, off3 + 1, none⟩, c3 - 1, t, by omega, by omega, by go_num, by go_num, rfl, by by_cases hc31 : c3 = 1 <;> simp [hc31], by omega, by omega, hdn5.out, hpsI.out, by rw [Hid, hv.out, hst.out], hbw5⟩
              case measure => simp [intOf]; omega
            · have hi2' : ((i : Int) % 2 == 1) = true := by simp; omega
              rw [if_neg hi2] at hst
              clear hi2
              go_wp2_with fail
              refine (refPair_any x d wo HX.out hdu.out).mono ?_
              rintro e w5 ⟨rfl, hb5⟩
              have hps5 : Hid (SlAt encU64 w5 (Bl w.heap.size) (some ⟨b3, off3 + 1, none⟩) t) := HPS.out.below (hb5.mono hbw.size)
              have hbw5 := ext_trans hbw hb5
              have hpsI : Hid (SlAt encU64 w5 (Bl w.heap.size) (if c3 = 1 then some ⟨b3, off3, none⟩ else some ⟨b3, off3 + 1, none⟩) t) := by
                by_cases hc31 : c3 = 1
                · have ht0 : t = [] := List.eq_nil_of_length_eq_zero (by omega)
                  rw [ht0]; exact SlAt.nil_
                · rw [if_neg hc31]; exact hps5.out
              have h1t : (1 : Int) ≤ (t.length : Int) + 1 := by omega
              have h1c : (t.length : Int) + 1 ≤ c3 := by omega
              obtain ⟨dn, hdn⟩ : ∃ dn, pairD x d = dn := ⟨_, rfl⟩
              have hdn5 : Hid (U64 dn) := by rw [← hdn]; exact pairD_u64 _ _
              rw [hdn] at hst ⊢
              clear hdn k0
              go_wp2_with fail
              go_roundw
              case rel => exact ⟨i / 2, (n + 1) / 2, dn, if c3 = 1 then some ⟨b3, off3, none⟩ else some ⟨b3, off3 + 1, none⟩, c3 - 1, t, by omega, by omega, by go_num, by go_num, rfl, by by_cases hc31 : c3 = 1 <;> simp [hc31], by omega, by omega, hdn5.out, hpsI.out, by rw [Hid, hv.out, hst.out], hbw5⟩
              case measure => simp [intOf]; omega
        · refine (HOT.out false (by simp; omega)).mono ?_
          rintro e wo ⟨rfl, rfl⟩
          clear HOT
          have hoN' : ¬ (o : Int) < n := by omega
          have hst := Lib.hid (hV1.out hoN)
          go_wp2_with fail
          go_roundw
          case rel => exact ⟨i / 2, (n + 1) / 2, d, A3, c3, ps, by omega, by omega, by go_num, by go_num, rfl, rfl, hpc, hc3, hdu.out, hps.out, by rw [Hid, hv.out, hst.out], hbw⟩
          case measure => simp [intOf]; omega
  · have hl' := hl2 hmin
    clear hl1 hl2
    go_wp2_with fail
    refine HDG.out.mono ?_
    rintro e w1 ⟨rfl, hb1⟩
    have hpl : Hid (SlAt encU64 w1 (Bl w.heap.size) A2 p) := H2.out.below hb1
    clear HDG
    go_wp2_with fail
    have z1 : decide ((i0 : Int) < 0) = false := by simp
    have z2 : decide (N ≤ i0) = false := by simp; omega
    try simp only [z1, z2, Bool.or_false, Bool.false_or]
    clear z1 z2
    have hcl : p.length ≤ c2 := hc21
    go_loopw [3, 5, 13, 14] (fun ui up un ud wr => ∃ (i n : Nat) (d : Int) (A3 : Option Addr) (c3 : Nat) (ps : List Int), n ≤ 4096 ∧ i < n ∧ ui = .int .i64 (i : Nat) ∧ un = .int .i64 (n : Nat) ∧ ud = .int .u64 d ∧ up = .slice A3 ps.length c3 ∧ ps.length ≤ c3 ∧ c3 ≤ 9223372036854775807 ∧ Hid (U64 d) ∧ Hid (SlAt encU64 wr (Bl w.heap.size) A3 ps) ∧ Hid (verL N i0 d0 p = verL n i d ps) ∧ Below w.heap.size w wr) (fun _ _ un _ _ => (intOf un).toNat)
    case atStart => exact ⟨i0, N, d0, A2, c2, p, hNl, hiN, rfl, rfl, rfl, rfl, hcl, hc22', hd0u, hpl, rfl, hb1⟩
    case round =>
      obtain ⟨wo, rfl⟩ : ∃ wo : World, wo = wr := ⟨_, rfl⟩
      obtain ⟨i, n, d, A3, c3, ps, hn4, hin, rfl, rfl, rfl, rfl, hpc, hc3, hdu, hps, hv, hbw⟩ := hrel
      have hni : (n : Int) ≤ 4096 := by omega
      have hii : (i : Int) < n := by omega
      by_cases hn1 : n ≤ 1
      · have hn1' : ¬ (1 : Int) < n := by omega
        have hv1 : Hid (r = (d == root && ps.isEmpty)) := by rw [Hid, hRR.out, hv.out, verL_one hn1]; rfl
        clear hn1
        by_cases hp0 : ps.length = 0
        · have hp0' : ((ps.length : Int) == 0) = true := by simp [hp0]
          have hpe : ps.isEmpty = true := by rw [List.eq_nil_of_length_eq_zero hp0]; rfl
          by_cases hdr : d = root
          · have hdr' : (d == root) = true := by simp [hdr]
            have hrr : Hid (r = true) := by rw [Hid, hv1.out, hdr', hpe]; rfl
            clear hp0 hdr hpe
            go_wp2_with fail
            go_ret
            rw [hrr.out]
            exact ⟨rfl, hbw⟩
          · have hdr' : (d == root) = false := by simp [hdr]
            have hrr : Hid (r = false) := by rw [Hid, hv1.out, hdr']; rfl
            clear hp0 hdr hpe
            go_wp2_with fail
            go_ret
            rw [hrr.out]
            exact ⟨rfl, hbw⟩
        · have hp0' : ((ps.length : Int) == 0) = false := by simp; intro h; exact hp0 (by rw [h]; rfl)
          have hrr : Hid (r = false) := by
            have : ps.isEmpty = false := by cases ps with
              | nil => simp at hp0
              | cons x t => rfl
            rw [Hid, hv1.out, this]; simp
          clear hp0
          go_wp2_with fail
          go_ret
          rw [hrr.out]
          exact ⟨rfl, hbw⟩
      · have hn1' : (1 : Int) < n := by omega
        have hol := oth_le i
        have HOT := Lib.hid (fun b hb => refOther_any i n wo b hin (by omega) hb)
        have hV1 := Lib.hid (fun ho => verL_no (i := i) (d := d) (p := ps) hn1 ho)
        have hV2 := Lib.hid (fun ho => verL_nil (i := i) (d := d) hn1 ho)
        have hV3 := Lib.hid (fun x t ho => verL_cons (i := i) (d := d) (x := x) (r := t) hn1 ho)
        obtain ⟨o, ho⟩ : ∃ o, oth i = o := ⟨_, rfl⟩
        rw [ho] at hol hV1 hV2 hV3 HOT
        clear ho hn1
        go_wp2_with fail
        by_cases hoN : o < n
        · refine (HOT.out true (by simp [hoN])).mono ?_
          rintro e wo ⟨rfl, rfl⟩
          clear HOT
          have hoN' : (o : Int) < n := by omega
          cases ps with
          | nil =>
            have hrr : Hid (r = false) := by rw [Hid, hRR.out, hv.out, hV2.out hoN]; rfl
            go_wp2_with fail
            go_ret
            rw [hrr.out]
            exact ⟨rfl, hbw⟩
          | cons x t =>
            obtain ⟨b3, off3, rfl, hb3, k0, hxu, hps3⟩ := SlAt.cons_ hps.out
            have HX := Lib.hid hxu
            have HPS := Lib.hid hps3
            have htl : (x :: t).length = t.length + 1 := rfl
            rw [htl] at hpc ⊢
            clear hxu hps3 htl hps
            have htn : ((t.length + 1 : Nat) : Int) = (t.length : Int) + 1 := by omega
            have htz : (((t.length : Int) + 1) == 0) = false := by simp; omega
            have hst := Lib.hid (hV3.out x t hoN)
            by_cases hi2 : i % 2 = 0
            · have hi2' : ((i : Int) % 2 == 1) = false := by simp; omega
              rw [if_pos hi2] at hst
              clear hi2
              go_wp2_with fail
              refine (refPair_any d x wo hdu.out HX.out).mono ?_
              rintro e w5 ⟨rfl, hb5⟩
              have hps5 : Hid (SlAt encU64 w5 (Bl w.heap.size) (some ⟨b3, off3 + 1, none⟩) t) := HPS.out.below (hb5.mono hbw.size)
              have hbw5 := ext_trans hbw hb5
              have hpsI : Hid (SlAt encU64 w5 (Bl w.heap.size) (if c3 = 1 then some ⟨b3, off3, none⟩ else some ⟨b3, off3 + 1, none⟩) t) := by
                by_cases hc31 : c3 = 1
                · have ht0 : t = [] := List.eq_nil_of_length_eq_zero (by omega)
                  rw [ht0]; exact SlAt.nil_
                · rw [if_neg hc31]; exact hps5.out
              have h1t : (1 : Int) ≤ (t.length : Int) + 1 := by omega
              have h1c : (t.length : Int) + 1 ≤ c3 := by omega
              obtain ⟨dn, hdn⟩ : ∃ dn, pairD d x = dn := ⟨_, rfl⟩
              have hdn5 : Hid (U64 dn) := by rw [← hdn]; exact pairD_u64 _ _
              rw [hdn] at hst ⊢
              clear hdn k0
              go_wp2_with fail
              go_roundw
              case rel => exact ⟨i / 2, (n + 1) / 2, dn, if c3 = 1 then some ⟨b3, off3, none⟩ else some ⟨b3, off3 + 1, none⟩, c3 - 1, t, by omega, by omega, by go_num, by go_num, rfl, by by_cases hc31 : c3 = 1 <;> simp [hc31], by omega, by omega, hdn5.out, hpsI.out, by rw [Hid, hv.out, hst.out], hbw5⟩
              case measure => simp [intOf]; omega
            · have hi2' : ((i : Int) % 2 == 1) = true := by simp; omega
              rw [if_neg hi2] at hst
              clear hi2
              go_wp2_with fail
              refine (refPair_any x d wo HX.out hdu.out).mono ?_
              rintro e w5 ⟨rfl, hb5⟩
              have hps5 : Hid (SlAt encU64 w5 (Bl w.heap.size) (some ⟨b3, off3 + 1, none⟩) t) := HPS.out.below (hb5.mono hbw.size)
              have hbw5 := ext_trans hbw hb5
              have hpsI : Hid (SlAt encU64 w5 (Bl w.heap.size) (if c3 = 1 then some ⟨b3, off3, none⟩ else some ⟨b3, off3 + 1, none⟩) t) := by
                by_cases hc31 : c3 = 1
                · have ht0 : t = [] := List.eq_nil_of_length_eq_zero (by omega)
                  rw [ht0]; exact SlAt.nil_
                · rw [if_neg hc31]; exact hps5.out
              have h1t : (1 : Int) ≤ (t.length : Int) + 1 := by omega
              have h1c : (t.length : Int) + 1 ≤ c3 := by omega
              obtain ⟨dn, hdn⟩ : ∃ dn, pairD x d = dn := ⟨_, rfl⟩
              have hdn5 : Hid (U64 dn) := by rw [← hdn]; exact pairD_u64 _ _
              rw [hdn] at hst ⊢
              clear hdn k0
              go_wp2_with fail
              go_roundw
              case rel => exact ⟨i / 2, (n + 1) / 2, dn, if c3 = 1 then some ⟨b3, off3, none⟩ else some ⟨b3, off3 + 1, none⟩, c3 - 1, t, by omega, by omega, by go_num, by go_num, rfl, by by_cases hc31 : c3 = 1 <;> simp [hc31], by omega, by omega, hdn5.out, hpsI.out, by rw [Hid, hv.out, hst.out], hbw5⟩
              case measure => simp [intOf]; omega
        · refine (HOT.out false (by simp; omega)).mono ?_
          rintro e wo ⟨rfl, rfl⟩
          clear HOT
          have hoN' : ¬ (o : Int) < n := by omega
          have hst := Lib.hid (hV1.out hoN)
          go_wp2_with fail
          go_roundw
          case rel => exact ⟨i / 2, (n + 1) / 2, d, A3, c3, ps, by omega, by omega, by go_num, by go_num, rfl, rfl, hpc, hc3, hdu.out, hps.out, by rw [Hid, hv.out, hst.out], hbw⟩
          case measure => simp [intOf]; omega
end Go.Proofs.Ythneomehfmjbkaa

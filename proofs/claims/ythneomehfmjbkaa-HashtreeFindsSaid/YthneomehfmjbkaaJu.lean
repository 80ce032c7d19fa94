/-
  The walk of collide.
-/
import Derived.Test.YthneomehfmjbkaaJo
import Derived.Test.YthneomehfmjbkaaEs
import Derived.Test.YthneomehfmjbkaaHr
set_option linter.unusedVariables false
set_option linter.unusedSimpArgs false
set_option linter.unusedSectionVars false
set_option linter.unnecessarySimpa false
namespace Go.Proofs.Ythneomehfmjbkaa
open Go.RowKit Go.Shelf
attribute [local go_sem] Oper.semAt_some

theorem span_slice (l : List Sec) (W i : Nat) : (l.drop (min l.length (i * W))).take (min l.length (i * W + W) - min l.length (i * W)) = span l W i := by
  unfold span
  by_cases h : i * W ≤ l.length
  · rw [Nat.min_eq_right h]
    by_cases h2 : i * W + W ≤ l.length
    · rw [Nat.min_eq_right h2]; congr 1; omega
    · rw [Nat.min_eq_left (by omega), List.take_of_length_le (by simp), List.take_of_length_le (by simp; omega)]
  · rw [Nat.min_eq_left (by omega), Nat.min_eq_left (by omega), List.drop_eq_nil_of_le (Nat.le_refl _), List.drop_eq_nil_of_le (by omega)]; simp
/-- a part of a list of sectors, as a slice reads it -/
theorem sub_slice {W : World} {S : Nat → Prop} {b off c x y : Nat} {l : List Sec} {P : Option Addr} (h : SlAt encSec W S (some ⟨b, off, none⟩) l) (hc : l.length ≤ c) (hP : (if c = x then some ⟨b, off, none⟩ else some ⟨b, off + x * 8, none⟩ : Option Addr) = P) : SlAt encSec W S P ((l.drop x).take (y - x)) := by
  by_cases hx : c = x
  · rw [List.drop_eq_nil_of_le (by omega), List.take_nil]; exact SlAt.nil_
  · rw [if_neg hx] at hP
    subst hP
    exact (h.drop (k := x)).take
set_option maxHeartbeats 4000000 in
set_option maxRecDepth 100000 in
theorem collide_any (m n ca cb cl cm : Nat) (Aa Ab : Option Addr) (bl offl bm offm : Nat) (l l' : List Sec) (w : World) (hn : l.length = n) (hn' : l'.length = n) (hl : 1 ≤ n ∧ n ≤ 100) (hm : 1 ≤ m ∧ m ≤ 20) (tk : TOk n m (levels (digests l m)))
    (ha : SlAt (encSl encU64) w (Bl w.heap.size) Aa (levels (digests l m))) (hb : SlAt (encSl encU64) w (Bl w.heap.size) Ab (levels (digests l' m))) (h1 : SlAt encSec w (Bl w.heap.size) (some ⟨bl, offl, none⟩) l) (h2 : SlAt encSec w (Bl w.heap.size) (some ⟨bm, offm, none⟩) l')
    (hcl : n ≤ cl ∧ cl ≤ maxLen) (hcm : n ≤ cm ∧ cm ≤ maxLen) (na nb : Nat) (hna : (levels (digests l m)).length = na) (hnb : (levels (digests l' m)).length = nb) :
    Calls Try.prog 24 #[.agg #[.int .i64 n, .int .i64 m, .slice Aa na ca], .agg #[.int .i64 n, .int .i64 m, .slice Ab nb cb], .slice (some ⟨bl, offl, none⟩) n cl, .slice (some ⟨bm, offm, none⟩) n cm] w fun e w' => ∃ q, e = .returned (.bool q) ∧ (q = false → NoCol l l' m) ∧ Below w.heap.size w w' := by
  have hlen := fun k (hk : k < (levels (digests l m)).length) => lev_same k (digests l m) (digests l' m) (by rw [digests_len, digests_len, hn, hn']) hk
  have hNC : NoCol l l' m = (∀ k i, k < (levels (digests l m)).length → i < ((levels (digests l m)).getD k []).length → df (levels (digests l m)) (levels (digests l' m)) k i = false → span l (m * 2 ^ k) i = span l' (m * 2 ^ k) i) := rfl
  obtain ⟨lv, hlv⟩ : ∃ lv, levels (digests l m) = lv := ⟨_, rfl⟩
  obtain ⟨lv', hlv'⟩ : ∃ lv, levels (digests l' m) = lv := ⟨_, rfl⟩
  simp only [hlv, hlv'] at ha hb tk hna hnb hlen hNC
  subst hna hnb
  rw [hNC]
  have hat := tk.at_
  have h0 := tk.ne
  have hll := tk.len
  clear hlv hlv' hNC tk
  have HN := Lib.hid hn
  have HN' := Lib.hid hn'
  clear hn hn'
  have HA : Hid (∀ w', Below w.heap.size w w' → SlAt (encSl encU64) w' (Bl w.heap.size) Aa lv) := fun w' hx => ha.below hx
  have HB : Hid (∀ w', Below w.heap.size w w' → SlAt (encSl encU64) w' (Bl w.heap.size) Ab lv') := fun w' hx => hb.below hx
  have H1 : Hid (∀ w', Below w.heap.size w w' → SlAt encSec w' (Bl w.heap.size) (some ⟨bl, offl, none⟩) l) := fun w' hx => h1.below hx
  have H2 : Hid (∀ w', Below w.heap.size w w' → SlAt encSec w' (Bl w.heap.size) (some ⟨bm, offm, none⟩) l') := fun w' hx => h2.below hx
  have HCL := Lib.hid hcl
  have HCM := Lib.hid hcm
  have HLEN := Lib.hid hlen
  have HAT := Lib.hid hat
  clear ha hb h1 h2 hcl hcm hlen hat
  obtain ⟨W0, hW0⟩ : ∃ W0, (w.alloc (.cells #[.int .i64 n, .int .i64 m, .slice Aa lv.length ca] 26)).alloc (.cells #[.int .i64 n, .int .i64 m, .slice Ab lv'.length cb] 26) = W0 := ⟨_, rfl⟩
  have hB0 : Below w.heap.size w W0 := by rw [← hW0]; exact ext_alloc (ext_alloc (Below.refl _ _))
  have HS0 : Hid (W0.heap.size = w.heap.size + 2) := by rw [← hW0]; simp [Hid]
  have hr0 : W0.heap[w.heap.size]? = some (.cells #[.int .i64 n, .int .i64 m, .slice Aa lv.length ca] 26 (0, 0)) := by rw [← hW0]; exact (Below.heap_alloc _ _ _ (by simp)).trans (heap_alloc_new _ _)
  have hr1 : W0.heap[w.heap.size + 1]? = some (.cells #[.int .i64 n, .int .i64 m, .slice Ab lv'.length cb] 26 (0, 0)) := by rw [← hW0]; exact heap_new2 _ _ _
  have HCC : Hid (∀ W, Below W0.heap.size W0 W → W.cell? ⟨w.heap.size, 1, none⟩ = some (.int .i64 m) ∧ W.cell? ⟨w.heap.size, 2, none⟩ = some (.slice Aa lv.length ca) ∧ W.cell? ⟨w.heap.size + 1, 2, none⟩ = some (.slice Ab lv'.length cb)) := fun W hb => by
    have hs0 := HS0.out
    obtain ⟨a0, a1, a2, _⟩ := blk3 ((hb.block _ (by omega)).trans hr0)
    obtain ⟨b0, b1, b2, _⟩ := blk3 ((hb.block _ (by omega)).trans hr1)
    exact ⟨a1, a2, b2⟩
  clear hr0 hr1
  obtain ⟨r1, r2, e2⟩ := HCC.out W0 (Below.refl _ _)
  go_enter Try.func24, Try.ntmps24
  go_wp2_with fail
  go_loopw [9, 19] (fun ww kk wr => ∃ k W : Nat, k ≤ lv.length ∧ kk = .int .i64 (k : Nat) ∧ ww = .int .i64 (W : Nat) ∧ W = m * 2 ^ k ∧ Below W0.heap.size W0 wr ∧ Hid (∀ k' i, k' < k → i < (lv.getD k' []).length → df lv lv' k' i = false → span l (m * 2 ^ k') i = span l' (m * 2 ^ k') i)) (fun _ kk _ => lv.length - (intOf kk).toNat)
  case atStart => exact ⟨0, m, by omega, rfl, rfl, by simp, Below.refl _ _, fun k' i hk => by omega⟩
  case round =>
    obtain ⟨wo, rfl⟩ : ∃ wo : World, wo = wr := ⟨_, rfl⟩
    obtain ⟨k, W, hk, rfl, rfl, hW, hBw, hinv⟩ := hrel
    obtain ⟨r1, r2, e2⟩ := HCC.out wo hBw
    have hBo : Below w.heap.size w wo := hB0.trans (hBw.mono hB0.size)
    have hWm : W ≤ 163840 := by
      rw [hW]
      have : 2 ^ k ≤ 2 ^ 13 := Nat.pow_le_pow_right (by omega) (by omega)
      calc m * 2 ^ k ≤ 20 * 2 ^ 13 := Nat.mul_le_mul hm.2 this
        _ = 163840 := by decide
    have hW2 : Hid (2 * W = m * 2 ^ (k + 1)) := by rw [Hid, hW, Nat.pow_succ, Nat.mul_comm (2 ^ k) 2]; exact Nat.mul_left_comm 2 m _
    have HW := Lib.hid hW
    clear hW
    by_cases hlt : k < lv.length
    · obtain ⟨hsame, hlt'⟩ := HLEN.out k hlt
      obtain ⟨b, off, D, dc, rfl, hbb, g0, hD, hd1, hd2⟩ := (HA.out wo hBo).sl hlt
      obtain ⟨b', off', D', dc', rfl, hbb', g0', hD', hd1', hd2'⟩ := (HB.out wo hBo).sl hlt'
      have e1 : lv.getD k [] = lv[k] := by rw [List.getD_eq_getElem?_getD, List.getElem?_eq_getElem hlt]; rfl
      have e1' : lv'.getD k [] = lv'[k] := by rw [List.getD_eq_getElem?_getD, List.getElem?_eq_getElem hlt']; rfl
      rw [e1, e1'] at hsame
      have hn4 : (lv[k]'hlt).length ≤ 4096 := by rw [(HAT.out k hlt).1]; exact (HAT.out k hlt).2.2.2
      obtain ⟨x, hx⟩ : ∃ x, Hid (x = lv[k]'hlt) := ⟨_, Lib.hid rfl⟩
      obtain ⟨x', hx'⟩ : ∃ x, Hid (x = lv'[k]'hlt') := ⟨_, Lib.hid rfl⟩
      rw [← hx.out] at g0 hD hd1 hn4 hsame e1
      rw [← hx'.out] at g0' hD' hd1' hsame e1'
      rw [← hsame] at g0'
      have E1 := Lib.hid e1
      have E1' := Lib.hid e1'
      have HSM := Lib.hid hsame
      have hki : (k : Int) < lv.length := by omega
      have hki' : (k : Int) < lv'.length := by omega
      have hk0 : (0 : Int) ≤ k := by omega
      have HDD : Hid (∀ W, Below w.heap.size w W → SlAt encU64 W (Bl w.heap.size) D x ∧ SlAt encU64 W (Bl w.heap.size) D' x' ∧ W.cell? ⟨b, off + k, none⟩ = some (.slice D x.length dc) ∧ W.cell? ⟨b', off' + k, none⟩ = some (.slice D' x.length dc')) := fun W hb =>
        ⟨hD.blk (fun g hg => (hb.block g hg).trans (hBo.block g hg).symm), hD'.blk (fun g hg => (hb.block g hg).trans (hBo.block g hg).symm),
          (World.cell?_of_block (a := ⟨b, off + k, none⟩) ((hb.block b hbb).trans (hBo.block b hbb).symm)).trans g0, (World.cell?_of_block (a := ⟨b', off' + k, none⟩) ((hb.block b' hbb').trans (hBo.block b' hbb').symm)).trans g0'⟩
      clear e1 e1' hx hx' hD hD' hd1 hd1' hd2 hd2' hsame hlt'
      go_wp2_with fail
      clear r1 r2 e2 g0 g0'
      go_loopw [28] (fun ii wr => ∃ i : Nat, i ≤ x.length ∧ ii = .int .i64 (i : Nat) ∧ Below W0.heap.size W0 wr ∧ Hid (∀ i', i' < i → df lv lv' k i' = false → span l W i' = span l' W i')) (fun ii _ => x.length - (intOf ii).toNat)
      case atStart => exact ⟨0, by omega, rfl, hBw, fun i' hi => by omega⟩
      case round =>
        obtain ⟨wi, rfl⟩ : ∃ wo : World, wo = wr := ⟨_, rfl⟩
        obtain ⟨i, hi, rfl, hBi, hiv⟩ := hrel
        obtain ⟨r1, r2, e2⟩ := HCC.out wi hBi
        have hBwi : Below w.heap.size w wi := hB0.trans (hBi.mono hB0.size)
        obtain ⟨hD, hD', g0, g0'⟩ := HDD.out wi hBwi
        by_cases hix : i < x.length
        · have hix' : i < x'.length := by rw [← HSM.out]; exact hix
          obtain ⟨bD, offD, rfl, hbD, q0, qu⟩ := hD.u64 hix
          obtain ⟨bD', offD', rfl, hbD', q0', qu'⟩ := hD'.u64 hix'
          have hdf : Hid (df lv lv' k i = (x[i] != x'[i])) := by
            rw [Hid, df, E1.out, E1'.out, List.getD_eq_getElem?_getD, List.getD_eq_getElem?_getD, List.getElem?_eq_getElem hix, List.getElem?_eq_getElem hix']; rfl
          obtain ⟨x1, hx1⟩ : ∃ d, x[i] = d := ⟨_, rfl⟩
          obtain ⟨x2, hx2⟩ : ∃ d, x'[i] = d := ⟨_, rfl⟩
          rw [hx1] at q0
          rw [hx2] at q0'
          simp only [hx1, hx2] at hdf
          clear hx1 hx2 qu qu' hix'
          obtain ⟨qw, hqw⟩ : ∃ q, i * W = q := ⟨_, rfl⟩
          have hqi : (i : Int) * (W : Int) = qw := by rw [← hqw]; simp
          have hq6 : qw ≤ 671088640 := by
            rw [← hqw]
            calc i * W ≤ 4096 * 163840 := Nat.mul_le_mul (by omega) hWm
              _ = 671088640 := by decide
          have hsp : Hid ((l.drop (min n qw)).take (min n (qw + W) - min n qw) = span l W i) := by
            have := span_slice l W i; rw [hqw, HN.out] at this; exact this
          have hsp' : Hid ((l'.drop (min n qw)).take (min n (qw + W) - min n qw) = span l' W i) := by
            have := span_slice l' W i; rw [hqw, HN'.out] at this; exact this
          obtain ⟨a, ha⟩ : ∃ a, min n qw = a := ⟨_, rfl⟩
          obtain ⟨z, hz⟩ : ∃ z, min n (qw + W) = z := ⟨_, rfl⟩
          have hm1 : min (n : Int) (qw : Int) = a := by omega
          have hm2 : min (n : Int) ((qw : Int) + W) = z := by omega
          have haz : (a : Int) ≤ z := by omega
          have hzn : (z : Int) ≤ n := by omega
          have ha0 : (0 : Int) ≤ a := by omega
          rw [ha, hz] at hsp hsp'
          have hil : (i : Int) < x.length := by omega
          have hi0 : (0 : Int) ≤ i := by omega
          clear hqw ha hz hD hD'
          by_cases hxx : x1 = x2
          · have hxx' : (x1 == x2) = true := by simp [hxx]
            obtain ⟨q, hq⟩ : ∃ q, (span l W i == span l' W i) = q := ⟨_, rfl⟩
            obtain ⟨P, hP⟩ : ∃ P : Option Addr, (if cl = a then some ⟨bl, offl, none⟩ else some ⟨bl, offl + a * 8, none⟩) = P := ⟨_, rfl⟩
            obtain ⟨P', hP'⟩ : ∃ P : Option Addr, (if cm = a then some ⟨bm, offm, none⟩ else some ⟨bm, offm + a * 8, none⟩) = P := ⟨_, rfl⟩
            have hBd : Below w.heap.size w wi.drew := hBwi.drew
            have hlz : (l.drop a).length = n - a := by rw [List.length_drop, HN.out]
            have hlz' : (l'.drop a).length = n - a := by rw [List.length_drop, HN'.out]
            have HEQ := Lib.hid (eqSecsX P P' (cl - a) (cm - a) (z - a) (z - a) ((l.drop a).take (z - a)) ((l'.drop a).take (z - a)) wi.drew (by rw [List.length_take, hlz]; omega) (by rw [List.length_take, hlz']; omega) ((sub_slice (H1.out _ hBd) (by rw [HN.out]; exact HCL.out.1) hP).more (Bl.mono hBd.size)) ((sub_slice (H2.out _ hBd) (by rw [HN'.out]; exact HCM.out.1) hP').more (Bl.mono hBd.size)) (by omega) (by omega) q (by rw [hsp.out, hsp'.out]; exact hq))
            have s1 : (z : Int) ≤ cl := by have := HCL.out; omega
            have s2 : (z : Int) ≤ cm := by have := HCM.out; omega
            have s3 : (cl : Int) ≤ 9223372036854775807 := by have := HCL.out; unfold maxLen at this; omega
            have s4 : (cm : Int) ≤ 9223372036854775807 := by have := HCM.out; unfold maxLen at this; omega
            have HQ := Lib.hid hq
            clear hq hlz hlz' hxx
            have hz0i := hBwi.size
            have HC6 : Hid (∀ W, Below wi.heap.size wi W → W.cell? ⟨w.heap.size, 2, none⟩ = some (.slice (some ⟨b, off, none⟩) lv.length ca) ∧ W.cell? ⟨w.heap.size + 1, 2, none⟩ = some (.slice (some ⟨b', off', none⟩) lv'.length cb) ∧ W.cell? ⟨b, off + k, none⟩ = some (.slice (some ⟨bD, offD, none⟩) x.length dc) ∧ W.cell? ⟨b', off' + k, none⟩ = some (.slice (some ⟨bD', offD', none⟩) x.length dc') ∧ W.cell? ⟨bD, offD + i, none⟩ = some (.int .u64 x1) ∧ W.cell? ⟨bD', offD' + i, none⟩ = some (.int .u64 x2)) := fun W hb => by
              have hs0 := HS0.out
              have hsi := hBi.size
              exact ⟨(hb.cell (p := ⟨w.heap.size, 2, none⟩) (by show w.heap.size < wi.heap.size; omega)).trans r2, (hb.cell (p := ⟨w.heap.size + 1, 2, none⟩) (by show w.heap.size + 1 < wi.heap.size; omega)).trans e2, (hb.cell (p := ⟨b, off + k, none⟩) (Nat.lt_of_lt_of_le hbb hz0i)).trans g0, (hb.cell (p := ⟨b', off' + k, none⟩) (Nat.lt_of_lt_of_le hbb' hz0i)).trans g0', (hb.cell (p := ⟨bD, offD + i, none⟩) (Nat.lt_of_lt_of_le hbD hz0i)).trans q0, (hb.cell (p := ⟨bD', offD' + i, none⟩) (Nat.lt_of_lt_of_le hbD' hz0i)).trans q0'⟩
            go_upto_region 9 with (fail)
            have hc0 := HC6.out wi.drew (Below.refl _ _).drew
            go_region_held3 (fun W => W.cell? ⟨w.heap.size, 2, none⟩ = some (.slice (some ⟨b, off, none⟩) lv.length ca) ∧ W.cell? ⟨w.heap.size + 1, 2, none⟩ = some (.slice (some ⟨b', off', none⟩) lv'.length cb) ∧ W.cell? ⟨b, off + k, none⟩ = some (.slice (some ⟨bD, offD, none⟩) x.length dc) ∧ W.cell? ⟨b', off' + k, none⟩ = some (.slice (some ⟨bD', offD', none⟩) x.length dc') ∧ W.cell? ⟨bD, offD + i, none⟩ = some (.int .u64 x1) ∧ W.cell? ⟨bD', offD' + i, none⟩ = some (.int .u64 x2)) (first | exact hc0 | exact HC6.out _ hx5) (first | (go_at_call 25; refine HEQ.out.mono ?_; rintro e w5 ⟨rfl, h5⟩; have hx5 : Below wi.heap.size wi w5 := bUn h5))
            have hb5 := hx5
            have hB5 : Below W0.heap.size W0 w5 := hBi.trans (hb5.mono hBi.size)
            clear HC6 hc0 HEQ h5 hx5 r1 r2 e2 g0 g0' q0 q0'
            cases q with
            | true =>
              go_wp2_with fail
              go_roundw
              case rel =>
                refine ⟨i + 1, hix, by go_num, hB5, ?_⟩
                intro i' hi' hd
                by_cases hii : i' = i
                · rw [hii]; exact eq_of_beq HQ.out
                · exact hiv.out i' (by omega) hd
              case measure => simp [intOf]; omega
            | false =>
              go_wp2_with fail
              go_ret
              exact ⟨true, rfl, (fun h => (by cases h)), hB0.trans (hB5.mono hB0.size)⟩
          · have hxx' : (x1 == x2) = false := by simp [hxx]
            have hdt : Hid (df lv lv' k i = true) := by rw [Hid, hdf.out]; simp [hxx]
            clear hxx hdf
            go_upto_region 9 with (fail)
            go_quiet (fail)
            go_wp2_with fail
            go_roundw
            case rel =>
              refine ⟨i + 1, hix, by go_num, hBi.trans ((Drew.below ⟨_, rfl⟩ _).mono hBi.size), ?_⟩
              intro i' hi' hd
              by_cases hii : i' = i
              · rw [hii, hdt.out] at hd; cases hd
              · exact hiv.out i' (by omega) hd
            case measure => simp [intOf]; omega
        · have hii : i = x.length := by omega
          subst hii
          go_wp2_with fail
          go_roundw
          case rel =>
            refine ⟨k + 1, 2 * W, hlt, by go_num, by go_num, hW2.out, hBi, ?_⟩
            intro k' i hk' hi hdf
            by_cases hkk : k' = k
            · subst hkk
              rw [E1.out] at hi
              rw [← HW.out]
              exact hiv.out i hi hdf
            · exact hinv.out k' i (by omega) hi hdf
          case measure => simp [intOf]; omega
    · have hkk : k = lv.length := by omega
      subst hkk
      go_wp2_with fail
      go_ret
      exact ⟨false, rfl, fun _ k' i hk => hinv.out k' i hk, hBo⟩
end Go.Proofs.Ythneomehfmjbkaa

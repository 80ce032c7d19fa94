/-
  The reference's Check: the walk.
-/
import Derived.Test.YthneomehfmjbkaaHp
import Derived.Test.YthneomehfmjbkaaHl
set_option linter.unusedVariables false
set_option linter.unusedSimpArgs false
set_option linter.unusedSectionVars false
set_option linter.unnecessarySimpa false
namespace Go.Proofs.Ythneomehfmjbkaa
open Go.RowKit Go.Shelf
attribute [local go_sem] Oper.semAt_some

/-- whether the level before place k has one node -/
def prev1 (l : List (List Int)) (k : Nat) : Bool := decide (0 < k) && ((l.getD (k - 1) []).length == 1)
theorem shR_drop {n m k : Nat} {l : List (List Int)} (h : shR n false l = shR m (prev1 l k) (l.drop k)) (hk : k < l.length) : shR n false l = ((l[k].length == m) && !(prev1 l k) && shR ((m + 1) / 2) (prev1 l (k + 1)) (l.drop (k + 1))) := by
  have e : prev1 l (k + 1) = (l[k].length == 1) := by simp [prev1, List.getD_eq_getElem?_getD, hk]
  rw [h, List.drop_eq_getElem_cons hk, e]; rfl
def TreeRetL (s lf : Int) (L : List (List Int)) (S0 : Nat → Prop) (w : World) (e : Ending) (w' : World) : Prop :=
  ∃ A c, e = .returned (.agg #[.int .i64 s, .int .i64 lf, .slice A L.length c]) ∧ L.length ≤ c ∧ c ≤ maxLen ∧ SlAt (encSl encU64) w' (LvT S0 w.heap.size w') A L ∧ Below w.heap.size w w'
theorem fieldLevels (a b v : Value) (w : World) : (Instr.field 26 (.agg #[a, b, v]) 2).run Try.prog w = .ok v w := by kernel_rfl
set_option maxHeartbeats 4000000 in
theorem refCheck_any (s lf : Int) (A : Option Addr) (c n : Nat) (l : List (List Int)) (r : Int) (w : World) (hn : l.length = n) (hr : checkT (s, lf, l) = r) (h1 : SlAt (encSl encU64) w (Bl w.heap.size) A l) (hs : n ≤ 100000) (hc : n ≤ c ∧ c ≤ maxLen) (hI : I64 s ∧ I64 lf) :
    Calls Try.prog 26 #[.agg #[.int .i64 s, .int .i64 lf, .slice A n c]] w fun e w' => e = .returned (.int .i64 r) ∧ Below w.heap.size w w' := by
  subst hn
  have HR := Lib.hid hr; clear hr
  have H1 : Hid (∀ w', Below w.heap.size w w' → SlAt (encSl encU64) w' (Bl w.heap.size) A l) := fun w' hb => h1.below hb
  clear h1
  obtain ⟨W0, hW0⟩ : ∃ W0, w.alloc (.cells #[.int .i64 s, .int .i64 lf, .slice A l.length c] 26) = W0 := ⟨_, rfl⟩
  have hB0 : Below w.heap.size w W0 := by rw [← hW0]; exact ext_alloc (Below.refl _ _)
  have hrow : W0.heap[w.heap.size]? = some (.cells #[.int .i64 s, .int .i64 lf, .slice A l.length c] 26 (0, 0)) := by rw [← hW0]; exact heap_alloc_new _ _
  obtain ⟨r0, r1, r2, rf⟩ := blk3 hrow
  have HROW := Lib.hid hrow; clear hrow rf
  have HL := Lib.hid (limN_cases s lf)
  obtain ⟨⟨hs1, hs2⟩, hf1, hf2⟩ := hI
  go_enter Try.func26, Try.ntmps26
  rcases HL.out with ⟨g1, g2⟩ | ⟨g1, g2, g3, g4⟩ | ⟨g1, g2, g3, g4, g5⟩
  · have HCT : Hid (checkT (s, lf, l) = 2) := by rw [Hid, checkT, if_pos (by rw [g1]; decide)]; exact g1
    clear g1 HL
    by_cases g3 : s < 1
    · go_wp2_with fail
      go_ret
      rw [← HR.out, HCT.out]
      exact ⟨rfl, hB0⟩
    · go_wp2_with fail
      go_ret
      rw [← HR.out, HCT.out]
      exact ⟨rfl, hB0⟩
  · have HCT : Hid (checkT (s, lf, l) = 1) := by rw [Hid, checkT, if_pos (by rw [g1]; decide)]; exact g1
    clear g1 HL
    by_cases g5 : lf < 1
    · go_wp2_with fail
      go_ret
      rw [← HR.out, HCT.out]
      exact ⟨rfl, hB0⟩
    · go_wp2_with fail
      go_ret
      rw [← HR.out, HCT.out]
      exact ⟨rfl, hB0⟩
  · obtain ⟨sn, rfl⟩ : ∃ sn : Nat, s = sn := ⟨s.toNat, by omega⟩
    obtain ⟨m0, rfl⟩ : ∃ m0 : Nat, lf = m0 := ⟨lf.toNat, by omega⟩
    have HLV := Lib.hid (refLeaves_any sn m0 W0 ⟨by omega, by omega⟩ ⟨by omega, by omega⟩)
    have HNP := Lib.hid (leavesN_pos (n := sn) (m := m0) (by omega) (by omega))
    have HNL := Lib.hid (leavesN_le (n := sn) (m := m0) (by omega))
    obtain ⟨N, hN⟩ : ∃ N, leavesN sn m0 = N := ⟨_, rfl⟩
    have HCT : Hid (checkT ((sn : Int), (m0 : Int), l) = if shR N false l = false then 3 else if levels (l.headD []) ≠ l then 22 else 0) := by
      rw [Hid, checkT, if_neg (by simp [g1]), shR_eq l N, ← hN]
      rfl
    rw [hN] at HLV HNP HNL
    clear g1 HL
    go_wp2_with fail
    refine HLV.out.mono ?_
    rintro e W0 ⟨rfl, rfl⟩
    clear HLV
    have hNle : N ≤ 4096 := by have := HNL.out; omega
    go_wp2_with fail
    go_loopw [3, 4] (fun v i wr => ∃ (k m : Nat), k ≤ l.length ∧ m ≤ 4096 ∧ i = .int .i64 (k : Nat) ∧ v = .int .i64 (m : Nat) ∧ wr = W0 ∧ Hid (shR N false l = shR m (prev1 l k) (l.drop k))) (fun _ i _ => l.length - (intOf i).toNat)
    case atStart => exact ⟨0, N, by omega, hNle, rfl, rfl, rfl, rfl⟩
    case round =>
      obtain ⟨k, m, hk, hm, rfl, rfl, rfl, hsh⟩ := hrel
      by_cases hlt : k < l.length
      · have HST := Lib.hid (shR_drop hsh.out hlt)
        have hki : (k : Int) < l.length := by omega
        obtain ⟨b, off, D, dc, rfl, hb, g0, hD, hd1, hd2⟩ := (H1.out _ hB0).sl hlt
        obtain ⟨q, hq⟩ : ∃ q, Hid (q = (l[k]'hlt).length) := ⟨_, Lib.hid rfl⟩
        rw [← hq.out] at g0 HST
        clear hD hd1 hd2
        have hnn : (0 : Int) ≤ k := by omega
        by_cases hqm : q = m
        · subst hqm
          by_cases hk0 : k = 0
          · have hkp : ¬ (0 : Int) < k := by omega
            have hf : Hid (shR N false l = shR ((q + 1) / 2) (prev1 l (k + 1)) (l.drop (k + 1))) := by rw [Hid, HST.out]; simp [prev1, hk0]
            clear hk0
            go_wp2_with fail
            go_roundw
            case rel => exact ⟨k + 1, (q + 1) / 2, hlt, by omega, by go_num, by go_num, by trivial, hf.out⟩
            case measure => simp [intOf]; omega
          · have hk1 : k - 1 < l.length := by omega
            have hkp : (0 : Int) < k := by omega
            obtain ⟨b', off', D', dc', he, hb', g0', hD', hd1', hd2'⟩ := (H1.out _ hB0).sl hk1
            cases he
            obtain ⟨q', hq'⟩ : ∃ q', Hid (q' = (l[k - 1]'hk1).length) := ⟨_, Lib.hid rfl⟩
            rw [← hq'.out] at g0'
            clear hD' hd1' hd2'
            have hp : Hid (prev1 l k = (q' == 1)) := by rw [Hid, hq'.out, prev1, List.getD_eq_getElem?_getD, List.getElem?_eq_getElem hk1]; simp; omega
            have g0'' : wr.cell? ⟨b, off + ((k : Int) - 1).toNat, none⟩ = some (.slice D' q' dc') := by
              have : ((k : Int) - 1).toNat = k - 1 := by omega
              rw [this]; exact g0'
            have hkl : (k : Int) - 1 < l.length := by omega
            have hkn : (0 : Int) ≤ (k : Int) - 1 := by omega
            by_cases hq1 : q' = 1
            · have hq1' : ((q' : Int) == 1) = true := by simp [hq1]
              have hf : Hid (shR N false l = false) := by rw [Hid, HST.out, hp.out]; simp [hq1]
              clear hq1
              go_wp2_with fail
              go_ret
              rw [← HR.out, HCT.out, hf.out]
              exact ⟨rfl, hB0⟩
            · have hq1' : ((q' : Int) == 1) = false := by simp; omega
              have hf : Hid (shR N false l = shR ((q + 1) / 2) (prev1 l (k + 1)) (l.drop (k + 1))) := by rw [Hid, HST.out, hp.out]; simp [hq1]
              clear hq1
              go_wp2_with fail
              go_roundw
              case rel => exact ⟨k + 1, (q + 1) / 2, hlt, by omega, by go_num, by go_num, by trivial, hf.out⟩
              case measure => simp [intOf]; omega
        · have hqm' : ((q : Int) != (m : Int)) = true := by simp; omega
          have hf : Hid (shR N false l = false) := by rw [Hid, HST.out]; simp [hqm]
          go_wp2_with fail
          go_ret
          rw [← HR.out, HCT.out, hf.out]
          exact ⟨rfl, hB0⟩
      · have hkk : k = l.length := by omega
        subst hkk
        have HSE : Hid (shR N false l = prev1 l l.length) := by rw [Hid, hsh.out, List.drop_length]; rfl
        by_cases hl0 : l.length = 0
        · have hf : Hid (shR N false l = false) := by rw [Hid, HSE.out]; simp [prev1, hl0]
          have hl0' : ((l.length : Int) == 0) = true := by simp [hl0]
          clear hl0
          go_wp2_with fail
          go_ret
          rw [← HR.out, HCT.out, hf.out]
          exact ⟨rfl, hB0⟩
        · have hl0' : ((l.length : Int) == 0) = false := by simp; exact fun h => hl0 (by rw [h]; rfl)
          have hk1 : l.length - 1 < l.length := by omega
          obtain ⟨b, off, D', dc', rfl, hb', g0', hD', hd1', hd2'⟩ := (H1.out _ hB0).sl hk1
          obtain ⟨q', hq'⟩ : ∃ q', Hid (q' = (l[l.length - 1]'hk1).length) := ⟨_, Lib.hid rfl⟩
          rw [← hq'.out] at g0'
          clear hD' hd1' hd2'
          have hp : Hid (shR N false l = (q' == 1)) := by rw [Hid, HSE.out, hq'.out, prev1, List.getD_eq_getElem?_getD, List.getElem?_eq_getElem hk1]; simp; omega
          have g0'' : wr.cell? ⟨b, off + ((l.length : Int) - 1).toNat, none⟩ = some (.slice D' q' dc') := by
            have : ((l.length : Int) - 1).toNat = l.length - 1 := by omega
            rw [this]; exact g0'
          have hkl : (l.length : Int) - 1 < l.length := by omega
          have hkn : (0 : Int) ≤ (l.length : Int) - 1 := by omega
          by_cases hq1 : q' = 1
          · have hq1' : ((q' : Int) != 1) = false := by simp [hq1]
            have hst : Hid (shR N false l = true) := by rw [Hid, hp.out]; simp [hq1]
            clear hq1
            have hl00 : 0 < l.length := by omega
            have hl0N : Hid ((l[0]'hl00).length = N) := by
              have h5 := hst.out
              rw [shR_drop (m := N) (k := 0) rfl hl00] at h5
              simp only [Bool.and_eq_true] at h5
              simpa [Hid] using h5.1.1
            obtain ⟨b', off', D, dc, he, hb, g0, hD, hd1, hd2⟩ := (H1.out _ hB0).sl hl00
            cases he
            have hhd : Hid (l.headD [] = l[0]'hl00) := by
              rw [Hid]
              cases l with
              | nil => simp at hl00
              | cons x r => rfl
            obtain ⟨x, hx⟩ : ∃ x, Hid (x = l[0]'hl00) := ⟨_, Lib.hid rfl⟩
            rw [← hx.out] at g0 hD hd1 hl0N hhd
            have hxl := hl0N.out
            have hb0 : b < wr.heap.size := Nat.lt_of_lt_of_le hb hB0.size
            have hnx : x.length ≤ 4096 := by omega
            have hnx1 : 1 ≤ x.length := by have := HNP.out; omega
            obtain ⟨L, hL⟩ : ∃ L, Hid (levels x = L) := ⟨_, rfl⟩
            have hLl : Hid (L.length ≤ 4097) := by rw [Hid, ← hL.out]; have := levels_len x; omega
            have HAB : Hid (∀ W' (hw : Below wr.heap.size wr W'), Calls Try.prog 43 #[.int .i64 (sn : Int), .int .i64 (m0 : Int), .slice D x.length dc] W' (TreeRetL (sn : Int) (m0 : Int) L (Bl w.heap.size) W')) := fun W' (hw : Below wr.heap.size wr W') => by
              rw [← hL.out]
              exact refTree_anyS D dc x.length (Bl w.heap.size) (sn : Int) (m0 : Int) x W' rfl hnx1 (fun g hg => Nat.lt_of_lt_of_le hg (Nat.le_trans hB0.size hw.size)) ⟨hd1, hd2⟩ (hD.below (hw.mono hB0.size)) (by omega)
            have HEQ := Lib.hid (fun A4 c4 W4 (h5 : Below wr.heap.size wr W4) (S4 : Nat → Prop) (h4 : SlAt (encSl encU64) W4 S4 A4 L) => sameLevels_any A4 (some ⟨b, off, none⟩) c4 c L.length l.length S4 (Bl w.heap.size) L l _ W4 rfl rfl rfl h4 (H1.out _ (hB0.trans (h5.mono hB0.size))) (by have := hLl.out; omega) (by omega))
            have hki : (0 : Int) < l.length := by omega
            clear hD hd1 hd2 hxl hnx hnx1
            go_upto_region 14 with (fail)
            clear g0' g0'' hkl hkn
            have hb1 : w.heap.size < wr.heap.size := (Array.getElem?_eq_some_iff.1 HROW.out).1
            have HC : Hid (∀ w', Below wr.heap.size wr w' → w'.cell? ⟨w.heap.size, 0, none⟩ = some (.int .i64 sn) ∧ w'.cell? ⟨w.heap.size, 1, none⟩ = some (.int .i64 m0) ∧ w'.cell? ⟨w.heap.size, 2, none⟩ = some (.slice (some ⟨b, off, none⟩) l.length c) ∧ w'.cell? ⟨b, off, none⟩ = some (.slice D x.length dc)) := fun w' hw => ⟨(hw.cell (p := ⟨w.heap.size, 0, none⟩) hb1).trans r0, (hw.cell (p := ⟨w.heap.size, 1, none⟩) hb1).trans r1, (hw.cell (p := ⟨w.heap.size, 2, none⟩) hb1).trans r2, (hw.cell (p := ⟨b, off, none⟩) hb0).trans (by simpa using g0)⟩
            have hfd := fieldLevels
            have hc0 := HC.out wr.drew (Below.refl _ _).drew
            go_region_held3 (fun w' => w'.cell? ⟨w.heap.size, 0, none⟩ = some (.int .i64 sn) ∧ w'.cell? ⟨w.heap.size, 1, none⟩ = some (.int .i64 m0) ∧ w'.cell? ⟨w.heap.size, 2, none⟩ = some (.slice (some ⟨b, off, none⟩) l.length c) ∧ w'.cell? ⟨b, off, none⟩ = some (.slice D x.length dc)) (first | exact hc0 | exact HC.out _ hx4 | exact HC.out _ hx6 | go_keep) (first | (go_at_call 43; refine (HAB.out wr.drew (Below.refl _ _).drew).mono ?_; rintro e w4 ⟨A4, c4, rfl, t1, t2, t3, t4⟩; have hx4 : Below wr.heap.size wr w4 := bUn t4) | (go_at_call 44; refine (HEQ.out A4 c4 w4 hx4 _ t3).mono ?_; rintro e w6 ⟨rfl, h6⟩; have hx6 : Below wr.heap.size wr w6 := hx4.trans (h6.below _)))
            have hB6 := hB0.trans (hx6.mono hB0.size)
            clear HEQ HAB
            obtain ⟨rb, hrb⟩ : ∃ rb, rb = decide (L = l) := ⟨_, rfl⟩
            rw [← hrb]
            have hrr : Hid (r = if rb = true then 0 else 22) := by
              have h1 := HR.out
              rw [HCT.out, hst.out, hhd.out, hL.out] at h1
              rw [Hid, ← h1, hrb]
              by_cases hh : L = l
              · simp [hh]
              · simp [hh]
            clear hrb HR HCT
            cases rb
            · go_wp2_with fail
              go_ret
              rw [hrr.out]
              exact ⟨rfl, hB6⟩
            · go_wp2_with fail
              go_ret
              rw [hrr.out]
              exact ⟨rfl, hB6⟩
          · have hq1' : ((q' : Int) != 1) = true := by simp; omega
            have hf : Hid (shR N false l = false) := by rw [Hid, hp.out]; simp [hq1]
            clear hq1
            go_wp2_with fail
            go_ret
            rw [← HR.out, HCT.out, hf.out]
            exact ⟨rfl, hB0⟩
end Go.Proofs.Ythneomehfmjbkaa

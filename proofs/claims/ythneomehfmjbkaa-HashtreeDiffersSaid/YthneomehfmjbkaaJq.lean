/-
  The reference's Differ: the walk.
-/
import Derived.Test.YthneomehfmjbkaaJp
import Derived.Test.YthneomehfmjbkaaHr
set_option linter.unusedVariables false
set_option linter.unusedSimpArgs false
set_option linter.unusedSectionVars false
set_option linter.unnecessarySimpa false
namespace Go.Proofs.Ythneomehfmjbkaa
open Go.RowKit Go.Shelf
attribute [local go_sem] Oper.semAt_some

theorem difE0 {s lf s' lf' : Int} {l l' : List (List Int)} (h : difErr (s, lf, l) (s', lf', l') = 0) : ∃ n m : Nat, s = n ∧ lf = m ∧ s' = n ∧ lf' = m ∧ TOk n m l ∧ TOk n m l' := by
  unfold difErr at h
  by_cases h1 : checkT (s, lf, l) = 0
  · rw [h1, if_neg (by decide)] at h
    by_cases h2 : checkT (s', lf', l') = 0
    · rw [h2, if_neg (by decide)] at h
      by_cases h3 : s ≠ s' ∨ lf ≠ lf'
      · rw [if_pos h3] at h; cases h
      · obtain ⟨n, m, rfl, rfl, t1⟩ := checkT_TOk h1
        obtain ⟨n', m', rfl, rfl, t2⟩ := checkT_TOk h2
        have e1 : n = n' := by omega
        have e2 : m = m' := by omega
        subst e1 e2
        exact ⟨n, m, rfl, rfl, rfl, rfl, t1, t2⟩
    · rw [if_pos h2] at h; exact absurd h h2
  · rw [if_pos h1] at h; exact absurd h h1
theorem TOk.same {n m : Nat} {l l' : List (List Int)} (h : TOk n m l) (h' : TOk n m l') : l.length = l'.length := by
  have h0 := h.ne
  have h0' := h'.ne
  rcases Nat.lt_trichotomy l.length l'.length with g | g | g
  · have a := (h.at_ (l.length - 1) (by omega)).2.1.2 (by omega)
    have b := (h'.at_ (l.length - 1) (by omega)).2.1.1 a
    omega
  · exact g
  · have a := (h'.at_ (l'.length - 1) (by omega)).2.1.2 (by omega)
    have b := (h.at_ (l'.length - 1) (by omega)).2.1.1 a
    omega
set_option maxHeartbeats 8000000 in
set_option maxRecDepth 100000 in
theorem refDiffer_any (s lf s' lf' : Int) (A A' : Option Addr) (c c' n n' : Nat) (l l' : List (List Int)) (w : World) (hn : l.length = n) (hn' : l'.length = n') (h1 : SlAt (encSl encU64) w (Bl w.heap.size) A l) (h2 : SlAt (encSl encU64) w (Bl w.heap.size) A' l') (hs : n ≤ 100) (hs' : n' ≤ 100) (hc : n ≤ c ∧ c ≤ maxLen) (hc' : n' ≤ c' ∧ c' ≤ maxLen) (hI : I64 s ∧ I64 lf) (hI' : I64 s' ∧ I64 lf') :
    Calls Try.prog 20 #[.agg #[.int .i64 s, .int .i64 lf, .slice A n c], .agg #[.int .i64 s', .int .i64 lf', .slice A' n' c']] w (RetSlN encExt (difT (s, lf, l) (s', lf', l')) (difErr (s, lf, l) (s', lf', l')) w) := by
  subst hn hn'
  have H1 : Hid (∀ w', Below w.heap.size w w' → SlAt (encSl encU64) w' (Bl w.heap.size) A l) := fun w' hb => h1.below hb
  have H2 : Hid (∀ w', Below w.heap.size w w' → SlAt (encSl encU64) w' (Bl w.heap.size) A' l') := fun w' hb => h2.below hb
  clear h1 h2
  obtain ⟨W0, hW0⟩ : ∃ W0, (w.alloc (.cells #[.int .i64 s, .int .i64 lf, .slice A l.length c] 26)).alloc (.cells #[.int .i64 s', .int .i64 lf', .slice A' l'.length c'] 26) = W0 := ⟨_, rfl⟩
  have hB0 : Below w.heap.size w W0 := by rw [← hW0]; exact ext_alloc (ext_alloc (Below.refl _ _))
  have HS0 : Hid (W0.heap.size = w.heap.size + 2) := by rw [← hW0]; simp [Hid]
  have hr0 : W0.heap[w.heap.size]? = some (.cells #[.int .i64 s, .int .i64 lf, .slice A l.length c] 26 (0, 0)) := by rw [← hW0]; exact (Below.heap_alloc _ _ _ (by simp)).trans (heap_alloc_new _ _)
  have hr1 : W0.heap[w.heap.size + 1]? = some (.cells #[.int .i64 s', .int .i64 lf', .slice A' l'.length c'] 26 (0, 0)) := by rw [← hW0]; exact heap_new2 _ _ _
  have HCC : Hid (∀ W, Below W0.heap.size W0 W → W.cell? ⟨w.heap.size, 0, none⟩ = some (.int .i64 s) ∧ W.cell? ⟨w.heap.size, 1, none⟩ = some (.int .i64 lf) ∧ W.cell? ⟨w.heap.size, 2, none⟩ = some (.slice A l.length c) ∧ W.cell? ⟨w.heap.size + 1, 0, none⟩ = some (.int .i64 s') ∧ W.cell? ⟨w.heap.size + 1, 1, none⟩ = some (.int .i64 lf') ∧ W.cell? ⟨w.heap.size + 1, 2, none⟩ = some (.slice A' l'.length c')) := fun W hb => by
    have hs0 := HS0.out
    obtain ⟨a0, a1, a2, _⟩ := blk3 ((hb.block _ (by omega)).trans hr0)
    obtain ⟨b0, b1, b2, _⟩ := blk3 ((hb.block _ (by omega)).trans hr1)
    exact ⟨a0, a1, a2, b0, b1, b2⟩
  clear hr0 hr1
  obtain ⟨x, hx⟩ : ∃ x, Hid (checkT (s, lf, l) = x) := ⟨_, rfl⟩
  obtain ⟨y, hy⟩ : ∃ y, Hid (checkT (s', lf', l') = y) := ⟨_, rfl⟩
  have HCK := Lib.hid (fun W (hb : Below w.heap.size w W) => refCheck_any s lf A c l.length l x W rfl hx.out ((H1.out _ hb).more (Bl.mono hb.size)) (by omega) hc hI)
  have HCK' := Lib.hid (fun W (hb : Below w.heap.size w W) => refCheck_any s' lf' A' c' l'.length l' y W rfl hy.out ((H2.out _ hb).more (Bl.mono hb.size)) (by omega) hc' hI')
  obtain ⟨⟨hs1, hs2⟩, hf1, hf2⟩ := hI
  obtain ⟨⟨ht1, ht2⟩, hg1, hg2⟩ := hI'
  have HNL : ∀ n, Hid (difErr (s, lf, l) (s', lf', l') = n → n ≠ 0 → ∀ W, Below w.heap.size w W → RetSlN encExt (difT (s, lf, l) (s', lf', l')) (difErr (s, lf, l) (s', lf', l')) w (.returned (.tuple #[.slice none 0 0, .int .i64 n])) W) := fun n h hne W hb => by
    have : difT (s, lf, l) (s', lf', l') = [] := by unfold difT; rw [if_neg (by rw [h]; exact hne)]
    rw [this, h]
    exact ⟨none, 0, rfl, by simp, by simp, SlAt.nil_, hb⟩
  obtain ⟨r0, r1, r2, e0, e1, e2⟩ := HCC.out W0 (Below.refl _ _)
  go_enter Try.func20, Try.ntmps20
  go_wp2_with fail
  refine (HCK.out _ hB0).mono ?_
  rintro e w1 ⟨rfl, hb1⟩
  have hB1 : Below w.heap.size w w1 := ext_trans hB0 hb1
  clear r0 r1 r2 e0 e1 e2 HCK
  by_cases hx1 : x = 0
  case neg =>
    have hx1' : (x != 0) = true := by simp [hx1]
    have hE := Lib.hid ((HNL x).out (by unfold difErr; rw [hx.out, if_pos hx1]) hx1 w1 hB1)
    clear hx1
    go_wp2_with fail
    go_ret2
    exact hE.out
  have hx1' : (x != 0) = false := by simp [hx1]
  have HX := Lib.hid hx1
  clear hx1
  obtain ⟨r0, r1, r2, e0, e1, e2⟩ := HCC.out w1 hb1
  go_wp2_with fail
  refine (HCK'.out _ hB1).mono ?_
  rintro e w2 ⟨rfl, hb2⟩
  have hB2 : Below w.heap.size w w2 := ext_trans hB1 hb2
  have hb02 : Below W0.heap.size W0 w2 := ext_trans hb1 hb2
  clear r0 r1 r2 e0 e1 e2 HCK' hb1 hb2 hB1
  by_cases hx2 : y = 0
  case neg =>
    have hx2' : (y != 0) = true := by simp [hx2]
    have hE := Lib.hid ((HNL y).out (by unfold difErr; rw [hx.out, hy.out, if_neg (by rw [HX.out]; decide), if_pos hx2]) hx2 w2 hB2)
    clear hx2
    go_wp2_with fail
    go_ret2
    exact hE.out
  have hx2' : (y != 0) = false := by simp [hx2]
  have HY := Lib.hid hx2
  clear hx2
  have HE1 : Hid (difErr (s, lf, l) (s', lf', l') = if s ≠ s' ∨ lf ≠ lf' then 22 else 0) := by unfold difErr; rw [Hid, hx.out, hy.out, HX.out, HY.out, if_neg (by decide), if_neg (by decide)]
  obtain ⟨r0, r1, r2, e0, e1, e2⟩ := HCC.out w2 hb02
  by_cases hss : s = s'
  case neg =>
    have hss' : (s != s') = true := by simp; omega
    have hE := Lib.hid ((HNL 22).out (by rw [HE1.out, if_pos (Or.inl hss)]) (by decide) w2 hB2)
    clear hss
    go_wp2_with fail
    go_ret2
    exact hE.out
  by_cases hmm : lf = lf'
  case neg =>
    have hmm' : (lf != lf') = true := by simp; omega
    have hss' : (s != s') = false := by simp; omega
    have hE := Lib.hid ((HNL 22).out (by rw [HE1.out, if_pos (Or.inr hmm)]) (by decide) w2 hB2)
    clear hss hmm
    go_wp2_with fail
    go_ret2
    exact hE.out
  have HE0 : Hid (difErr (s, lf, l) (s', lf', l') = 0) := by rw [Hid, HE1.out, if_neg (by rintro (h | h) <;> contradiction)]
  obtain ⟨n, m, q1, q2, q3, q4, t1, t2⟩ := difE0 HE0.out
  subst q1 q2 q3 q4
  have hss' : ((n : Int) != (n : Int)) = false := by simp
  have hmm' : ((m : Int) != (m : Int)) = false := by simp
  have hDT := difT_dfs t1 HE0.out
  have hlen2 := t1.same t2
  have h0 := t1.ne
  have hl13 := t1.len
  obtain ⟨K, hK⟩ : ∃ K, l.length - 1 = K := ⟨_, rfl⟩
  rw [hK] at hDT
  have HDT := Lib.hid hDT
  have hKe : IntKind.i64.wrap ((l.length : Int) - 1) = (K : Int) := by
    rw [IntWalk.i64_in _ (by omega)]; omega
  obtain ⟨hsrt, hrng⟩ := dfs_sorted l l' K 0
  have hb : ∀ i ∈ dfs l l' K 0, i < leavesN n m := fun i hi => by
    have := (hrng i hi).2.2
    rw [List.getD_eq_getElem?_getD, List.getElem?_eq_getElem h0, Option.getD_some, (t1.at_ 0 h0).1] at this
    exact this
  have hdl : (toI (dfs l l' K 0)).length ≤ 4096 := by
    rw [toI_len]; exact Nat.le_trans (dfs_len l l' K _) (Nat.pow_le_pow_right (by omega) (by omega : K ≤ 12))
  have HFD : Hid (∀ W, Below w.heap.size w W → Calls Try.prog 48 #[.agg #[.int .i64 n, .int .i64 m, .slice A l.length c], .agg #[.int .i64 n, .int .i64 m, .slice A' l'.length c'], .int .i64 K, .int .i64 0] W (FoundRet (toI (dfs l l' K 0)) W)) := fun W hw => by
    have h := found_any (n : Int) (m : Int) (n : Int) (m : Int) A A' c c' l l' ⟨hs, hs'⟩ (fun j hj hj' => by rw [(t1.at_ j hj).1, (t2.at_ j hj').1]) (fun j hj => by rw [(t1.at_ j hj).1]; exact (t1.at_ j hj).2.2.2) K 0 W (by omega) (by omega) (by omega) (by
      have : 2 ^ K ≤ 2 ^ 12 := Nat.pow_le_pow_right (by omega) (by omega)
      omega) ((H1.out W hw).more (Bl.mono hw.size)) ((H2.out W hw).more (Bl.mono hw.size))
    simpa using h
  have HEX : Hid (∀ W A4 d4, SlAt encInt W (Bl W.heap.size) A4 (toI (dfs l l' K 0)) → Calls Try.prog 47 #[.int .i64 n, .int .i64 m, .slice A4 (toI (dfs l l' K 0)).length d4] W (RetSl encExt (extsL ((dfs l l' K 0).map (leafE n m))) W)) := fun W A4 d4 hsl =>
    refExts_any n m _ d4 A4 (dfs l l' K 0) W rfl t1.n2 ⟨t1.m1, t1.m2⟩ hsrt hb hsl hdl
  obtain ⟨u, hu⟩ : ∃ u, toI (dfs l l' K 0) = u := ⟨_, rfl⟩
  obtain ⟨r, hr⟩ : ∃ r, extsL ((dfs l l' K 0).map (leafE n m)) = r := ⟨_, rfl⟩
  rw [hu] at HFD HEX
  rw [hr] at HEX HDT
  clear hs1 hs2 hf1 hf2 ht1 ht2 hg1 hg2 hss hmm t1 t2 hDT hsrt hrng hb hdl hu hr HE1 HNL hx hy HX HY hc hc' hK hlen2 h0 hl13
  go_upto_region 9 with (fail)
  have hc0 := HCC.out w2.drew hb02.drew
  have hz2 := hB2.size
  clear r0 r1 r2 e0 e1 e2
  go_region_held3 (fun W => W.cell? ⟨w.heap.size, 0, none⟩ = some (.int .i64 n) ∧ W.cell? ⟨w.heap.size, 1, none⟩ = some (.int .i64 m) ∧ W.cell? ⟨w.heap.size, 2, none⟩ = some (.slice A l.length c) ∧ W.cell? ⟨w.heap.size + 1, 0, none⟩ = some (.int .i64 n) ∧ W.cell? ⟨w.heap.size + 1, 1, none⟩ = some (.int .i64 m) ∧ W.cell? ⟨w.heap.size + 1, 2, none⟩ = some (.slice A' l'.length c')) (first | exact hc0 | exact HCC.out _ hx5 | exact HCC.out _ hx4) (first | (go_at_call 47; refine (HEX.out w4 A4 d4 o4s).mono ?_; rintro e w5 ⟨A5, d5, rfl, k5, m5, s5, h5⟩; have hx5 : Below W0.heap.size W0 w5 := hx4.trans (h5.mono hx4.size)) | (go_at_call 48; refine (HFD.out w2.drew hB2.drew).mono ?_; rintro e w4 ⟨A4, d4, rfl, o4, h4⟩; have hx4 : Below W0.heap.size W0 w4 := hb02.trans ((bUn h4).mono hb02.size); have o4s := o4.sl_.more (S' := Bl w4.heap.size) (fun _ h => h.2)))
  have hbx := hx5
  have hz4 := hx4.size
  have hz0 := hB0.size
  have HS5 := Lib.hid (s5.more (S' := Nw w.heap.size w5.heap.size) (fun g hg => ⟨Nat.le_trans (Nat.le_trans hz0 hz4) hg.1, hg.2⟩))
  clear s5 o4 o4s h4 hc0
  go_wp2_with fail
  go_ret2
  rw [HDT.out, HE0.out]
  exact ⟨A5, d5, rfl, k5, m5, HS5.out, hB0.trans (hbx.mono hB0.size)⟩
end Go.Proofs.Ythneomehfmjbkaa

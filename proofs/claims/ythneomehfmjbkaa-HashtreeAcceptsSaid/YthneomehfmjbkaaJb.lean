/-
  The reference's Update: the walk.
-/
import Derived.Test.YthneomehfmjbkaaHw
set_option linter.unusedVariables false
set_option linter.unusedSimpArgs false
set_option linter.unusedSectionVars false
set_option linter.unnecessarySimpa false
namespace Go.Proofs.Ythneomehfmjbkaa
open Go.RowKit Go.Shelf
attribute [local go_sem] Oper.semAt_some

theorem updL_take_succ {ss : List Sec} {m i : Nat} {sn cn : Int} {v : List Int} (hi : i < v.length) : (updL ss m sn cn v).take (i + 1) = (updL ss m sn cn v).take i ++ [if inLeaf m sn cn i then digS (leafAt ss m i) else v[i]] := by
  have h : i < (updL ss m sn cn v).length := by rw [updL_len]; exact hi
  rw [List.take_succ_eq_append_getElem h]
  congr 2
  simp only [updL, List.getElem_map, List.getElem_range, List.getD_eq_getElem?_getD, List.getElem?_eq_getElem hi, Option.getD_some]
set_option maxHeartbeats 4000000 in
theorem refUpdate_any (s lf : Int) (A A2 : Option Addr) (c c2 n n2 : Nat) (l : List (List Int)) (ss : List Sec) (st ct : Int) (w : World) (hn : l.length = n) (hn2 : ss.length = n2) (h1 : SlAt (encSl encU64) w (Bl w.heap.size) A l) (h2 : SlAt encSec w (Bl w.heap.size) A2 ss) (hs : n ≤ 100000) (hc : n ≤ c ∧ c ≤ maxLen) (hc2 : n2 ≤ c2 ∧ c2 ≤ maxLen) (hI : I64 s ∧ I64 lf) (hI2 : I64 st ∧ I64 ct) :
    Calls Try.prog 18 #[.agg #[.int .i64 s, .int .i64 lf, .slice A n c], .slice A2 n2 c2, .agg #[.int .i64 st, .int .i64 ct]] w (TreeRetE (updT (s, lf, l) ss (st, ct)) (updE (s, lf, l) ss (st, ct)) w.heap.size w) := by
  subst hn hn2
  have H1 : Hid (∀ w', Below w.heap.size w w' → SlAt (encSl encU64) w' (Bl w.heap.size) A l) := fun w' hb => h1.below hb
  have H2 : Hid (∀ w', Below w.heap.size w w' → SlAt encSec w' (Bl w.heap.size) A2 ss) := fun w' hb => h2.below hb
  clear h1 h2
  obtain ⟨W0, hW0⟩ : ∃ W0, ((w.alloc (.cells #[.int .i64 s, .int .i64 lf, .slice A l.length c] 26)).alloc (.cells #[.int .i64 st, .int .i64 ct] 35)).alloc (.cells #[.int .i64 0, .int .i64 0, .slice none 0 0] 26) = W0 := ⟨_, rfl⟩
  have hs0 : W0.heap.size = w.heap.size + 3 := by rw [← hW0]; simp
  have hB0 : Below w.heap.size w W0 := by rw [← hW0]; exact ext_alloc (ext_alloc (ext_alloc (Below.refl _ _)))
  have a1 := heap_alloc_new w (.cells #[.int .i64 s, .int .i64 lf, .slice A l.length c] 26)
  have a2 := heap_alloc_new (w.alloc (.cells #[.int .i64 s, .int .i64 lf, .slice A l.length c] 26)) (.cells #[.int .i64 st, .int .i64 ct] 35)
  have a3 := heap_alloc_new ((w.alloc (.cells #[.int .i64 s, .int .i64 lf, .slice A l.length c] 26)).alloc (.cells #[.int .i64 st, .int .i64 ct] 35)) (.cells #[.int .i64 0, .int .i64 0, .slice none 0 0] 26)
  simp only [World.size_alloc] at a1 a2 a3
  have hrow : W0.heap[w.heap.size]? = some (.cells #[.int .i64 s, .int .i64 lf, .slice A l.length c] 26 (0, 0)) := by rw [← hW0]; exact (Below.heap_alloc _ _ _ (by simp; omega)).trans ((Below.heap_alloc _ _ _ (by simp)).trans a1)
  have hrow1 : W0.heap[w.heap.size + 1]? = some (.cells #[.int .i64 st, .int .i64 ct] 35 (0, 0)) := by rw [← hW0]; exact (Below.heap_alloc _ _ _ (by simp)).trans a2
  have hrow2 : W0.heap[w.heap.size + 1 + 1]? = some (.cells #[.int .i64 0, .int .i64 0, .slice none 0 0] 26 (0, 0)) := by rw [← hW0]; exact a3
  clear a1 a2 a3
  have HS0 := Lib.hid hs0
  have HRW : Hid (∀ w', Below W0.heap.size W0 w' → w'.heap[w.heap.size]? = some (.cells #[.int .i64 s, .int .i64 lf, .slice A l.length c] 26 (0, 0)) ∧ w'.heap[w.heap.size + 1]? = some (.cells #[.int .i64 st, .int .i64 ct] 35 (0, 0)) ∧ w'.heap[w.heap.size + 1 + 1]? = some (.cells #[.int .i64 0, .int .i64 0, .slice none 0 0] 26 (0, 0))) := fun w' hb => ⟨(hb.block _ (by omega)).trans hrow, (hb.block _ (by omega)).trans hrow1, (hb.block _ (by omega)).trans hrow2⟩
  obtain ⟨r0, r1, r2, _⟩ := blk3 hrow
  obtain ⟨e0, e1, _⟩ := blk2 hrow1
  clear hrow hrow1 hrow2 hs0
  obtain ⟨x, hx⟩ : ∃ x, Hid (checkT (s, lf, l) = x) := ⟨_, rfl⟩
  have HCK := Lib.hid (refCheck_any s lf A c l.length l x W0 rfl hx.out ((H1.out _ hB0).more (Bl.mono hB0.size)) hs hc hI)
  obtain ⟨⟨hs1, hs2⟩, hf1, hf2⟩ := hI
  obtain ⟨⟨ht1, ht2⟩, hd1, hd2⟩ := hI2
  go_enter Try.func18, Try.ntmps18
  go_wp2_with fail
  refine HCK.out.mono ?_
  rintro e w1 ⟨rfl, hB1⟩
  obtain ⟨g1, g2, g3⟩ := HRW.out _ hB1
  have hB2 : Below w.heap.size w w1 := hB0.trans (hB1.mono hB0.size)
  clear r0 r1 r2 e0 e1 HCK
  obtain ⟨r0, r1, r2, _⟩ := blk3 g1
  obtain ⟨e0, e1, _⟩ := blk2 g2
  obtain ⟨v0, v1, v2, vf⟩ := blk3 g3
  clear g1 g2
  by_cases hx0 : x = 0
  case neg =>
    have hx0' : (x != 0) = true := by simp [hx0]
    have hE : updE (s, lf, l) ss (st, ct) = x := by unfold updE; rw [hx.out, if_pos hx0]
    have hne : x ≠ 0 := hx0
    clear hx0
    have HE : Hid (updE (s, lf, l) ss (st, ct) = x) := hE
    have HT : Hid (updT (s, lf, l) ss (st, ct) = zTree) := updT_err (by rw [hE]; exact hne)
    clear hE hne
    go_wp2_with fail
    have hend := treeRetE_end (w := w) (lo := w.heap.size) g3 (by omega) hB2 zTree none 0 x (by simp [zTree]) (by decide) SlAt.nil_
    obtain ⟨hz, hret⟩ := hend
    change bodyPost _ _ _ _ _ (set3 w1 (w.heap.size + 1 + 1) (.int .i64 (zTree : Tr).1) (.int .i64 (zTree : Tr).2.1) (.slice none (zTree : Tr).2.2.length 0))
    generalize set3 w1 (w.heap.size + 1 + 1) (.int .i64 (zTree : Tr).1) (.int .i64 (zTree : Tr).2.1) (.slice none (zTree : Tr).2.2.length 0) = W3 at hz hret ⊢
    obtain ⟨z0, z1, z2, _⟩ := blk3 hz
    refine bodyPost_ret (v := .tuple #[.agg #[.int .i64 (zTree : Tr).1, .int .i64 (zTree : Tr).2.1, .slice none (zTree : Tr).2.2.length 0], .int .i64 x]) ?_ rfl ?_
    · simp [results, Try.results18, Try.f18, go_sem, z0, z1, z2, zTree]
    rw [HT.out, HE.out]
    exact hret
  have hx0' : (x != 0) = false := by simp [hx0]
  have hck : checkT (s, lf, l) = 0 := by rw [hx.out, hx0]
  obtain ⟨n', m, hsn, hlm, ht⟩ := checkT_TOk hck
  subst hsn hlm
  have HCK := Lib.hid hck
  clear hx0 hck
  by_cases hlen : ss.length = n'
  case neg =>
    have hlen' : ((ss.length : Int) != (n' : Int)) = true := by simp; omega
    have hE : updE ((n' : Int), (m : Int), l) ss (st, ct) = 6 := by unfold updE; rw [HCK.out, if_neg (by decide), if_pos (by simp; omega)]
    have hne : (6 : Int) ≠ 0 := by decide
    clear hlen
    have HE : Hid (updE ((n' : Int), (m : Int), l) ss (st, ct) = 6) := hE
    have HT : Hid (updT ((n' : Int), (m : Int), l) ss (st, ct) = zTree) := updT_err (by rw [hE]; exact hne)
    clear hE hne
    go_wp2_with fail
    have hend := treeRetE_end (w := w) (lo := w.heap.size) g3 (by omega) hB2 zTree none 0 6 (by simp [zTree]) (by decide) SlAt.nil_
    obtain ⟨hz, hret⟩ := hend
    change bodyPost _ _ _ _ _ (set3 w1 (w.heap.size + 1 + 1) (.int .i64 (zTree : Tr).1) (.int .i64 (zTree : Tr).2.1) (.slice none (zTree : Tr).2.2.length 0))
    generalize set3 w1 (w.heap.size + 1 + 1) (.int .i64 (zTree : Tr).1) (.int .i64 (zTree : Tr).2.1) (.slice none (zTree : Tr).2.2.length 0) = W3 at hz hret ⊢
    obtain ⟨z0, z1, z2, _⟩ := blk3 hz
    refine bodyPost_ret (v := .tuple #[.agg #[.int .i64 (zTree : Tr).1, .int .i64 (zTree : Tr).2.1, .slice none (zTree : Tr).2.2.length 0], .int .i64 6]) ?_ rfl ?_
    · simp [results, Try.results18, Try.f18, go_sem, z0, z1, z2, zTree]
    rw [HT.out, HE.out]
    exact hret
  have hlen' : ((ss.length : Int) != (n' : Int)) = false := by simp; omega
  have HLN := Lib.hid hlen
  have hEB : Hid ((st < 0 ∨ ct < 0 ∨ (n' : Int) < st ∨ (n' : Int) - st < ct) → updE ((n' : Int), (m : Int), l) ss (st, ct) = 2) := fun h => by unfold updE; rw [HCK.out, if_neg (by decide), if_neg (by simp; omega), if_pos h]
  by_cases c1 : st < 0
  case pos =>
    have hE := hEB.out (Or.inl c1)
    have hne : (2 : Int) ≠ 0 := by decide
    have HE : Hid (updE ((n' : Int), (m : Int), l) ss (st, ct) = 2) := hE
    have HT : Hid (updT ((n' : Int), (m : Int), l) ss (st, ct) = zTree) := updT_err (by rw [hE]; exact hne)
    clear hE hne
    go_wp2_with fail
    have hend := treeRetE_end (w := w) (lo := w.heap.size) g3 (by omega) hB2 zTree none 0 2 (by simp [zTree]) (by decide) SlAt.nil_
    obtain ⟨hz, hret⟩ := hend
    change bodyPost _ _ _ _ _ (set3 w1 (w.heap.size + 1 + 1) (.int .i64 (zTree : Tr).1) (.int .i64 (zTree : Tr).2.1) (.slice none (zTree : Tr).2.2.length 0))
    generalize set3 w1 (w.heap.size + 1 + 1) (.int .i64 (zTree : Tr).1) (.int .i64 (zTree : Tr).2.1) (.slice none (zTree : Tr).2.2.length 0) = W3 at hz hret ⊢
    obtain ⟨z0, z1, z2, _⟩ := blk3 hz
    refine bodyPost_ret (v := .tuple #[.agg #[.int .i64 (zTree : Tr).1, .int .i64 (zTree : Tr).2.1, .slice none (zTree : Tr).2.2.length 0], .int .i64 2]) ?_ rfl ?_
    · simp [results, Try.results18, Try.f18, go_sem, z0, z1, z2, zTree]
    rw [HT.out, HE.out]
    exact hret
  by_cases c2 : ct < 0
  case pos =>
    have hE := hEB.out (Or.inr (Or.inl c2))
    have hne : (2 : Int) ≠ 0 := by decide
    have HE : Hid (updE ((n' : Int), (m : Int), l) ss (st, ct) = 2) := hE
    have HT : Hid (updT ((n' : Int), (m : Int), l) ss (st, ct) = zTree) := updT_err (by rw [hE]; exact hne)
    clear hE hne
    go_wp2_with fail
    have hend := treeRetE_end (w := w) (lo := w.heap.size) g3 (by omega) hB2 zTree none 0 2 (by simp [zTree]) (by decide) SlAt.nil_
    obtain ⟨hz, hret⟩ := hend
    change bodyPost _ _ _ _ _ (set3 w1 (w.heap.size + 1 + 1) (.int .i64 (zTree : Tr).1) (.int .i64 (zTree : Tr).2.1) (.slice none (zTree : Tr).2.2.length 0))
    generalize set3 w1 (w.heap.size + 1 + 1) (.int .i64 (zTree : Tr).1) (.int .i64 (zTree : Tr).2.1) (.slice none (zTree : Tr).2.2.length 0) = W3 at hz hret ⊢
    obtain ⟨z0, z1, z2, _⟩ := blk3 hz
    refine bodyPost_ret (v := .tuple #[.agg #[.int .i64 (zTree : Tr).1, .int .i64 (zTree : Tr).2.1, .slice none (zTree : Tr).2.2.length 0], .int .i64 2]) ?_ rfl ?_
    · simp [results, Try.results18, Try.f18, go_sem, z0, z1, z2, zTree]
    rw [HT.out, HE.out]
    exact hret
  by_cases c3 : (n' : Int) < st
  case pos =>
    have hE := hEB.out (Or.inr (Or.inr (Or.inl c3)))
    have hne : (2 : Int) ≠ 0 := by decide
    have HE : Hid (updE ((n' : Int), (m : Int), l) ss (st, ct) = 2) := hE
    have HT : Hid (updT ((n' : Int), (m : Int), l) ss (st, ct) = zTree) := updT_err (by rw [hE]; exact hne)
    clear hE hne
    go_wp2_with fail
    have hend := treeRetE_end (w := w) (lo := w.heap.size) g3 (by omega) hB2 zTree none 0 2 (by simp [zTree]) (by decide) SlAt.nil_
    obtain ⟨hz, hret⟩ := hend
    change bodyPost _ _ _ _ _ (set3 w1 (w.heap.size + 1 + 1) (.int .i64 (zTree : Tr).1) (.int .i64 (zTree : Tr).2.1) (.slice none (zTree : Tr).2.2.length 0))
    generalize set3 w1 (w.heap.size + 1 + 1) (.int .i64 (zTree : Tr).1) (.int .i64 (zTree : Tr).2.1) (.slice none (zTree : Tr).2.2.length 0) = W3 at hz hret ⊢
    obtain ⟨z0, z1, z2, _⟩ := blk3 hz
    refine bodyPost_ret (v := .tuple #[.agg #[.int .i64 (zTree : Tr).1, .int .i64 (zTree : Tr).2.1, .slice none (zTree : Tr).2.2.length 0], .int .i64 2]) ?_ rfl ?_
    · simp [results, Try.results18, Try.f18, go_sem, z0, z1, z2, zTree]
    rw [HT.out, HE.out]
    exact hret
  have hn2' := ht.n2
  by_cases c4 : (n' : Int) - st < ct
  case pos =>
    have hE := hEB.out (Or.inr (Or.inr (Or.inr c4)))
    have hne : (2 : Int) ≠ 0 := by decide
    have HE : Hid (updE ((n' : Int), (m : Int), l) ss (st, ct) = 2) := hE
    have HT : Hid (updT ((n' : Int), (m : Int), l) ss (st, ct) = zTree) := updT_err (by rw [hE]; exact hne)
    clear hE hne
    go_wp2_with fail
    have hend := treeRetE_end (w := w) (lo := w.heap.size) g3 (by omega) hB2 zTree none 0 2 (by simp [zTree]) (by decide) SlAt.nil_
    obtain ⟨hz, hret⟩ := hend
    change bodyPost _ _ _ _ _ (set3 w1 (w.heap.size + 1 + 1) (.int .i64 (zTree : Tr).1) (.int .i64 (zTree : Tr).2.1) (.slice none (zTree : Tr).2.2.length 0))
    generalize set3 w1 (w.heap.size + 1 + 1) (.int .i64 (zTree : Tr).1) (.int .i64 (zTree : Tr).2.1) (.slice none (zTree : Tr).2.2.length 0) = W3 at hz hret ⊢
    obtain ⟨z0, z1, z2, _⟩ := blk3 hz
    refine bodyPost_ret (v := .tuple #[.agg #[.int .i64 (zTree : Tr).1, .int .i64 (zTree : Tr).2.1, .slice none (zTree : Tr).2.2.length 0], .int .i64 2]) ?_ rfl ?_
    · simp [results, Try.results18, Try.f18, go_sem, z0, z1, z2, zTree]
    rw [HT.out, HE.out]
    exact hret
  have HE : Hid (updE ((n' : Int), (m : Int), l) ss (st, ct) = 0) := by unfold updE; rw [Hid, HCK.out, if_neg (by decide), if_neg (by simp; omega), if_neg (by simp only []; omega)]
  have HT : Hid (updT ((n' : Int), (m : Int), l) ss (st, ct) = ((n' : Int), (m : Int), levels (updL ss m st ct (l.headD [])))) := updT_ok HE.out
  obtain ⟨sn, rfl⟩ : ∃ sn : Nat, st = sn := ⟨st.toNat, by omega⟩
  obtain ⟨cn, rfl⟩ : ∃ cn : Nat, ct = cn := ⟨ct.toNat, by omega⟩
  have hl0 := ht.ne
  obtain ⟨b, off, D, dc, rfl, hb, g0, hD, hdc1, hdc2⟩ := (H1.out _ hB2).sl hl0
  simp only [Nat.add_zero] at g0
  have hhd : Hid (l.headD [] = l[0]'hl0) := by
    rw [Hid]
    cases l with
    | nil => simp at hl0
    | cons x r => rfl
  have hat := ht.at_ 0 hl0
  obtain ⟨v, hv⟩ : ∃ v, Hid (v = l[0]'hl0) := ⟨_, rfl⟩
  rw [← hv.out] at g0 hD hdc1 hhd hat
  have hvl : Hid (v.length = leavesN n' m) := hat.1
  have hv1 : 1 ≤ v.length := by rw [hat.1]; exact hat.2.2.1
  have hv2 : v.length ≤ 4096 := by rw [hat.1]; exact hat.2.2.2
  obtain ⟨vl, hvq⟩ : ∃ vl, Hid (vl = v.length) := ⟨_, rfl⟩
  have hm1 := ht.m1
  have hm2 := ht.m2
  have hn1 := ht.n1
  have hb0 : b < w1.heap.size := Nat.lt_of_lt_of_le hb hB2.size
  have hki : (0 : Int) < l.length := by omega
  clear hat ht hEB c1 c2
  have hs1 := hB1.size
  have HD := Lib.hid (fun W (hb : Below w1.heap.size w1 W) => hD.below (w' := W) (hb.mono hB2.size))
  have hscn : sn + cn ≤ n' := by omega
  clear hD hdc1 hdc2 c3 c4
  have hsn : (sn : Int) ≤ 4096 := by omega
  have hcn : (cn : Int) ≤ 4096 := by omega
  have HM := Lib.hid (show 1 ≤ m from hm1)
  go_wp2_with fail
  have z1 : decide ((sn : Int) < 0) = false := by simp
  have z2 : decide ((cn : Int) < 0) = false := by simp
  have z3 : decide (n' < sn) = false := by simp; omega
  have z4 : decide ((n' : Int) - (sn : Int) < (cn : Int)) = false := by simp; omega
  simp only [z1, z2, z3, z4, Bool.or_false]
  clear z1 z2 z3 z4
  go_loopw [9, 10] (fun o u wr => ∃ (i : Nat) (B : Option Addr) (vc : Nat) (out : List Int), i ≤ v.length ∧ u = .int .i64 (i : Nat) ∧ o = .slice B out.length vc ∧ Below w1.heap.size w1 wr ∧ Hid (out.length ≤ i) ∧ Hid (out = (updL ss m (sn : Int) (cn : Int) v).take i) ∧ Hid (OwnW encU64 wr w1.heap.size w1.heap.size 58 (.slice B out.length vc) out)) (fun _ u _ => v.length - (intOf u).toNat)
  case atStart => exact ⟨0, none, 0, [], by omega, rfl, rfl, Below.refl _ _, Nat.le_refl _, by simp [Hid], OwnW.nil_⟩
  case round =>
    obtain ⟨wo, rfl⟩ : ∃ wo : World, wo = wr := ⟨_, rfl⟩
    obtain ⟨i, B, vc, out, hiv, rfl, rfl, hBw, hlen, hout, hown⟩ := hrel
    have hB5 : Below w.heap.size w wo := hB2.trans (hBw.mono hB2.size)
    have hsz := hBw.size
    obtain ⟨g1, g2, g3⟩ := HRW.out wo (hB1.trans (hBw.mono hs1))
    clear r0 r1 r2 e0 e1 v0 v1 v2 vf
    obtain ⟨r0, r1, r2, _⟩ := blk3 g1
    obtain ⟨e0, e1, _⟩ := blk2 g2
    have g0' : wo.cell? ⟨b, off, none⟩ = some (.slice D v.length dc) := (hBw.cell (p := ⟨b, off, none⟩) hb0).trans g0
    clear g1 g2 g0
    by_cases hlt : i < v.length
    · have hli : (i : Int) < v.length := by omega
      have hi0 : (0 : Int) ≤ i := by omega
      have hst := Lib.hid (updL_take_succ (ss := ss) (m := m) (sn := (sn : Int)) (cn := (cn : Int)) hlt)
      have him := leaf_lt (n := n') HM.out (by rw [← hvl.out]; exact hlt)
      obtain ⟨bD, offD, rfl, hbD, k0, ku⟩ := (HD.out wo hBw).u64 hlt
      obtain ⟨dv, hdv⟩ : ∃ dv, Hid (dv = v[i]'hlt) := ⟨_, rfl⟩
      rw [← hdv.out] at k0 ku hst
      have hdu : Hid (U64 dv) := ku
      clear ku
      obtain ⟨q, hq⟩ : ∃ q, i * m = q := ⟨_, rfl⟩
      have hq2 : (i : Int) * (m : Int) = q := by rw [← hq]; simp
      have hq3 : ((i : Int) + 1) * (m : Int) = (q : Int) + (m : Int) := by rw [Int.add_mul, hq2]; simp
      have hin : Hid (inLeaf m (sn : Int) (cn : Int) i = decide ((0 : Int) < cn ∧ (sn : Int) < (q : Int) + m ∧ (q : Int) < (sn : Int) + cn)) := by
        rw [Hid, inLeaf, ← hq2]
        have e : ((i + 1 : Nat) : Int) * (m : Int) = (i : Int) * m + m := by rw [hq2, ← hq3]; simp
        rw [e]
      have HQM := Lib.hid hq
      rw [hq] at him
      have hiq : (i : Int) ≤ 4096 := by omega
      clear hq
      by_cases hyes : (0 : Int) < cn ∧ (sn : Int) < (q : Int) + m ∧ (q : Int) < (sn : Int) + cn
      · obtain ⟨y1, y2, y3⟩ := hyes
        rw [hin.out, if_pos (by simp; omega)] at hst
        have hSC := Lib.hid (refSectors11_any A2 c2 ss.length ss m i wo rfl (by have := HLN.out; have := HQM.out; omega) ((H2.out wo hB5).more (Bl.mono hB5.size)) (by rw [HLN.out]; rw [HLN.out] at hc2; exact hc2) (by have := HLN.out; omega) (by omega))
        rw [HLN.out] at hSC
        go_wp2_with fail
        refine hSC.out.mono ?_
        rintro e wx ⟨⟨A3, c3, rfl, q2⟩, rfl⟩
        have hll : (leafAt ss m i).length ≤ 100000 := by rw [leafAt_len]; omega
        obtain ⟨d, hd⟩ : ∃ d, Hid (digS (leafAt ss m i) = d) := ⟨_, rfl⟩
        have hdr : Hid (U64 d) := by rw [← hd.out]; exact dig_range _
        have HDD := Lib.hid (refSectors_dig A3 c3 _ (leafAt ss m i) d wx rfl hd.out q2 hll)
        rw [hd.out] at hst
        clear q2 hll hSC
        go_wp2_with fail
        refine HDD.out.mono ?_
        rintro e wp ⟨rfl, hb3⟩
        have hsp := hb3.size
        have hBp : Below w1.heap.size w1 wp := ext_trans hBw hb3
        have hownW := Lib.hid (OwnW.below hown.out hb3)
        clear HDD r0 r1 r2 e0 e1 k0 g0'
        have HO1 := Lib.hid (Own.alloc hownW.out (fun _ h => h.1.2) (.cells #[.int .u64 d] 58))
        have HRD : Hid (encU64.rd (wp.alloc (.cells #[.int .u64 d] 58)) (fun b => Nw w1.heap.size wp.heap.size b ∧ (Value.slice B out.length vc).ownBlock ≠ some b) [.int .u64 d] d) := ⟨rfl, hdr.out⟩
        go_wp2_with (at_builtin; refine Hid.out ?_)
        change wpList _ _ _ _ _ _
        refine wpList_app1 (E := encU64) tyU64s rfl _ _ rfl rfl HO1.out d _ rfl HRD.out (heap_alloc_new _ _) (fun _ h => by simp; have := h.1.2; omega) (by simp; omega) (by have := hlen.out; unfold maxLen; omega) (by have := hlen.out; omega) ?_
        intro A' c' w5 hown5 hg5 hat5
        have hlt1 : ∀ g, (Value.slice B out.length vc).ownBlock = some g → g < wp.heap.size := fun g hg => (hownW.out.lt g hg).2
        have hok5 := Lib.hid (OwnW.app (hown5.more (S' := fun b => Nw w1.heap.size (wp.alloc (.cells #[.int .u64 d] 58)).heap.size b ∧ (Value.slice B out.length vc).ownBlock ≠ some b) (fun b hb => ⟨hb.1.mono (Nat.le_refl _) (by simp), hb.2⟩) (OwnW_new hown5 hat5 hlt1 (by simp))) hg5 hat5)
        have hB5 := Lib.hid ((ext_alloc (o := .cells #[.int .u64 d] 58) hBp).grown hg5 (by simp; omega) (fun g h => ((hownW.out.lt g h).1)))
        clear hown5 hg5 hat5 hlt1 HO1 HRD
        go_wp2
        go_roundw
        case rel => exact ⟨i + 1, A', c', out ++ [d], by omega, by go_num, by simp, hB5.out, by have := hlen.out; simp [Hid]; omega, by rw [Hid, hst.out, ← hout.out], by have := hok5.out; simpa [Hid] using this⟩
        case measure => simp [intOf]; omega
      · rw [hin.out, if_neg (by simp; omega)] at hst
        obtain ⟨d, hd⟩ : ∃ d, d = dv := ⟨_, rfl⟩
        rw [← hd] at k0 hst hdu
        have hdr := Lib.hid hdu.out
        clear hd
        obtain ⟨wp, rfl⟩ : ∃ wp : World, wp = wo := ⟨_, rfl⟩
        have hBp := hBw
        have hownW := Lib.hid hown.out
        by_cases y1 : (0 : Int) < cn
        · by_cases y2 : (sn : Int) < (q : Int) + m
          · have y3 : ¬ (q : Int) < (sn : Int) + cn := fun h => hyes ⟨y1, y2, h⟩
            clear hyes
            have HO1 := Lib.hid (Own.alloc hownW.out (fun _ h => h.1.2) (.cells #[.int .u64 d] 58))
            have HRD : Hid (encU64.rd (wp.alloc (.cells #[.int .u64 d] 58)) (fun b => Nw w1.heap.size wp.heap.size b ∧ (Value.slice B out.length vc).ownBlock ≠ some b) [.int .u64 d] d) := ⟨rfl, hdr.out⟩
            go_wp2_with (at_builtin; refine Hid.out ?_)
            change wpList _ _ _ _ _ _
            refine wpList_app1 (E := encU64) tyU64s rfl _ _ rfl rfl HO1.out d _ rfl HRD.out (heap_alloc_new _ _) (fun _ h => by simp; have := h.1.2; omega) (by simp; omega) (by have := hlen.out; unfold maxLen; omega) (by have := hlen.out; omega) ?_
            intro A' c' w5 hown5 hg5 hat5
            have hlt1 : ∀ g, (Value.slice B out.length vc).ownBlock = some g → g < wp.heap.size := fun g hg => (hownW.out.lt g hg).2
            have hok5 := Lib.hid (OwnW.app (hown5.more (S' := fun b => Nw w1.heap.size (wp.alloc (.cells #[.int .u64 d] 58)).heap.size b ∧ (Value.slice B out.length vc).ownBlock ≠ some b) (fun b hb => ⟨hb.1.mono (Nat.le_refl _) (by simp), hb.2⟩) (OwnW_new hown5 hat5 hlt1 (by simp))) hg5 hat5)
            have hB5 := Lib.hid ((ext_alloc (o := .cells #[.int .u64 d] 58) hBp).grown hg5 (by simp; omega) (fun g h => ((hownW.out.lt g h).1)))
            clear hown5 hg5 hat5 hlt1 HO1 HRD
            go_wp2
            go_roundw
            case rel => exact ⟨i + 1, A', c', out ++ [d], by omega, by go_num, by simp, hB5.out, by have := hlen.out; simp [Hid]; omega, by rw [Hid, hst.out, ← hout.out], by have := hok5.out; simpa [Hid] using this⟩
            case measure => simp [intOf]; omega
          · clear hyes
            have HO1 := Lib.hid (Own.alloc hownW.out (fun _ h => h.1.2) (.cells #[.int .u64 d] 58))
            have HRD : Hid (encU64.rd (wp.alloc (.cells #[.int .u64 d] 58)) (fun b => Nw w1.heap.size wp.heap.size b ∧ (Value.slice B out.length vc).ownBlock ≠ some b) [.int .u64 d] d) := ⟨rfl, hdr.out⟩
            go_wp2_with (at_builtin; refine Hid.out ?_)
            change wpList _ _ _ _ _ _
            refine wpList_app1 (E := encU64) tyU64s rfl _ _ rfl rfl HO1.out d _ rfl HRD.out (heap_alloc_new _ _) (fun _ h => by simp; have := h.1.2; omega) (by simp; omega) (by have := hlen.out; unfold maxLen; omega) (by have := hlen.out; omega) ?_
            intro A' c' w5 hown5 hg5 hat5
            have hlt1 : ∀ g, (Value.slice B out.length vc).ownBlock = some g → g < wp.heap.size := fun g hg => (hownW.out.lt g hg).2
            have hok5 := Lib.hid (OwnW.app (hown5.more (S' := fun b => Nw w1.heap.size (wp.alloc (.cells #[.int .u64 d] 58)).heap.size b ∧ (Value.slice B out.length vc).ownBlock ≠ some b) (fun b hb => ⟨hb.1.mono (Nat.le_refl _) (by simp), hb.2⟩) (OwnW_new hown5 hat5 hlt1 (by simp))) hg5 hat5)
            have hB5 := Lib.hid ((ext_alloc (o := .cells #[.int .u64 d] 58) hBp).grown hg5 (by simp; omega) (fun g h => ((hownW.out.lt g h).1)))
            clear hown5 hg5 hat5 hlt1 HO1 HRD
            go_wp2
            go_roundw
            case rel => exact ⟨i + 1, A', c', out ++ [d], by omega, by go_num, by simp, hB5.out, by have := hlen.out; simp [Hid]; omega, by rw [Hid, hst.out, ← hout.out], by have := hok5.out; simpa [Hid] using this⟩
            case measure => simp [intOf]; omega
        · clear hyes
          have HO1 := Lib.hid (Own.alloc hownW.out (fun _ h => h.1.2) (.cells #[.int .u64 d] 58))
          have HRD : Hid (encU64.rd (wp.alloc (.cells #[.int .u64 d] 58)) (fun b => Nw w1.heap.size wp.heap.size b ∧ (Value.slice B out.length vc).ownBlock ≠ some b) [.int .u64 d] d) := ⟨rfl, hdr.out⟩
          go_wp2_with (at_builtin; refine Hid.out ?_)
          change wpList _ _ _ _ _ _
          refine wpList_app1 (E := encU64) tyU64s rfl _ _ rfl rfl HO1.out d _ rfl HRD.out (heap_alloc_new _ _) (fun _ h => by simp; have := h.1.2; omega) (by simp; omega) (by have := hlen.out; unfold maxLen; omega) (by have := hlen.out; omega) ?_
          intro A' c' w5 hown5 hg5 hat5
          have hlt1 : ∀ g, (Value.slice B out.length vc).ownBlock = some g → g < wp.heap.size := fun g hg => (hownW.out.lt g hg).2
          have hok5 := Lib.hid (OwnW.app (hown5.more (S' := fun b => Nw w1.heap.size (wp.alloc (.cells #[.int .u64 d] 58)).heap.size b ∧ (Value.slice B out.length vc).ownBlock ≠ some b) (fun b hb => ⟨hb.1.mono (Nat.le_refl _) (by simp), hb.2⟩) (OwnW_new hown5 hat5 hlt1 (by simp))) hg5 hat5)
          have hB5 := Lib.hid ((ext_alloc (o := .cells #[.int .u64 d] 58) hBp).grown hg5 (by simp; omega) (fun g h => ((hownW.out.lt g h).1)))
          clear hown5 hg5 hat5 hlt1 HO1 HRD
          go_wp2
          go_roundw
          case rel => exact ⟨i + 1, A', c', out ++ [d], by omega, by go_num, by simp, hB5.out, by have := hlen.out; simp [Hid]; omega, by rw [Hid, hst.out, ← hout.out], by have := hok5.out; simpa [Hid] using this⟩
          case measure => simp [intOf]; omega
    · have hkk : i = v.length := by omega
      have hno : ¬ (i : Int) < v.length := by omega
      obtain ⟨_, p1, p2, p3⟩ := hown.out.parts
      have hdone : Hid (out = updL ss m (sn : Int) (cn : Int) v) := by rw [Hid, hout.out, hkk, List.take_of_length_le (by rw [updL_len]; exact Nat.le_refl _)]
      have hol : out.length = v.length := by rw [hdone.out, updL_len]
      have HT2 : Hid (updT ((n' : Int), (m : Int), l) ss ((sn : Int), (cn : Int)) = ((n' : Int), (m : Int), levels out)) := by rw [Hid, HT.out, hhd.out, hdone.out]
      have HAB := Lib.hid (refTree_anyS B vc out.length (Nw w1.heap.size wo.heap.size) (n' : Int) (m : Int) out wo rfl (by omega) (fun b hb => hb.2) ⟨p1, p2⟩ p3 (by omega))
      have hs0 := HS0.out
      clear p3 hol hs0 hkk
      go_wp2_with fail
      refine HAB.out.mono ?_
      rintro e w4 ⟨A4, c4, rfl, t1, t2, t3, t4⟩
      have hsb := HS0.out
      have hrow4 : w4.heap[w.heap.size + 1 + 1]? = some (.cells #[.int .i64 0, .int .i64 0, .slice none 0 0] 26 (0, 0)) := (t4.block _ (by omega)).trans g3
      obtain ⟨u0, u1, u2, uf⟩ := blk3 hrow4
      have hB6 : Below w.heap.size w w4 := hB5.trans (t4.mono hB5.size)
      have hgs := t4.size
      have T3 := Lib.hid (t3.more (S' := fun b => Nw w.heap.size w4.heap.size b ∧ b ≠ w.heap.size + 1 + 1) (fun b hb => by
        have h5 := hB5.size
        rcases hb with hb | hb
        · exact ⟨⟨by have := hb.1; omega, by have := hb.2; omega⟩, by have := hb.1; omega⟩
        · exact ⟨⟨by have := hb.1; omega, hb.2⟩, by have := hb.1; omega⟩))
      clear t3 t4 HAB hsb
      go_wp2_with fail
      have hend := treeRetE_end (w := w) (lo := w.heap.size) hrow4 (by omega) hB6 ((n' : Int), (m : Int), levels out) A4 c4 0 t1 t2 T3.out
      obtain ⟨hz, hret⟩ := hend
      change bodyPost _ _ _ _ _ (set3 w4 (w.heap.size + 1 + 1) (.int .i64 (((n' : Int), (m : Int), levels out) : Tr).1) (.int .i64 (((n' : Int), (m : Int), levels out) : Tr).2.1) (.slice A4 (((n' : Int), (m : Int), levels out) : Tr).2.2.length c4))
      generalize set3 w4 (w.heap.size + 1 + 1) (.int .i64 (((n' : Int), (m : Int), levels out) : Tr).1) (.int .i64 (((n' : Int), (m : Int), levels out) : Tr).2.1) (.slice A4 (((n' : Int), (m : Int), levels out) : Tr).2.2.length c4) = W3 at hz hret ⊢
      obtain ⟨z0, z1, z2, _⟩ := blk3 hz
      refine bodyPost_ret (v := .tuple #[.agg #[.int .i64 (((n' : Int), (m : Int), levels out) : Tr).1, .int .i64 (((n' : Int), (m : Int), levels out) : Tr).2.1, .slice A4 (((n' : Int), (m : Int), levels out) : Tr).2.2.length c4], .int .i64 0]) ?_ rfl ?_
      · simp [results, Try.results18, Try.f18, go_sem, z0, z1, z2, zTree]
      rw [HT2.out, HE.out]
      exact hret
end Go.Proofs.Ythneomehfmjbkaa

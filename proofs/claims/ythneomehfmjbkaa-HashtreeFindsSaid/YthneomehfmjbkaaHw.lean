/-
  The code's Update: the walk.
-/
import Derived.Test.YthneomehfmjbkaaHv
set_option linter.unusedVariables false
set_option linter.unusedSimpArgs false
set_option linter.unusedSectionVars false
set_option linter.unnecessarySimpa false
namespace Go.Proofs.Ythneomehfmjbkaa
open Go.RowKit Go.Shelf
attribute [local go_sem] Oper.semAt_some

theorem updT_err {t : Tr} {l : List Sec} {e : Ext} (h : updE t l e ≠ 0) : updT t l e = zTree := by unfold updT; rw [if_neg h]
theorem updT_ok {t : Tr} {l : List Sec} {e : Ext} (h : updE t l e = 0) : updT t l e = (t.1, t.2.1, levels (updL l t.2.1.toNat e.1 e.2 (t.2.2.headD []))) := by unfold updT; rw [if_pos h]
set_option maxHeartbeats 4000000 in
theorem update_any (s lf : Int) (A A2 : Option Addr) (c c2 n n2 : Nat) (l : List (List Int)) (ss : List Sec) (st ct : Int) (w : World) (hn : l.length = n) (hn2 : ss.length = n2) (h1 : SlAt (encSl encU64) w (Bl w.heap.size) A l) (h2 : SlAt encSec w (Bl w.heap.size) A2 ss) (hs : n ≤ 100000) (hc : n ≤ c ∧ c ≤ maxLen) (hc2 : n2 ≤ c2 ∧ c2 ≤ maxLen) (hI : I64 s ∧ I64 lf) (hI2 : I64 st ∧ I64 ct) :
    Calls Try.prog 17 #[.agg #[.int .i64 s, .int .i64 lf, .slice A n c], .slice A2 n2 c2, .agg #[.int .i64 st, .int .i64 ct]] w (TreeRetE (updT (s, lf, l) ss (st, ct)) (updE (s, lf, l) ss (st, ct)) w.heap.size w) := by
  subst hn hn2
  have H1 : Hid (∀ w', Below w.heap.size w w' → SlAt (encSl encU64) w' (Bl w.heap.size) A l) := fun w' hb => h1.below hb
  have H2 : Hid (∀ w', Below w.heap.size w w' → SlAt encSec w' (Bl w.heap.size) A2 ss) := fun w' hb => h2.below hb
  clear h1 h2
  obtain ⟨W0, hW0⟩ : ∃ W0, ((w.alloc (.cells #[.int .i64 s, .int .i64 lf, .slice A l.length c] 26)).alloc (.cells #[.int .i64 st, .int .i64 ct] 35)).alloc (.cells #[.int .i64 0, .int .i64 0, .slice none 0 0] 26) = W0 := ⟨_, rfl⟩
  have hs0 : W0.heap.size = w.heap.size + 3 := by rw [← hW0]; simp
  have hB0 : Below w.heap.size w W0 := by rw [← hW0]; exact ext_alloc (ext_alloc (ext_alloc (Below.refl _ _)))
  have a1 := heap_alloc_new w (.cells #[.int .i64 s, .int .i64 lf, .slice A l.length c] 26)
  have a2 := heap_alloc_new (w.alloc (.cells #[.int .i64 s, .int .i64 lf, .slice A l.length c] 26)) (.cells #[.int .i64 st, .int .i64 ct] 35)
  have a3 := heap_alloc_new ((w.alloc (.cells #[.int .i64 s, .int .i64 lf, .slice A l.length c] 26)).alloc (.cells #[.int .i64 st, .int .i64 ct] 35)) (.cells #[.int .i64 0, .int .i64 0, .slice none 0 0] 26)
  simp only [World.size_alloc] at a1 a2 a3
  have hrow : W0.heap[w.heap.size]? = some (.cells #[.int .i64 s, .int .i64 lf, .slice A l.length c] 26 (0, 0)) := by rw [← hW0]; exact (Below.heap_alloc _ _ _ (by simp; omega)).trans ((Below.heap_alloc _ _ _ (by simp)).trans a1)
  have hrow1 : W0.heap[w.heap.size + 1]? = some (.cells #[.int .i64 st, .int .i64 ct] 35 (0, 0)) := by rw [← hW0]; exact (Below.heap_alloc _ _ _ (by simp)).trans a2
  have hrow2 : W0.heap[w.heap.size + 1 + 1]? = some (.cells #[.int .i64 0, .int .i64 0, .slice none 0 0] 26 (0, 0)) := by rw [← hW0]; exact a3
  clear a1 a2 a3
  have HS0 := Lib.hid hs0
  have HRW : Hid (∀ w', Below W0.heap.size W0 w' → w'.heap[w.heap.size]? = some (.cells #[.int .i64 s, .int .i64 lf, .slice A l.length c] 26 (0, 0)) ∧ w'.heap[w.heap.size + 1]? = some (.cells #[.int .i64 st, .int .i64 ct] 35 (0, 0)) ∧ w'.heap[w.heap.size + 1 + 1]? = some (.cells #[.int .i64 0, .int .i64 0, .slice none 0 0] 26 (0, 0))) := fun w' hb => ⟨(hb.block _ (by omega)).trans hrow, (hb.block _ (by omega)).trans hrow1, (hb.block _ (by omega)).trans hrow2⟩
  obtain ⟨r0, r1, r2, _⟩ := blk3 hrow
  obtain ⟨e0, e1, _⟩ := blk2 hrow1
  clear hrow hrow1 hrow2 hs0
  obtain ⟨x, hx⟩ : ∃ x, Hid (checkT (s, lf, l) = x) := ⟨_, rfl⟩
  have HCK := Lib.hid (check_any s lf A c l.length l x W0 rfl hx.out ((H1.out _ hB0).more (Bl.mono hB0.size)) hs hc hI)
  obtain ⟨⟨hs1, hs2⟩, hf1, hf2⟩ := hI
  obtain ⟨⟨ht1, ht2⟩, hd1, hd2⟩ := hI2
  go_enter Try.func17, Try.ntmps17
  go_wp2_with fail
  refine HCK.out.mono ?_
  rintro e w1 ⟨rfl, hB1⟩
  obtain ⟨g1, g2, g3⟩ := HRW.out _ hB1
  have hB2 : Below w.heap.size w w1 := hB0.trans (hB1.mono hB0.size)
  clear r0 r1 r2 e0 e1 HCK
  obtain ⟨r0, r1, r2, _⟩ := blk3 g1
  obtain ⟨e0, e1, _⟩ := blk2 g2
  obtain ⟨v0, v1, v2, vf⟩ := blk3 g3
  clear g1 g2
  by_cases hx0 : x = 0
  case neg =>
    have hx0' : (x != 0) = true := by simp [hx0]
    have hE : updE (s, lf, l) ss (st, ct) = x := by unfold updE; rw [hx.out, if_pos hx0]
    have hne : x ≠ 0 := hx0
    clear hx0
    have HE : Hid (updE (s, lf, l) ss (st, ct) = x) := hE
    have HT : Hid (updT (s, lf, l) ss (st, ct) = zTree) := updT_err (by rw [hE]; exact hne)
    clear hE hne
    go_wp2_with fail
    have hend := treeRetE_end (w := w) (lo := w.heap.size) g3 (by omega) hB2 zTree none 0 x (by simp [zTree]) (by decide) SlAt.nil_
    obtain ⟨hz, hret⟩ := hend
    change bodyPost _ _ _ _ _ (set3 w1 (w.heap.size + 1 + 1) (.int .i64 (zTree : Tr).1) (.int .i64 (zTree : Tr).2.1) (.slice none (zTree : Tr).2.2.length 0))
    generalize set3 w1 (w.heap.size + 1 + 1) (.int .i64 (zTree : Tr).1) (.int .i64 (zTree : Tr).2.1) (.slice none (zTree : Tr).2.2.length 0) = W3 at hz hret ⊢
    obtain ⟨z0, z1, z2, _⟩ := blk3 hz
    refine bodyPost_ret (v := .tuple #[.agg #[.int .i64 (zTree : Tr).1, .int .i64 (zTree : Tr).2.1, .slice none (zTree : Tr).2.2.length 0], .int .i64 x]) ?_ rfl ?_
    · simp [results, Try.results17, Try.f17, go_sem, z0, z1, z2, zTree]
    rw [HT.out, HE.out]
    exact hret
  have hx0' : (x != 0) = false := by simp [hx0]
  have hck : checkT (s, lf, l) = 0 := by rw [hx.out, hx0]
  obtain ⟨n', m, hsn, hlm, ht⟩ := checkT_TOk hck
  subst hsn hlm
  have HCK := Lib.hid hck
  clear hx0 hck
  by_cases hlen : ss.length = n'
  case neg =>
    have hlen' : ((ss.length : Int) != (n' : Int)) = true := by simp; omega
    have hE : updE ((n' : Int), (m : Int), l) ss (st, ct) = 6 := by unfold updE; rw [HCK.out, if_neg (by decide), if_pos (by simp; omega)]
    have hne : (6 : Int) ≠ 0 := by decide
    clear hlen
    have HE : Hid (updE ((n' : Int), (m : Int), l) ss (st, ct) = 6) := hE
    have HT : Hid (updT ((n' : Int), (m : Int), l) ss (st, ct) = zTree) := updT_err (by rw [hE]; exact hne)
    clear hE hne
    go_wp2_with fail
    have hend := treeRetE_end (w := w) (lo := w.heap.size) g3 (by omega) hB2 zTree none 0 6 (by simp [zTree]) (by decide) SlAt.nil_
    obtain ⟨hz, hret⟩ := hend
    change bodyPost _ _ _ _ _ (set3 w1 (w.heap.size + 1 + 1) (.int .i64 (zTree : Tr).1) (.int .i64 (zTree : Tr).2.1) (.slice none (zTree : Tr).2.2.length 0))
    generalize set3 w1 (w.heap.size + 1 + 1) (.int .i64 (zTree : Tr).1) (.int .i64 (zTree : Tr).2.1) (.slice none (zTree : Tr).2.2.length 0) = W3 at hz hret ⊢
    obtain ⟨z0, z1, z2, _⟩ := blk3 hz
    refine bodyPost_ret (v := .tuple #[.agg #[.int .i64 (zTree : Tr).1, .int .i64 (zTree : Tr).2.1, .slice none (zTree : Tr).2.2.length 0], .int .i64 6]) ?_ rfl ?_
    · simp [results, Try.results17, Try.f17, go_sem, z0, z1, z2, zTree]
    rw [HT.out, HE.out]
    exact hret
  have hlen' : ((ss.length : Int) != (n' : Int)) = false := by simp; omega
  have HLN := Lib.hid hlen
  have hEB : Hid ((st < 0 ∨ ct < 0 ∨ (n' : Int) < st ∨ (n' : Int) - st < ct) → updE ((n' : Int), (m : Int), l) ss (st, ct) = 2) := fun h => by unfold updE; rw [HCK.out, if_neg (by decide), if_neg (by simp; omega), if_pos h]
  by_cases c1 : st < 0
  case pos =>
    have hE := hEB.out (Or.inl c1)
    have hne : (2 : Int) ≠ 0 := by decide
    have HE : Hid (updE ((n' : Int), (m : Int), l) ss (st, ct) = 2) := hE
    have HT : Hid (updT ((n' : Int), (m : Int), l) ss (st, ct) = zTree) := updT_err (by rw [hE]; exact hne)
    clear hE hne
    go_wp2_with fail
    have hend := treeRetE_end (w := w) (lo := w.heap.size) g3 (by omega) hB2 zTree none 0 2 (by simp [zTree]) (by decide) SlAt.nil_
    obtain ⟨hz, hret⟩ := hend
    change bodyPost _ _ _ _ _ (set3 w1 (w.heap.size + 1 + 1) (.int .i64 (zTree : Tr).1) (.int .i64 (zTree : Tr).2.1) (.slice none (zTree : Tr).2.2.length 0))
    generalize set3 w1 (w.heap.size + 1 + 1) (.int .i64 (zTree : Tr).1) (.int .i64 (zTree : Tr).2.1) (.slice none (zTree : Tr).2.2.length 0) = W3 at hz hret ⊢
    obtain ⟨z0, z1, z2, _⟩ := blk3 hz
    refine bodyPost_ret (v := .tuple #[.agg #[.int .i64 (zTree : Tr).1, .int .i64 (zTree : Tr).2.1, .slice none (zTree : Tr).2.2.length 0], .int .i64 2]) ?_ rfl ?_
    · simp [results, Try.results17, Try.f17, go_sem, z0, z1, z2, zTree]
    rw [HT.out, HE.out]
    exact hret
  by_cases c2 : ct < 0
  case pos =>
    have hE := hEB.out (Or.inr (Or.inl c2))
    have hne : (2 : Int) ≠ 0 := by decide
    have HE : Hid (updE ((n' : Int), (m : Int), l) ss (st, ct) = 2) := hE
    have HT : Hid (updT ((n' : Int), (m : Int), l) ss (st, ct) = zTree) := updT_err (by rw [hE]; exact hne)
    clear hE hne
    go_wp2_with fail
    have hend := treeRetE_end (w := w) (lo := w.heap.size) g3 (by omega) hB2 zTree none 0 2 (by simp [zTree]) (by decide) SlAt.nil_
    obtain ⟨hz, hret⟩ := hend
    change bodyPost _ _ _ _ _ (set3 w1 (w.heap.size + 1 + 1) (.int .i64 (zTree : Tr).1) (.int .i64 (zTree : Tr).2.1) (.slice none (zTree : Tr).2.2.length 0))
    generalize set3 w1 (w.heap.size + 1 + 1) (.int .i64 (zTree : Tr).1) (.int .i64 (zTree : Tr).2.1) (.slice none (zTree : Tr).2.2.length 0) = W3 at hz hret ⊢
    obtain ⟨z0, z1, z2, _⟩ := blk3 hz
    refine bodyPost_ret (v := .tuple #[.agg #[.int .i64 (zTree : Tr).1, .int .i64 (zTree : Tr).2.1, .slice none (zTree : Tr).2.2.length 0], .int .i64 2]) ?_ rfl ?_
    · simp [results, Try.results17, Try.f17, go_sem, z0, z1, z2, zTree]
    rw [HT.out, HE.out]
    exact hret
  by_cases c3 : (n' : Int) < st
  case pos =>
    have hE := hEB.out (Or.inr (Or.inr (Or.inl c3)))
    have hne : (2 : Int) ≠ 0 := by decide
    have HE : Hid (updE ((n' : Int), (m : Int), l) ss (st, ct) = 2) := hE
    have HT : Hid (updT ((n' : Int), (m : Int), l) ss (st, ct) = zTree) := updT_err (by rw [hE]; exact hne)
    clear hE hne
    go_wp2_with fail
    have hend := treeRetE_end (w := w) (lo := w.heap.size) g3 (by omega) hB2 zTree none 0 2 (by simp [zTree]) (by decide) SlAt.nil_
    obtain ⟨hz, hret⟩ := hend
    change bodyPost _ _ _ _ _ (set3 w1 (w.heap.size + 1 + 1) (.int .i64 (zTree : Tr).1) (.int .i64 (zTree : Tr).2.1) (.slice none (zTree : Tr).2.2.length 0))
    generalize set3 w1 (w.heap.size + 1 + 1) (.int .i64 (zTree : Tr).1) (.int .i64 (zTree : Tr).2.1) (.slice none (zTree : Tr).2.2.length 0) = W3 at hz hret ⊢
    obtain ⟨z0, z1, z2, _⟩ := blk3 hz
    refine bodyPost_ret (v := .tuple #[.agg #[.int .i64 (zTree : Tr).1, .int .i64 (zTree : Tr).2.1, .slice none (zTree : Tr).2.2.length 0], .int .i64 2]) ?_ rfl ?_
    · simp [results, Try.results17, Try.f17, go_sem, z0, z1, z2, zTree]
    rw [HT.out, HE.out]
    exact hret
  have hn2' := ht.n2
  by_cases c4 : (n' : Int) - st < ct
  case pos =>
    have hE := hEB.out (Or.inr (Or.inr (Or.inr c4)))
    have hne : (2 : Int) ≠ 0 := by decide
    have HE : Hid (updE ((n' : Int), (m : Int), l) ss (st, ct) = 2) := hE
    have HT : Hid (updT ((n' : Int), (m : Int), l) ss (st, ct) = zTree) := updT_err (by rw [hE]; exact hne)
    clear hE hne
    go_wp2_with fail
    have hend := treeRetE_end (w := w) (lo := w.heap.size) g3 (by omega) hB2 zTree none 0 2 (by simp [zTree]) (by decide) SlAt.nil_
    obtain ⟨hz, hret⟩ := hend
    change bodyPost _ _ _ _ _ (set3 w1 (w.heap.size + 1 + 1) (.int .i64 (zTree : Tr).1) (.int .i64 (zTree : Tr).2.1) (.slice none (zTree : Tr).2.2.length 0))
    generalize set3 w1 (w.heap.size + 1 + 1) (.int .i64 (zTree : Tr).1) (.int .i64 (zTree : Tr).2.1) (.slice none (zTree : Tr).2.2.length 0) = W3 at hz hret ⊢
    obtain ⟨z0, z1, z2, _⟩ := blk3 hz
    refine bodyPost_ret (v := .tuple #[.agg #[.int .i64 (zTree : Tr).1, .int .i64 (zTree : Tr).2.1, .slice none (zTree : Tr).2.2.length 0], .int .i64 2]) ?_ rfl ?_
    · simp [results, Try.results17, Try.f17, go_sem, z0, z1, z2, zTree]
    rw [HT.out, HE.out]
    exact hret
  have HE : Hid (updE ((n' : Int), (m : Int), l) ss (st, ct) = 0) := by unfold updE; rw [Hid, HCK.out, if_neg (by decide), if_neg (by simp; omega), if_neg (by simp only []; omega)]
  have HT : Hid (updT ((n' : Int), (m : Int), l) ss (st, ct) = ((n' : Int), (m : Int), levels (updL ss m st ct (l.headD [])))) := updT_ok HE.out
  obtain ⟨sn, rfl⟩ : ∃ sn : Nat, st = sn := ⟨st.toNat, by omega⟩
  obtain ⟨cn, rfl⟩ : ∃ cn : Nat, ct = cn := ⟨ct.toNat, by omega⟩
  have hl0 := ht.ne
  obtain ⟨b, off, D, dc, rfl, hb, g0, hD, hdc1, hdc2⟩ := (H1.out _ hB2).sl hl0
  simp only [Nat.add_zero] at g0
  have hhd : Hid (l.headD [] = l[0]'hl0) := by
    rw [Hid]
    cases l with
    | nil => simp at hl0
    | cons x r => rfl
  have hat := ht.at_ 0 hl0
  obtain ⟨v, hv⟩ : ∃ v, Hid (v = l[0]'hl0) := ⟨_, rfl⟩
  rw [← hv.out] at g0 hD hdc1 hhd hat
  have hvl : Hid (v.length = leavesN n' m) := hat.1
  have hv1 : 1 ≤ v.length := by rw [hat.1]; exact hat.2.2.1
  have hv2 : v.length ≤ 4096 := by rw [hat.1]; exact hat.2.2.2
  obtain ⟨vl, hvq⟩ : ∃ vl, Hid (vl = v.length) := ⟨_, rfl⟩
  have hm1 := ht.m1
  have hm2 := ht.m2
  have hn1 := ht.n1
  have hb0 : b < w1.heap.size := Nat.lt_of_lt_of_le hb hB2.size
  have hki : (0 : Int) < l.length := by omega
  clear hat ht hEB c1 c2
  have HCL := Lib.hid (cloneU64_own D dc v.length v w1 rfl hv1 (hD.more (Bl.mono hB2.size)) (by omega))
  clear hD hdc1 hdc2
  have hscn : sn + cn ≤ n' := by omega
  obtain ⟨a, ha⟩ : ∃ a, sn / m = a := ⟨_, rfl⟩
  have hqa : (sn : Int) / (m : Int) = a := by rw [← ha]; rfl
  obtain ⟨Q, hQ⟩ : ∃ Q, (sn + cn - 1) / m = Q := ⟨_, rfl⟩
  have hqQ : 0 < cn → ((sn : Int) + (cn : Int) - 1) / (m : Int) = Q := fun h => by
    have : ((sn : Int) + (cn : Int) - 1) = ((sn + cn - 1 : Nat) : Int) := by omega
    rw [this, ← hQ]; rfl
  have hal : a ≤ leavesN n' m := by rw [← ha]; exact upd_a hm1 (by omega)
  have HAQ : Hid (0 < cn → a ≤ Q) := fun h => by rw [← ha, ← hQ]; exact Nat.div_le_div_right (by omega)
  have HQA := Lib.hid ha
  have HQQ := Lib.hid hQ
  clear ha hQ c3 c4
  go_wp2_with fail
  refine HCL.out.mono ?_
  rintro e w2 ⟨g, c', rfl, k1, k2, hown, hB3⟩
  obtain ⟨g1, g2, g3'⟩ := HRW.out w2 (hB1.trans (hB3.mono hB1.size))
  have hB4 : Below w.heap.size w w2 := hB2.trans (hB3.mono hB2.size)
  have hgl := hown.lt g rfl
  have hs1 := hB1.size
  clear r0 r1 r2 e0 e1 v0 v1 v2 vf g3 HCL g0
  obtain ⟨r0, r1, r2, _⟩ := blk3 g1
  obtain ⟨e0, e1, _⟩ := blk2 g2
  clear g1 g2 g3'
  have hmi : (0 : Int) < m := by omega
  have hmi2 : (m : Int) ≠ 0 := by omega
  have HOW := Lib.hid hown; clear hown
  have hsn : (sn : Int) ≤ 4096 := by omega
  have hcn : (cn : Int) ≤ 4096 := by omega
  have hal2 : a ≤ 4096 := by have := hvl.out; omega
  go_wp2_with fail
  obtain ⟨bS, offS, rfl, hbS⟩ := (H2.out w2 hB4).some_ (fun e => by have := HLN.out; rw [e] at this; simp at this; omega)
  have HM := Lib.hid (show 1 ≤ m from hm1)
  go_loopw [10] (fun u wr => ∃ i : Nat, u = .int .i64 (i : Nat) ∧ a ≤ i ∧ i ≤ v.length ∧ Hid (i = a ∨ (0 < cn ∧ i ≤ Q + 1)) ∧ Hid (Own encU64 wr w1.heap.size 58 (fun _ => False) (.slice (some ⟨g, 0, none⟩) v.length c') (updTo ss m a (i - a) v)) ∧ Below w1.heap.size w1 wr) (fun u _ => v.length - (intOf u).toNat)
  case atStart => exact ⟨a, rfl, Nat.le_refl _, by rw [hvl.out]; exact hal, Or.inl rfl, by rw [Nat.sub_self, updTo_zero]; exact HOW.out, hB3⟩
  case round =>
    obtain ⟨wo, rfl⟩ : ∃ wo : World, wo = wr := ⟨_, rfl⟩
    obtain ⟨i, rfl, hai, hiv, hiQ, hown, hBw⟩ := hrel
    obtain ⟨g1, g2, g3⟩ := HRW.out wo (hB1.trans (hBw.mono hs1))
    have hB5 : Below w.heap.size w wo := hB2.trans (hBw.mono hB2.size)
    clear r0 r1 r2 e0 e1
    obtain ⟨r0, r1, r2, _⟩ := blk3 g1
    obtain ⟨e0, e1, _⟩ := blk2 g2
    obtain ⟨v0, v1, v2, vf⟩ := blk3 g3
    clear g1 g2
    by_cases hcond : 0 < cn ∧ i ≤ Q
    · obtain ⟨hc0, hcQ⟩ := hcond
      have hc0' : (0 : Int) < cn := by omega
      have hqQ' := hqQ hc0
      have hcQ' : (i : Int) ≤ Q := by omega
      obtain ⟨hil, him⟩ := upd_lt (n := n') HM.out hc0 hscn (by rw [HQQ.out]; exact hcQ)
      have hiv2 : i < v.length := by rw [hvl.out]; exact hil
      have hiv3 : (i : Int) < v.length := by omega
      have HS : Hid (SlAt encSec wo (Bl w.heap.size) (some ⟨bS, offS + i * m * 8, none⟩) (leafAt ss m i)) := ((H2.out wo hB5).drop (k := i * m)).take
      have HLL := Lib.hid (leafAt_len ss m i)
      rw [HLN.out] at HLL
      obtain ⟨hcc1, hcc2⟩ := hc2
      unfold maxLen at hcc2
      rw [HLN.out] at hcc1
      obtain ⟨q, hq⟩ : ∃ q, i * m = q := ⟨_, rfl⟩
      rw [hq] at him HLL HS
      have hq2 : (i : Int) * (m : Int) = q := by rw [← hq]; simp
      have hq3 : ((i : Int) + 1) * (m : Int) = (q : Int) + (m : Int) := by rw [Int.add_mul, hq2]; simp
      have HQM := Lib.hid hq; clear hq
      have f0 : (0 : Int) ≤ q := by omega
      have f1 : (q : Int) < n' := by omega
      have f2 : (q : Int) ≤ c2 := by omega
      have f3 : (n' : Int) ≤ c2 := by omega
      have f4 : (m : Int) ≤ 4096 := by omega
      have f5 : (i : Int) ≤ 4096 := by omega
      obtain ⟨d, hd⟩ : ∃ d, Hid (digS (leafAt ss m i) = d) := ⟨_, rfl⟩
      have hdr : Hid (U64 d) := by rw [← hd.out]; exact dig_range _
      have HD := Lib.hid (fun k (hk : (leafAt ss m i).length = k) (hk2 : k ≤ 100000) ck => digestSecs_any (some ⟨bS, offS + q * 8, none⟩) ck k (leafAt ss m i) d wo hk hd.out (HS.out.more (Bl.mono hB5.size)) hk2)
      have HNX : Hid (∀ w5, Below wo.heap.size wo w5 → Own encU64 (w5.setCell ⟨g, i, none⟩ (.int .u64 d)) w1.heap.size 58 (fun _ => False) (.slice (some ⟨g, 0, none⟩) v.length c') (updTo ss m a (i + 1 - a) v) ∧ Below w1.heap.size w1 (w5.setCell ⟨g, i, none⟩ (.int .u64 d)) ∧ w5.frozen? ⟨g, i, none⟩ = false ∧ ∃ u, w5.cell? ⟨g, i, none⟩ = some u) := fun w5 hb5 => by
        have ho5 := hown.out.blk (w' := w5) (fun b hb => hb5.block b (by
          rcases hb with hb | hb
          · exact hb.elim
          · exact (hown.out.lt b hb).2))
        have hul : (updTo ss m a (i - a) v).length = v.length := updTo_len ..
        refine ⟨?_, (hBw.trans (hb5.mono hBw.size)).setCell (p := ⟨g, i, none⟩) hgl.1 _, (ho5.cellU hul (by omega)).2, _, (ho5.cellU hul (by omega)).1⟩
        have e : i + 1 - a = (i - a) + 1 := by omega
        have e2 : a + (i - a) = i := by omega
        rw [e, updTo_succ, e2, hd.out]
        exact ho5.setU hul i hdr.out
      clear hiv hcQ hil
      by_cases hmin : (q : Int) + m ≤ n'
      · have hmin' : ¬ ((n' : Int) ≤ (q : Int) + m) ∨ (q : Int) + m ≤ n' := Or.inr hmin
        clear hmin'
        go_wp2_with fail
        refine (HD.out _ (by rw [HLL.out]; omega) (by omega) _).mono ?_
        rintro e w5 ⟨rfl, hb5⟩
        have hN := Lib.hid (HNX.out w5 hb5)
        obtain ⟨u, hu⟩ := hN.out.2.2.2
        have hfr := hN.out.2.2.1
        have hi0 : (0 : Int) ≤ i := by omega
        clear HD HNX r0 r1 r2 e0 e1 v0 v1 v2 vf HS HLL
        go_wp2_with fail
        go_roundw
        case rel => exact ⟨i + 1, by go_num, by omega, by omega, Or.inr ⟨hc0, by omega⟩, hN.out.1, hN.out.2.1⟩
        case measure => simp [intOf]; omega
      · have hmin' : (n' : Int) ≤ (q : Int) + m := by omega
        go_wp2_with fail
        refine (HD.out _ (by rw [HLL.out]; omega) (by omega) _).mono ?_
        rintro e w5 ⟨rfl, hb5⟩
        have hN := Lib.hid (HNX.out w5 hb5)
        obtain ⟨u, hu⟩ := hN.out.2.2.2
        have hfr := hN.out.2.2.1
        have hi0 : (0 : Int) ≤ i := by omega
        clear HD HNX r0 r1 r2 e0 e1 v0 v1 v2 vf HS HLL
        go_wp2_with fail
        go_roundw
        case rel => exact ⟨i + 1, by go_num, by omega, by omega, Or.inr ⟨hc0, by omega⟩, hN.out.1, hN.out.2.1⟩
        case measure => simp [intOf]; omega
    · have hdone : Hid (updTo ss m a (i - a) v = updL ss m (sn : Int) (cn : Int) v) := by
        rw [Hid, ← HQA.out]
        refine upd_done HM.out ?_
        have h1 := hiQ.out
        have h2 := HQA.out
        have h3 := HQQ.out
        have h4 := HAQ.out
        rw [h2, h3]
        omega
      have hno : 0 < cn → ¬ ((i : Int) ≤ Q) := fun h hi => hcond ⟨h, by omega⟩
      have hfin : Hid ((updTo ss m a (i - a) v).length = v.length) := updTo_len ..
      have HT2 : Hid (updT ((n' : Int), (m : Int), l) ss ((sn : Int), (cn : Int)) = ((n' : Int), (m : Int), levels (updTo ss m a (i - a) v))) := by rw [Hid, HT.out, hhd.out, hdone.out]
      obtain ⟨out, hout⟩ : ∃ out, updTo ss m a (i - a) v = out := ⟨_, rfl⟩
      rw [hout] at hown HT2 hfin
      have hsl : SlAt encU64 wo (fun b => b = g) (some ⟨g, 0, none⟩) out := by
        obtain ⟨A', c'', he, k1, k2, k3⟩ := hown.out.reads (S' := fun b => b = g) (fun _ h => h.elim) (fun g' h => by simpa [Value.ownBlock] using h.symm)
        simp only [List.cons.injEq, Value.slice.injEq, and_true] at he
        obtain ⟨rfl, _, rfl⟩ := he
        exact k3
      have hgw := (hown.out.lt g rfl).2
      have HAB := Lib.hid (above_anyS (some ⟨g, 0, none⟩) c' v.length (fun b => b = g) (n' : Int) (m : Int) out wo hfin.out hv1 (fun b hb => by rw [hb]; exact hgw) ⟨k1, k2⟩ hsl (by omega))
      have hgb : w.heap.size + 1 + 1 < g := by have := HS0.out; have := hgl.1; omega
      clear hsl hdone hout
      have hcc : (cn = 0) ∨ 0 < cn := by omega
      rcases hcc with hcz | hcp
      · subst hcz
        go_wp2_with fail
        refine HAB.out.mono ?_
        rintro e w4 ⟨A4, c4, rfl, t1, t2, t3, t4⟩
        have hrow4 : w4.heap[w.heap.size + 1 + 1]? = some (.cells #[.int .i64 0, .int .i64 0, .slice none 0 0] 26 (0, 0)) := (t4.block _ (by omega)).trans g3
        obtain ⟨u0, u1, u2, uf⟩ := blk3 hrow4
        have hB6 : Below w.heap.size w w4 := hB5.trans (t4.mono hB5.size)
        have hgs := t4.size
        have T3 := Lib.hid (t3.more (S' := fun b => Nw w.heap.size w4.heap.size b ∧ b ≠ w.heap.size + 1 + 1) (fun b hb => by
          have h5 := hB5.size
          rcases hb with rfl | hb
          · exact ⟨⟨by omega, by omega⟩, by omega⟩
          · exact ⟨⟨by have := hb.1; omega, hb.2⟩, by have := hb.1; omega⟩))
        clear t3 t4 HAB
        go_wp2_with fail
        have hend := treeRetE_end (w := w) (lo := w.heap.size) hrow4 (by omega) hB6 ((n' : Int), (m : Int), levels out) A4 c4 0 t1 t2 T3.out
        obtain ⟨hz, hret⟩ := hend
        change bodyPost _ _ _ _ _ (set3 w4 (w.heap.size + 1 + 1) (.int .i64 (((n' : Int), (m : Int), levels out) : Tr).1) (.int .i64 (((n' : Int), (m : Int), levels out) : Tr).2.1) (.slice A4 (((n' : Int), (m : Int), levels out) : Tr).2.2.length c4))
        generalize set3 w4 (w.heap.size + 1 + 1) (.int .i64 (((n' : Int), (m : Int), levels out) : Tr).1) (.int .i64 (((n' : Int), (m : Int), levels out) : Tr).2.1) (.slice A4 (((n' : Int), (m : Int), levels out) : Tr).2.2.length c4) = W3 at hz hret ⊢
        obtain ⟨z0, z1, z2, _⟩ := blk3 hz
        refine bodyPost_ret (v := .tuple #[.agg #[.int .i64 (((n' : Int), (m : Int), levels out) : Tr).1, .int .i64 (((n' : Int), (m : Int), levels out) : Tr).2.1, .slice A4 (((n' : Int), (m : Int), levels out) : Tr).2.2.length c4], .int .i64 0]) ?_ rfl ?_
        · simp [results, Try.results17, Try.f17, go_sem, z0, z1, z2, zTree]
        rw [HT2.out, HE.out]
        exact hret
      · have hcp' : (0 : Int) < cn := by omega
        have hqQ' := hqQ hcp
        have hno' := hno hcp
        clear hno hcond
        go_wp2_with fail
        refine HAB.out.mono ?_
        rintro e w4 ⟨A4, c4, rfl, t1, t2, t3, t4⟩
        have hrow4 : w4.heap[w.heap.size + 1 + 1]? = some (.cells #[.int .i64 0, .int .i64 0, .slice none 0 0] 26 (0, 0)) := (t4.block _ (by omega)).trans g3
        obtain ⟨u0, u1, u2, uf⟩ := blk3 hrow4
        have hB6 : Below w.heap.size w w4 := hB5.trans (t4.mono hB5.size)
        have hgs := t4.size
        have T3 := Lib.hid (t3.more (S' := fun b => Nw w.heap.size w4.heap.size b ∧ b ≠ w.heap.size + 1 + 1) (fun b hb => by
          have h5 := hB5.size
          rcases hb with rfl | hb
          · exact ⟨⟨by omega, by omega⟩, by omega⟩
          · exact ⟨⟨by have := hb.1; omega, hb.2⟩, by have := hb.1; omega⟩))
        clear t3 t4 HAB
        go_wp2_with fail
        have hend := treeRetE_end (w := w) (lo := w.heap.size) hrow4 (by omega) hB6 ((n' : Int), (m : Int), levels out) A4 c4 0 t1 t2 T3.out
        obtain ⟨hz, hret⟩ := hend
        change bodyPost _ _ _ _ _ (set3 w4 (w.heap.size + 1 + 1) (.int .i64 (((n' : Int), (m : Int), levels out) : Tr).1) (.int .i64 (((n' : Int), (m : Int), levels out) : Tr).2.1) (.slice A4 (((n' : Int), (m : Int), levels out) : Tr).2.2.length c4))
        generalize set3 w4 (w.heap.size + 1 + 1) (.int .i64 (((n' : Int), (m : Int), levels out) : Tr).1) (.int .i64 (((n' : Int), (m : Int), levels out) : Tr).2.1) (.slice A4 (((n' : Int), (m : Int), levels out) : Tr).2.2.length c4) = W3 at hz hret ⊢
        obtain ⟨z0, z1, z2, _⟩ := blk3 hz
        refine bodyPost_ret (v := .tuple #[.agg #[.int .i64 (((n' : Int), (m : Int), levels out) : Tr).1, .int .i64 (((n' : Int), (m : Int), levels out) : Tr).2.1, .slice A4 (((n' : Int), (m : Int), levels out) : Tr).2.2.length c4], .int .i64 0]) ?_ rfl ?_
        · simp [results, Try.results17, Try.f17, go_sem, z0, z1, z2, zTree]
        rw [HT2.out, HE.out]
        exact hret
end Go.Proofs.Ythneomehfmjbkaa

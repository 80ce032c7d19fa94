/-
  The code's Proof: the walk.
-/
import Derived.Test.YthneomehfmjbkaaHv
set_option linter.unusedVariables false
set_option linter.unusedSimpArgs false
set_option linter.unusedSectionVars false
set_option linter.unnecessarySimpa false
namespace Go.Proofs.Ythneomehfmjbkaa
open Go.RowKit Go.Shelf
attribute [local go_sem] Oper.semAt_some

set_option maxHeartbeats 4000000 in
theorem proof_any (s lf i : Int) (A : Option Addr) (c n : Nat) (l : List (List Int)) (w : World) (hn : l.length = n) (h1 : SlAt (encSl encU64) w (Bl w.heap.size) A l) (hs : n ≤ 100000) (hc : n ≤ c ∧ c ≤ maxLen) (hI : I64 s ∧ I64 lf) (hI2 : I64 i) :
    Calls Try.prog 29 #[.agg #[.int .i64 s, .int .i64 lf, .slice A n c], .int .i64 i] w (RetSlN encU64 (proofT (s, lf, l) i) (proofE (s, lf, l) i) w) := by
  subst hn
  have H1 : Hid (∀ w', Below w.heap.size w w' → SlAt (encSl encU64) w' (Bl w.heap.size) A l) := fun w' hb => h1.below hb
  clear h1
  obtain ⟨W0, hW0⟩ : ∃ W0, w.alloc (.cells #[.int .i64 s, .int .i64 lf, .slice A l.length c] 26) = W0 := ⟨_, rfl⟩
  have hB0 : Below w.heap.size w W0 := by rw [← hW0]; exact ext_alloc (Below.refl _ _)
  have hrow : W0.heap[w.heap.size]? = some (.cells #[.int .i64 s, .int .i64 lf, .slice A l.length c] 26 (0, 0)) := by rw [← hW0]; exact heap_alloc_new _ _
  have HS0 : Hid (W0.heap.size = w.heap.size + 1) := by rw [← hW0]; simp [Hid]
  have HRW : Hid (∀ w', Below W0.heap.size W0 w' → w'.heap[w.heap.size]? = some (.cells #[.int .i64 s, .int .i64 lf, .slice A l.length c] 26 (0, 0))) := fun w' hb => (hb.block _ (by have := HS0.out; omega)).trans hrow
  obtain ⟨r0, r1, r2, _⟩ := blk3 hrow
  clear hrow
  obtain ⟨x, hx⟩ : ∃ x, Hid (checkT (s, lf, l) = x) := ⟨_, rfl⟩
  have HCK := Lib.hid (check_any s lf A c l.length l x W0 rfl hx.out ((H1.out _ hB0).more (Bl.mono hB0.size)) hs hc hI)
  obtain ⟨⟨hs1, hs2⟩, hf1, hf2⟩ := hI
  obtain ⟨hi1, hi2⟩ := hI2
  go_enter Try.func29, Try.ntmps29
  go_wp2_with fail
  refine HCK.out.mono ?_
  rintro e w1 ⟨rfl, hB1⟩
  have g1 := HRW.out _ hB1
  have hB2 : Below w.heap.size w w1 := hB0.trans (hB1.mono hB0.size)
  clear r0 r1 r2 HCK
  obtain ⟨r0, r1, r2, _⟩ := blk3 g1
  clear g1
  have HNL : ∀ n, Hid (proofE (s, lf, l) i = n → n ≠ 0 → RetSlN encU64 (proofT (s, lf, l) i) (proofE (s, lf, l) i) w (.returned (.tuple #[.slice none 0 0, .int .i64 n])) w1) := fun n h hne => by
    have : proofT (s, lf, l) i = [] := by unfold proofT; rw [if_neg (by rw [h]; exact hne)]
    rw [this, h]
    exact ⟨none, 0, rfl, by simp, by simp, SlAt.nil_, hB2⟩
  by_cases hx0 : x = 0
  case neg =>
    have hx0' : (x != 0) = true := by simp [hx0]
    have hE := Lib.hid ((HNL x).out (by unfold proofE; rw [hx.out, if_pos hx0]) hx0)
    clear hx0 HNL
    go_wp2_with fail
    go_ret2
    exact hE.out
  have hx0' : (x != 0) = false := by simp [hx0]
  have hck : checkT (s, lf, l) = 0 := by rw [hx.out, hx0]
  obtain ⟨n', m, hsn, hlm, ht⟩ := checkT_TOk hck
  subst hsn hlm
  have HCK := Lib.hid hck
  have hl0 := ht.ne
  have hll := ht.len
  obtain ⟨b, off, D, dc, rfl, hb, g0, hD, hdc1, hdc2⟩ := (H1.out _ hB2).sl hl0
  simp only [Nat.add_zero] at g0
  have hhd : Hid (l.headD [] = l[0]'hl0) := by
    rw [Hid]
    cases l with
    | nil => simp at hl0
    | cons x r => rfl
  obtain ⟨v, hv⟩ : ∃ v, Hid (v = l[0]'hl0) := ⟨_, rfl⟩
  have hat := ht.at_ 0 hl0
  rw [← hv.out] at g0 hD hdc1 hhd hat
  have hv2 : v.length ≤ 4096 := by rw [hat.1]; exact hat.2.2.2
  have HT := Lib.hid ht
  have hki : (0 : Int) < l.length := by omega
  have hPE : Hid (proofE ((n' : Int), (m : Int), l) i = if i < 0 ∨ (v.length : Int) ≤ i then 2 else 0) := by
    unfold proofE; rw [Hid, HCK.out, if_neg (by decide), hhd.out]
  clear hx0 hck ht hD hdc1 hdc2 hat
  by_cases c1 : i < 0
  case pos =>
    have hE := Lib.hid ((HNL 2).out (by rw [hPE.out, if_pos (Or.inl c1)]) (by decide))
    clear HNL
    go_wp2_with fail
    go_ret2
    exact hE.out
  by_cases c2 : (v.length : Int) ≤ i
  case pos =>
    have hE := Lib.hid ((HNL 2).out (by rw [hPE.out, if_pos (Or.inr c2)]) (by decide))
    clear HNL
    go_wp2_with fail
    go_ret2
    exact hE.out
  have hPE0 : Hid (proofE ((n' : Int), (m : Int), l) i = 0) := by rw [Hid, hPE.out, if_neg (by omega)]
  obtain ⟨i0, rfl⟩ : ∃ i0 : Nat, i = i0 := ⟨i.toNat, by omega⟩
  have hPT : Hid (proofT ((n' : Int), (m : Int), l) (i0 : Int) = proofL i0 l) := by unfold proofT; rw [Hid, if_pos hPE0.out]; rfl
  have hi0v : i0 < v.length := by omega
  have hi04 : i0 < 4096 := by omega
  clear HNL hPE c1
  go_wp2_with fail
  have hdv : decide (v.length ≤ i0) = false := by simp; omega
  simp only [hdv, Bool.or_false]
  clear hdv c2 hi0v
  go_loopw [1, 7, 30] (fun u o kk wr => ∃ (k i : Nat) (B : Option Addr) (vc : Nat) (out : List Int), k ≤ l.length ∧ i < 4096 ∧ u = .int .i64 (i : Nat) ∧ kk = .int .i64 (k : Nat) ∧ o = .slice B out.length vc ∧ Below w1.heap.size w1 wr ∧ Hid (out.length ≤ k) ∧ Hid (proofL i0 l = out ++ proofL i (l.drop k)) ∧ Hid (OwnW encU64 wr w1.heap.size w1.heap.size 58 (.slice B out.length vc) out)) (fun _ _ kk _ => l.length - (intOf kk).toNat)
  case atStart => exact ⟨0, i0, none, 0, [], by omega, hi04, rfl, rfl, rfl, Below.refl _ _, Nat.le_refl _, rfl, OwnW.nil_⟩
  case round =>
    obtain ⟨wo, rfl⟩ : ∃ wo : World, wo = wr := ⟨_, rfl⟩
    obtain ⟨k, i, B, vc, out, hk, hi4, rfl, rfl, rfl, hBw, hlen, hpl, hown⟩ := hrel
    have hB5 : Below w.heap.size w wo := hB2.trans (hBw.mono hB2.size)
    have hsz := hBw.size
    clear r0 r1 r2 g0
    by_cases hlt : k < l.length
    · have hki : (k : Int) < l.length := by omega
      have hk0 : (0 : Int) ≤ k := by omega
      obtain ⟨b', off', D, dc, he, hb', g0, hD, hd1, hd2⟩ := (H1.out _ hB5).sl hlt
      cases he
      have HST := Lib.hid (proofL_drop (i := i) hlt)
      have hat := (HT.out.at_ k hlt)
      obtain ⟨y, hy⟩ : ∃ y, Hid (y = l[k]'hlt) := ⟨_, rfl⟩
      rw [← hy.out] at g0 hD hd1 HST hat
      have hyl : y.length ≤ 4096 := by rw [hat.1]; exact hat.2.2.2
      have hxo := xor_oth i hi4
      have hol := oth_le i
      obtain ⟨o, ho⟩ : ∃ o, oth i = o := ⟨_, rfl⟩
      rw [ho] at hxo HST hol
      have HOO := Lib.hid ho
      clear hat ho
      by_cases ho2 : o < y.length
      · have ho3 : (o : Int) < y.length := by omega
        have ho4 : (0 : Int) ≤ o := by omega
        have hnx : Hid (proofL i0 l = (out ++ [y[o]'ho2]) ++ proofL (i / 2) (l.drop (k + 1))) := by
          rw [Hid, hpl.out, HST.out, List.getElem?_eq_getElem ho2]; simp
        have hDw := hD.u64 (k := o) ho2
        obtain ⟨b2, off2, rfl, hb2, k0, ku⟩ := hDw
        obtain ⟨d, hd⟩ : ∃ d, Hid (d = y[o]'ho2) := ⟨_, rfl⟩
        rw [← hd.out] at k0 ku
        have hol := hlen.out
        have HO1 := Lib.hid (Own.alloc hown.out (fun _ h => h.1.2) (.cells #[.int .u64 d] 58))
        have HRD : Hid (encU64.rd (wo.alloc (.cells #[.int .u64 d] 58)) (fun b => Nw w1.heap.size wo.heap.size b ∧ (Value.slice B out.length vc).ownBlock ≠ some b) [.int .u64 d] d) := ⟨rfl, ku⟩
        rw [← hd.out] at hnx
        clear hD hd1 hd2
        go_wp2_with (at_builtin; refine Hid.out ?_)
        change wpList _ _ _ _ _ _
        refine wpList_app1 (E := encU64) tyU64s rfl _ _ rfl rfl HO1.out d _ rfl HRD.out (heap_alloc_new _ _) (fun _ h => by simp; have := h.1.2; omega) (by simp; omega) (by have := hlen.out; unfold maxLen; omega) (by have := hlen.out; omega) ?_
        intro A' c' w5 hown5 hg5 hat5
        have hlt1 : ∀ g, (Value.slice B out.length vc).ownBlock = some g → g < wo.heap.size := fun g hg => (hown.out.lt g hg).2
        have hok5 := Lib.hid (OwnW.app (hown5.more (S' := fun b => Nw w1.heap.size (wo.alloc (.cells #[.int .u64 d] 58)).heap.size b ∧ (Value.slice B out.length vc).ownBlock ≠ some b) (fun b hb => ⟨hb.1.mono (Nat.le_refl _) (by simp), hb.2⟩) (OwnW_new hown5 hat5 hlt1 (by simp))) hg5 hat5)
        have hB5 := Lib.hid ((ext_alloc (o := .cells #[.int .u64 d] 58) hBw).grown hg5 (by simp; omega) (fun g h => (hown.out.lt g h).1))
        clear hown5 hg5 hat5 hlt1 HO1 HRD
        go_wp2
        go_roundw
        case rel => exact ⟨k + 1, i / 2, A', c', out ++ [d], hlt, by omega, by go_num, by go_num, by simp, hB5.out, by have := hlen.out; simp [Hid]; omega, hnx.out, by have := hok5.out; simpa [Hid] using this⟩
        case measure => simp [intOf]; omega
      · have ho3 : ¬ (o : Int) < y.length := by omega
        have hnx : Hid (proofL i0 l = out ++ proofL (i / 2) (l.drop (k + 1))) := by
          rw [Hid, hpl.out, HST.out, List.getElem?_eq_none (by omega)]; rfl
        clear hD hd1 hd2
        go_wp2_with fail
        go_roundw
        case rel => exact ⟨k + 1, i / 2, B, vc, out, hlt, by omega, by go_num, by go_num, rfl, hBw, by have := hlen.out; simp [Hid]; omega, hnx.out, hown.out⟩
        case measure => simp [intOf]; omega
    · have hkk : k = l.length := by omega
      subst hkk
      obtain ⟨_, p1, p2, p3⟩ := hown.out.parts
      have hfin : Hid (proofT ((n' : Int), (m : Int), l) (i0 : Int) = out) := by
        rw [Hid, hPT.out, hpl.out, List.drop_length]; simp [proofL]
      have P3 := Lib.hid p3
      clear p3
      go_wp2_with fail
      go_ret2
      rw [hfin.out, hPE0.out]
      exact ⟨B, vc, rfl, p1, p2, P3.out.more (fun g hg => hg.mono hB2.size (Nat.le_refl _)), hB5⟩
end Go.Proofs.Ythneomehfmjbkaa

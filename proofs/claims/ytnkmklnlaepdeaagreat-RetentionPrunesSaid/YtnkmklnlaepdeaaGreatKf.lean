/-
  snapshot.Cost, find: the walks.
-/
import Derived.Test.YtnkmklnlaepdeaaGreatKe
import Derived.Test.YtnkmklnlaepdeaaGreatSq
set_option linter.unusedVariables false
set_option linter.unusedSimpArgs false
set_option linter.unusedSectionVars false
set_option linter.unnecessarySimpa false
namespace Go.Proofs.YtnkmklnlaepdeaaGreat
open Go.RowKit Go.Shelf
attribute [local go_sem] Oper.semAt_some

/-- the index of the first element that meets a condition, or -1 -/
def idxAt {α : Type} (P : α → Bool) : List α → Int
  | [] => -1
  | x :: l => if P x then 0 else if 0 ≤ idxAt P l then idxAt P l + 1 else -1
theorem idxAt_cases {α : Type} (P : α → Bool) : ∀ l : List α, idxAt P l = -1 ∨ 0 ≤ idxAt P l
  | [] => Or.inl rfl
  | x :: l => by
    unfold idxAt
    split
    · right; omega
    · split
      · right; omega
      · left; rfl
theorem idxAt_drop {α : Type} {P : α → Bool} {l : List α} {k : Nat} (h : k < l.length) : idxAt P (l.drop k) = if P l[k] then 0 else if 0 ≤ idxAt P (l.drop (k + 1)) then idxAt P (l.drop (k + 1)) + 1 else -1 := by
  rw [List.drop_eq_getElem_cons h]; rfl
theorem idxAt_find {α : Type} (P : α → Bool) : ∀ l : List α, idxAt P l = match l.findIdx? P with | some k => (k : Int) | none => -1
  | [] => rfl
  | x :: l => by
    rw [List.findIdx?_cons]
    unfold idxAt
    by_cases h : P x = true
    · simp [h]
    · rw [if_neg h, idxAt_find P l]
      cases hq : l.findIdx? P <;> simp [h]
theorem sects_lim {l : List Wr} (h : ∀ y ∈ l, y.2.2.length ≤ 1000000) : sectsL l ≤ l.length * 1000000 := by
  unfold sectsL
  induction l with
  | nil => simp
  | cons x l ih =>
    have h1 := h x (by simp)
    have h2 := ih (fun y hy => h y (by simp [hy]))
    simp only [List.map_cons, List.sum_cons, List.length_cons]; omega
def numIs (n : Int) (x : Snp) : Bool := x.1 == n
theorem numIs_any (n : Int) (nb : Nat) (x : Snp) (D : Option Addr) (d m : Nat) (w : World) (q : Bool) (hm : x.2.2.length = m) (hq : numIs n x = q) (hc : w.cell? ⟨nb, 0, none⟩ = some (.int .i64 n)) (hnb : nb < w.heap.size) :
    Calls Tryz.prog 70 #[.agg #[.int .i64 x.1, .int .i64 x.2.1, .slice D m d], .pointer (some ⟨nb, 0, none⟩)] w fun e w' => e = .returned (.bool q) ∧ Below w.heap.size w w' := by
  have HQ := Lib.hid hq; clear hq
  obtain ⟨x1, x2, x3⟩ := x
  obtain ⟨W0, hW0⟩ : ∃ W0, w.alloc (.cells #[.int .i64 x1, .int .i64 x2, .slice D m d] 45) = W0 := ⟨_, rfl⟩
  have hB0 : Below w.heap.size w W0 := by rw [← hW0]; exact ext_alloc (Below.refl _ _)
  have hr0 : W0.heap[w.heap.size]? = some (.cells #[.int .i64 x1, .int .i64 x2, .slice D m d] 45 (0, 0)) := by rw [← hW0]; exact heap_alloc_new _ _
  have hc0 := (hB0.cell (p := ⟨nb, 0, none⟩) hnb).trans hc
  obtain ⟨r0, _⟩ := blk3 hr0
  have hqq : Hid ((x1 == n) = q) := HQ.out
  clear hr0
  go_enter Tryz.func70, Tryz.ntmps70
  go_wp2
  go_ret
  exact ⟨ret_bool hqq.out, hB0⟩
set_option maxHeartbeats 1000000 in
theorem numAt_any (A : Option Addr) (c n : Nat) (l : List _) (w : World) (hn : l.length = n) (h1 : SlAt encSnp w (Bl w.heap.size) A l) (hl : n ≤ 9223372036854775807) (num : Int) (nb : Nat) (hnb : w.cell? ⟨nb, 0, none⟩ = some (.int .i64 num)) (hnl : nb < w.heap.size) (r : Int) (hr : idxAt (numIs num) l = r) :
    Calls Tryz.prog 69 #[.slice A n c, .func (.func 70) #[] #[.pointer (some ⟨nb, 0, none⟩)]] w fun e w' => e = .returned (.int .i64 r) ∧ Below w.heap.size w w' := by
  subst hn
  have HR := Lib.hid hr; clear hr
  have H1 : Hid (∀ w', Below w.heap.size w w' → SlAt encSnp w' (Bl w.heap.size) A l) := fun w' hb => h1.below hb
  clear h1
  have HNB : Hid (∀ W, Below w.heap.size w W → W.cell? ⟨nb, 0, none⟩ = some (.int .i64 num)) := fun W hb => (hb.cell (p := ⟨nb, 0, none⟩) hnl).trans hnb; clear hnb
  go_enter Tryz.func69, Tryz.ntmps69
  go_wp2
  go_loopw [8] (fun i wr => ∃ k : Nat, k ≤ l.length ∧ i = .int .i64 k ∧ Below w.heap.size w wr ∧ Hid (idxAt (numIs num) l = (idxAt (numIs num) (l.drop k)) + (if 0 ≤ idxAt (numIs num) (l.drop k) then (k : Int) else 0))) (fun i _ => l.length - (intOf i).toNat)
  case atStart => exact ⟨0, by omega, rfl, Below.refl _ _, by simp [Hid]⟩
  case round =>
    obtain ⟨k, hk, rfl, hB, hz⟩ := hrel
    by_cases hlt : k < l.length
    · have hnn : (0 : Int) ≤ k := by omega
      have hki : (k : Int) < l.length := by omega
      have hszr := hB.size
      have hst := idxAt_drop (P := (numIs num)) hlt
      obtain ⟨b, off, D, d, rfl, hb, g0, g1, g2, _, _, _, _, _⟩ := (H1.out wr hB).snp hlt
      obtain ⟨q, hq⟩ : ∃ q, Hid ((numIs num) l[k] = q) := ⟨(numIs num) l[k], Lib.hid rfl⟩
      rw [hq.out] at hst
      have HST := Lib.hid hst
      clear hst
      go_wp2_with fail
      refine (numIs_any num nb l[k] D d l[k].2.2.length wr q rfl hq.out (HNB.out wr hB) (by omega)).mono ?_
      rintro e w1 ⟨rfl, hb1⟩; clear g0 g1 g2
      have hB1 : Below w.heap.size w w1 := ext_trans hB hb1
      cases q with
      | true =>
        go_wp2
        go_ret
        refine ⟨ret_int ?_, hB1⟩
        rw [← HR.out, hz.out, HST.out]; simp
      | false =>
        go_wp2
        go_roundw
        case rel =>
          refine ⟨k + 1, hlt, by go_num, hB1, ?_⟩
          rw [Hid, hz.out, HST.out]
          rw [if_neg (by decide : ¬ false = true)]
          rcases idxAt_cases (numIs num) (l.drop (k + 1)) with hp | hp
          · rw [hp]; simp
          · rw [if_pos hp, if_pos hp, if_pos (by omega)]; omega
        case measure => simp [intOf]; omega
    · have hkk : k = l.length := by omega
      subst hkk
      go_wp2
      go_ret
      refine ⟨ret_int ?_, hB⟩
      rw [← HR.out, hz.out, List.drop_length]; simp [idxAt]
set_option maxHeartbeats 1000000 in
theorem snFind_any (A A2 : Option Addr) (c c2 n m : Nat) (im : Img) (l : List Snp) (num : Int) (w : World) (hn : im.length = n) (hm : l.length = m) (h1 : SlAt (encSl encSec) w (Bl w.heap.size) A im) (h2 : SlAt encSnp w (Bl w.heap.size) A2 l) (hl1 : n ≤ 100000) (hl2 : m ≤ 9223372036854775807) :
    Calls Tryz.prog 42 #[.agg #[.slice A n c, .slice A2 m c2], .int .i64 num] w fun e w' => e = .returned (.tuple #[.int .i64 (findN (im, l) num : Nat), .int .i64 (findE (im, l) num)]) ∧ Below w.heap.size w w' := by
  subst hn hm
  have H1 : Hid (∀ w', Below w.heap.size w w' → SlAt (encSl encSec) w' (Bl w.heap.size) A im) := fun w' hb => h1.below hb
  have H2 : Hid (∀ w', Below w.heap.size w w' → SlAt encSnp w' (Bl w.heap.size) A2 l) := fun w' hb => h2.below hb
  clear h1 h2
  obtain ⟨W0, hW0⟩ : ∃ W0, (w.alloc (.cells #[.slice A im.length c, .slice A2 l.length c2] 29)).alloc (.cells #[.int .i64 num] 3) = W0 := ⟨_, rfl⟩
  have hB0 : Below w.heap.size w W0 := by rw [← hW0]; exact ext_alloc (ext_alloc (Below.refl _ _))
  have hs0 : w.heap.size + 1 < W0.heap.size := by rw [← hW0]; simp
  have hr0 : W0.heap[w.heap.size]? = some (.cells #[.slice A im.length c, .slice A2 l.length c2] 29 (0, 0)) := by rw [← hW0]; exact (Below.heap_alloc _ _ _ (by simp)).trans (heap_alloc_new _ _)
  have hr1 : W0.heap[w.heap.size + 1]? = some (.cells #[.int .i64 num] 3 (0, 0)) := by rw [← hW0]; exact heap_new2 _ _ _
  obtain ⟨r, hr⟩ : ∃ r, Hid (snE (im, l) = r) := ⟨_, rfl⟩
  have HCK := Lib.hid (snCheck_any A A2 c c2 im.length l.length im l r W0 rfl rfl hr.out ((H1.out W0 hB0).more (Bl.mono hB0.size)) ((H2.out W0 hB0).more (Bl.mono hB0.size)) hl1 hl2)
  obtain ⟨c0, c1, _⟩ := blk2 hr0
  go_enter Tryz.func42, Tryz.ntmps42
  go_wp2_with fail
  refine HCK.out.mono ?_
  rintro e w1 ⟨rfl, hb1⟩
  have hbw1 : Below w.heap.size w w1 := ext_trans hB0 hb1
  have hrp1 := (hb1.block w.heap.size (by omega)).trans hr0
  have hrn1 := (hb1.block (w.heap.size + 1) hs0).trans hr1
  have hz1 := hb1.size
  clear HCK hW0 hr0 hr1 c0 c1
  by_cases hx0 : r = 0
  case neg =>
    have hx0' : (r != 0) = true := by simp [hx0]
    have hE : Hid (findE (im, l) num = r) := by rw [Hid, findE, hr.out, if_pos hx0]
    have hN : Hid (findN (im, l) num = 0) := by rw [Hid, findN, if_neg (by rw [hE.out]; exact hx0)]
    clear hx0
    go_wp2_with fail
    go_ret2
    rw [hE.out, hN.out]
    exact ⟨rfl, hbw1⟩
  have hx0' : (r != 0) = false := by simp [hx0]
  have HOK : Hid (snE (im, l) = 0) := by rw [Hid, hr.out, hx0]
  clear hx0 hr
  obtain ⟨i, hi⟩ : ∃ i, Hid (idxAt (numIs num) l = i) := ⟨_, rfl⟩
  have hic := idxAt_cases (numIs num) l
  rw [hi.out] at hic
  have HIX := Lib.hid (numAt_any A2 c2 l.length l w1 rfl ((H2.out w1 hbw1).more (Bl.mono hbw1.size)) hl2 num (w.heap.size + 1) (cell_of_row w1 _ 0 _ _ _ hrn1) (by omega) i hi.out)
  obtain ⟨c0, c1, _⟩ := blk2 hrp1
  go_wp2_with fail
  refine HIX.out.mono ?_
  rintro e w2 ⟨rfl, hb2⟩
  have hbw2 : Below w.heap.size w w2 := ext_trans hbw1 hb2
  have hfi := idxAt_find (numIs num) l
  rw [hi.out] at hfi
  clear HIX c0 c1
  cases hq : l.findIdx? (numIs num) with
  | none =>
    rw [hq] at hfi
    have hE : Hid (findE (im, l) num = 7) := by
      have : findI l num = none := hq
      rw [Hid, findE, HOK.out, if_neg (by decide)]; show (if (findI l num).isNone = true then (7 : Int) else 0) = 7; rw [this]; rfl
    have hN : Hid (findN (im, l) num = 0) := by rw [Hid, findN, if_neg (by rw [hE.out]; decide)]
    simp only at hfi
    subst hfi
    clear hic hq
    go_wp2_with fail
    go_ret2
    rw [hE.out, hN.out]
    exact ⟨rfl, hbw2⟩
  | some k =>
    rw [hq] at hfi
    have hE : Hid (findE (im, l) num = 0) := by
      have : findI l num = some k := hq
      rw [Hid, findE, HOK.out, if_neg (by decide)]; show (if (findI l num).isNone = true then (7 : Int) else 0) = 0; rw [this]; rfl
    have hN : Hid (findN (im, l) num = k) := by
      have : findI l num = some k := hq
      rw [Hid, findN, if_pos hE.out]; show (findI l num).getD 0 = k; rw [this]; rfl
    simp only at hfi
    subst hfi
    clear hic hq
    go_wp2_with fail
    go_ret2
    rw [hE.out, hN.out]
    exact ⟨rfl, hbw2⟩
theorem sum_take {l : List Snp} {k : Nat} (h : k < l.length) : ((l.take (k + 1)).map fun x => sectsL x.2.2).sum = ((l.take k).map fun x => sectsL x.2.2).sum + sectsL l[k].2.2 := by
  rw [List.take_succ_eq_append_getElem h, List.map_append, List.sum_append]; simp
theorem sum_lim {l : List Snp} (h : ∀ x ∈ l, x.2.2.length ≤ 100000 ∧ ∀ y ∈ x.2.2, y.2.2.length ≤ 1000000) : (l.map fun x => sectsL x.2.2).sum ≤ l.length * 100000000000 := by
  induction l with
  | nil => simp
  | cons x l ih =>
    have h1 := h x (by simp)
    have h2 := ih (fun y hy => h y (by simp [hy]))
    have h3 := sects_lim h1.2
    have h4 : x.2.2.length * 1000000 ≤ 100000 * 1000000 := Nat.mul_le_mul_right _ h1.1
    simp only [List.map_cons, List.sum_cons, List.length_cons]; omega
end Go.Proofs.YtnkmklnlaepdeaaGreat

/-
  Plain words: a list of writes and its canonical list change every image in the same way. No program in sight.
-/
import Derived.Test.YtgmeghandjkkcaaIn
import Derived.Test.YtgmeghandjkkcaaLa
import Derived.Test.YtgmeghandjkkcaaVb
set_option linter.unusedVariables false
set_option linter.unusedSimpArgs false
set_option linter.unusedSectionVars false
set_option linter.unnecessarySimpa false
namespace Go.Proofs.Ytgmeghandjkkcaa

theorem over_at (row : List Sec) (s : Nat) (d : List Sec) (i : Nat) (h : s + d.length ≤ row.length) : (over row s d).getD i zsec = if s ≤ i ∧ i < s + d.length then d.getD (i - s) zsec else row.getD i zsec := by
  have hls : (row.take s).length = s := by rw [List.length_take]; omega
  unfold over
  simp only [List.getD_eq_getElem?_getD]
  rw [show (if s ≤ i ∧ i < s + d.length then (d[i - s]?).getD zsec else (row[i]?).getD zsec) = (if s ≤ i ∧ i < s + d.length then d[i - s]? else row[i]?).getD zsec from by split <;> rfl]
  refine congrArg (fun o => Option.getD o zsec) ?_
  by_cases h1 : i < s
  · rw [List.append_assoc, List.getElem?_append_left (by simp; omega), List.getElem?_take, if_pos h1]
    rw [if_neg (by omega)]
  · by_cases h2 : i < s + d.length
    · rw [List.getElem?_append_left (by simp; omega), List.getElem?_append_right (by simp; omega), if_pos ⟨by omega, h2⟩, hls]
    · rw [List.getElem?_append_right (by simp; omega), if_neg (by omega), List.getElem?_drop, List.length_append, hls]
      rw [show s + d.length + (i - (s + d.length)) = i from by omega]
theorem putW_at {im : List (List Sec)} {x : Wr} (h : fitsN (lens im) x = 0) (v i : Nat) : ((putW im x).getD v []).getD i zsec = if hits x v i then datum x i else (im.getD v []).getD i zsec := by
  obtain ⟨k, s, e1, e2, hk, _, hs⟩ := fits_img h
  have hiff : hits x v i ↔ v = k ∧ s ≤ i ∧ i < s + x.2.2.length := by
    unfold hits
    rw [e1, e2]
    omega
  unfold putW
  rw [e1, e2, Int.toNat_natCast, Int.toNat_natCast]
  by_cases hv : v = k
  · subst hv
    have e3 : (im.set v (over (im.getD v []) s x.2.2)).getD v [] = over (im.getD v []) s x.2.2 := by
      rw [List.getD_eq_getElem?_getD, List.getElem?_set_self hk]; rfl
    rw [e3, over_at _ _ _ _ hs]
    by_cases hi : s ≤ i ∧ i < s + x.2.2.length
    · rw [if_pos hi, if_pos (hiff.2 ⟨rfl, hi⟩)]
      unfold datum
      rw [e2]
      congr 1
      omega
    · rw [if_neg hi, if_neg (fun hh => hi (hiff.1 hh).2)]
  · have e3 : (im.set k (over (im.getD k []) s x.2.2)).getD v [] = im.getD v [] := by
      simp only [List.getD_eq_getElem?_getD]
      rw [List.getElem?_set_ne (fun e => hv e.symm)]
    rw [e3, if_neg (fun hh => hv (hiff.1 hh).1)]
theorem putAll_at {im : List (List Sec)} {l : List Wr} (h : ∀ x ∈ l, fitsN (lens im) x = 0) (v i : Nat) : ((putAll im l).getD v []).getD i zsec = (look l v i).getD ((im.getD v []).getD i zsec) := by
  induction l using snocRec with
  | h0 => rfl
  | h1 l x ih =>
    have ih := ih (fun y hy => h y (by simp [hy]))
    have hx : fitsN (lens (putAll im l)) x = 0 := by rw [putAll_lens (fun y hy => h y (by simp [hy]))]; exact h x (by simp)
    rw [putAll_snoc, putW_at hx, look_snoc, ih]
    split <;> rfl
theorem img_ext {a b : List (List Sec)} (hl : lens a = lens b) (h : ∀ v i : Nat, (a.getD v []).getD i zsec = (b.getD v []).getD i zsec) : a = b := by
  have h1 : a.length = b.length := by have := congrArg List.length hl; rwa [lens_len, lens_len] at this
  refine List.ext_getElem h1 fun v h2 h3 => ?_
  have h4 : a[v].length = b[v].length := by
    have e1 := lens_at (im := a) h2
    have e2 := lens_at (im := b) h3
    have : (lens a)[v]'(by rw [lens_len]; exact h2) = (lens b)[v]'(by rw [lens_len]; exact h3) := by simp only [hl]
    omega
  refine List.ext_getElem h4 fun i h5 h6 => ?_
  have := h v i
  simpa [List.getD_eq_getElem?_getD, h2, h3, h5, h6] using this
theorem fits_placed1 {im : List (List Sec)} (hz : sizesN (lens im) = 0) {x : Wr} (h : fitsN (lens im) x = 0) : placedN x = 0 := by
  obtain ⟨a, b, c, d, e⟩ := fits_ok hz h
  obtain ⟨v, s, data⟩ := x
  exact placed_mk a b c d e
theorem fitsN_mk {sz : List Int} {v s : Int} {d : List Sec} (h1 : 0 ≤ v) (h2 : v < sz.length) (h3 : 0 < d.length) (h4 : 0 ≤ s) (h5 : s + d.length ≤ sz.getD v.toNat 0) : fitsN sz (v, s, d) = 0 := by
  unfold fitsN
  simp only
  rw [if_neg (by omega), if_neg (by omega), if_neg (by omega)]
/-- the canonical list fits wherever the list fits -/
theorem fits_fold {im : List (List Sec)} {l : List Wr} (hz : sizesN (lens im) = 0) (h : ∀ x ∈ l, fitsN (lens im) x = 0) : ∀ y ∈ foldS l, fitsN (lens im) y = 0 := by
  have hpl : ∀ x ∈ l, placedN x = 0 := fun x hx => fits_placed1 hz (h x hx)
  intro y hy
  obtain ⟨v, s, d⟩ := y
  obtain ⟨p1, p2, p3, p4, p5⟩ := placed_ok (placed_fold l _ hy)
  simp only at p1 p2 p3 p4 p5
  -- the last sector of y is one of l's
  have hl : (look (foldS l) v (s + d.length - 1)).isSome = true := by
    have hall : ∀ (m : List Wr), (v, s, d) ∈ m → (look m v (s + d.length - 1)).isSome = true := by
      intro m
      induction m using snocRec with
      | h0 => simp
      | h1 m x ih =>
        intro hm
        rw [look_snoc]
        split
        · rfl
        · rename_i hh
          rcases List.mem_append.1 hm with hm | hm
          · exact ih hm
          · rw [← List.mem_singleton.1 hm] at hh
            exact absurd ⟨rfl, by simp only; omega, by simp only; omega⟩ hh
    exact hall _ hy
  rw [look_fold hpl] at hl
  have hex : ∃ x ∈ l, hits x v (s + d.length - 1) := by
    apply Decidable.byContradiction
    intro hno
    rw [look_none l v (s + d.length - 1) (fun x hx hh => hno ⟨x, hx, hh⟩)] at hl
    cases hl
  obtain ⟨x, hx, hh1, hh2, hh3⟩ := hex
  obtain ⟨k, s2, e1, e2, hk, _, hs⟩ := fits_img (h x hx)
  have e3 : (lens im).getD v.toNat 0 = ((im.getD k []).length : Int) := by
    have : v.toNat = k := by omega
    rw [this, List.getD_eq_getElem?_getD, List.getD_eq_getElem?_getD, List.getElem?_eq_getElem (by rw [lens_len]; exact hk), List.getElem?_eq_getElem hk]
    exact lens_at hk
  exact fitsN_mk p1 (by rw [lens_len]; omega) p3 p4 (by rw [e3]; omega)
/-- THE SAME CHANGE -/
theorem changes_same {im : List (List Sec)} {l : List Wr} (hz : sizesN (lens im) = 0) (h : ∀ x ∈ l, fitsN (lens im) x = 0) : putAll im (foldS l) = putAll im l := by
  have hf := fits_fold hz h
  refine img_ext (by rw [putAll_lens hf, putAll_lens h]) fun v i => ?_
  rw [putAll_at hf, putAll_at h, look_fold (fun x hx => fits_placed1 hz (h x hx))]
theorem changes_check {im : List (List Sec)} {l : List Wr} (hz : sizesN (lens im) = 0) (h : ∀ x ∈ l, fitsN (lens im) x = 0) : chkS (foldS l) (lens im) = 0 := by
  have hf := fits_fold hz h
  unfold chkS
  rw [if_neg (by rw [hz]; simp), chkN_zero_iff]
  intro p hp
  have h0 := (chkN_zero_iff placedN (foldS l)).1 (chk_fold l) p hp
  have hm : p.2 ∈ foldS l := by
    obtain ⟨i, hi, rfl⟩ := List.mem_iff_getElem.1 hp
    have hi' : i < (foldS l).length := by rw [withPrev_len] at hi; exact hi
    cases i with
    | zero => rw [withPrev_zero hi']; exact List.getElem_mem _
    | succ i => rw [withPrev_succ hi']; exact List.getElem_mem _
  have h1 := hf p.2 hm
  have h2 := placed_fold l p.2 hm
  unfold stepErr at h0 ⊢
  rw [if_neg (by rw [h2]; simp)] at h0
  rw [if_neg (by rw [h1]; simp)]
  exact h0
theorem below_or (P Q : Int → Bool) (q : Nat) : (below (fun x => P x || Q x) q).length ≤ (below P q).length + (below Q q).length := by
  induction q with
  | zero => simp [below]
  | succ q ih =>
    rw [below_succ, below_succ, below_succ]
    simp only [List.length_append]
    cases hP : P q <;> cases hQ : Q q <;> simp <;> omega
theorem below_range (a n : Int) (q : Nat) : ((below (fun x => decide (a ≤ x ∧ x < a + n)) q).length : Int) ≤ (if (q : Int) - a < 0 then 0 else if n < 0 then 0 else if (q : Int) - a < n then (q : Int) - a else n) := by
  induction q with
  | zero => simp [below]; split <;> (try split) <;> (try split) <;> omega
  | succ q ih =>
    rw [below_succ]
    by_cases h : a ≤ (q : Int) ∧ (q : Int) < a + n
    · rw [if_pos (by rw [decide_eq_true_eq]; exact h), List.length_append, List.length_singleton]
      split at ih <;> (try split at ih) <;> (try split at ih) <;> split <;> (try split) <;> (try split) <;> omega
    · rw [if_neg (by rw [decide_eq_true_eq]; exact h), List.append_nil]
      split at ih <;> (try split at ih) <;> (try split at ih) <;> split <;> (try split) <;> (try split) <;> omega
theorem secs_snoc (l : List Wr) (x : Wr) (v : Int) : (secsOf (l ++ [x]) v).length ≤ (secsOf l v).length + (if x.1 = v then x.2.2.length else 0) := by
  by_cases hv : x.1 = v
  · rw [if_pos hv]
    have e : secsOf (l ++ [x]) v = below (fun s => (look l v s).isSome || decide (x.2.1 ≤ s ∧ s < x.2.1 + (x.2.2.length : Int))) 4096 := by
      rw [secsOf_below]
      refine below_congr _ _ 4096 fun s _ => ?_
      rw [look_snoc]
      by_cases hh : hits x v s
      · rw [if_pos hh, decide_eq_true hh.2]; simp
      · rw [if_neg hh, decide_eq_false (fun h => hh ⟨hv, h⟩)]; simp
    have h1 := below_or (fun s => (look l v s).isSome) (fun s => decide (x.2.1 ≤ s ∧ s < x.2.1 + (x.2.2.length : Int))) 4096
    have h2 := below_range x.2.1 x.2.2.length 4096
    rw [e, secsOf_below]
    have h3 : ((below (fun s => decide (x.2.1 ≤ s ∧ s < x.2.1 + (x.2.2.length : Int))) 4096).length : Int) ≤ x.2.2.length := by
      refine Int.le_trans h2 ?_
      split <;> (try split) <;> (try split) <;> omega
    omega
  · rw [if_neg hv]
    have e : secsOf (l ++ [x]) v = secsOf l v := by
      rw [secsOf_below, secsOf_below]
      refine below_congr _ _ 4096 fun s _ => ?_
      rw [look_snoc, if_neg (fun h => hv h.1)]
    rw [e]; omega
theorem vols_snoc (l : List Wr) (x : Wr) (n : Nat) : (((List.range n).map fun (v : Nat) => (secsOf (l ++ [x]) v).length).sum : Nat) ≤ ((List.range n).map fun (v : Nat) => (secsOf l v).length).sum + (if 0 ≤ x.1 ∧ x.1 < n then x.2.2.length else 0) := by
  induction n with
  | zero => simp
  | succ n ih =>
    have h := secs_snoc l x n
    simp only [List.range_succ, List.map_append, List.map_cons, List.map_nil, List.sum_append, List.sum_cons, List.sum_nil, Nat.add_zero]
    by_cases hv : x.1 = (n : Int)
    · rw [if_pos hv] at h
      rw [if_neg (by omega)] at ih
      rw [if_pos (by omega)]
      omega
    · rw [if_neg hv] at h
      by_cases hx : 0 ≤ x.1 ∧ x.1 < n
      · rw [if_pos hx] at ih
        rw [if_pos (by omega)]
        omega
      · rw [if_neg hx] at ih
        rw [if_neg (by omega)]
        omega
theorem assocV_len (l : List Wr) (v : Int) : (assocV l v).length = (secsOf l v).length := List.length_map ..
theorem assoc_len (l : List Wr) : (assoc l).length = ((List.range 8).map fun (v : Nat) => (secsOf l v).length).sum := by
  unfold assoc
  simp only [List.length_flatMap, assocV_len]
theorem secsOf_nil (v : Int) : secsOf [] v = [] := by
  unfold secsOf
  rw [List.filter_eq_nil_iff.2 (fun a _ => by rw [look_nil]; simp), List.map_nil]
theorem assoc_le (l : List Wr) : (assoc l).length ≤ sectsL l := by
  rw [assoc_len]
  induction l using snocRec with
  | h0 => simp only [secsOf_nil]; decide
  | h1 l x ih =>
    rw [sectsL_snoc]
    have := vols_snoc l x 8
    split at this <;> omega
theorem sects_le (l : List Wr) : sectsL (foldS l) ≤ sectsL l := by
  have h2 : sectsL (foldS l) = (assoc l).length := canonL_sects _
  rw [h2]
  exact assoc_le l
end Go.Proofs.Ytgmeghandjkkcaa

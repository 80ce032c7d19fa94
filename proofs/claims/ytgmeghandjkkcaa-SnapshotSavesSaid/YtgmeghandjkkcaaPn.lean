/-
  Plain words: snapshots. What the steps do to the images of the items. No program in sight.
-/
import Derived.Test.YtgmeghandjkkcaaSn3
import Derived.Test.YtgmeghandjkkcaaVc
set_option linter.unusedVariables false
set_option linter.unusedSimpArgs false
set_option linter.unusedSectionVars false
set_option linter.unnecessarySimpa false
namespace Go.Proofs.Ytgmeghandjkkcaa

theorem foldL_ok {l : List Wr} (h : ∀ x ∈ l, placedN x = 0) : foldL l = foldS l := by
  unfold foldL; rw [if_pos (errOf_zero h)]
theorem putAll_app (im : Img) (a b : List Wr) : putAll im (a ++ b) = putAll (putAll im a) b := List.foldl_append ..
theorem contW_fits {im : Img} {x : Wr} (h : fitsN (lens im) x = 0) : fitsN (lens im) (contW im x) = 0 := by
  have h1 := contW_len h
  unfold fitsN at h ⊢
  rw [h1]; exact h
theorem contL_fits {im : Img} {ws : List Wr} (h : ∀ x ∈ ws, fitsN (lens im) x = 0) : ∀ x ∈ contL im ws, fitsN (lens im) x = 0 := by
  intro x hx
  obtain ⟨y, hy, rfl⟩ := List.mem_map.1 hx
  exact contW_fits (h y hy)
theorem contW_hits {im : Img} {x : Wr} (h : fitsN (lens im) x = 0) (V S : Int) : hits (contW im x) V S ↔ hits x V S := by
  unfold hits; rw [contW_len h]; exact Iff.rfl
theorem contW_datum {im : Img} {x : Wr} (h : fitsN (lens im) x = 0) {v i : Nat} (hh : hits x v i) : datum (contW im x) i = (im.getD v []).getD i zsec := by
  obtain ⟨k, s, e1, e2, h1, h2, h3⟩ := fits_img h
  obtain ⟨a, b, c⟩ := hh
  have e : k = v := by omega
  subst e
  obtain ⟨t, rfl⟩ : ∃ t, i = s + t := ⟨i - s, by omega⟩
  have ht : t < x.2.2.length := by omega
  unfold datum contW
  simp only
  rw [e1, e2, Int.toNat_natCast, Int.toNat_natCast, show (((s + t : Nat) : Int) - (s : Int)).toNat = t by omega]
  simp only [List.getD_eq_getElem?_getD, List.getElem?_take, List.getElem?_drop]
  rw [if_pos ht]
theorem look_cont {im : Img} {ws : List Wr} (h : ∀ x ∈ ws, fitsN (lens im) x = 0) (v i : Nat) : look (contL im ws) v i = (look ws v i).map fun _ => (im.getD v []).getD i zsec := by
  induction ws using snocRec with
  | h0 => rfl
  | h1 l x ih =>
    have ih := ih (fun y hy => h y (by simp [hy]))
    have hx := h x (by simp)
    rw [show contL im (l ++ [x]) = contL im l ++ [contW im x] from by simp [contL], look_snoc, look_snoc, ih]
    by_cases hh : hits x v i
    · rw [if_pos ((contW_hits hx v i).2 hh), if_pos hh, contW_datum hx hh]; rfl
    · rw [if_neg (fun e => hh ((contW_hits hx v i).1 e)), if_neg hh]
theorem put_back {im : Img} {ws : List Wr} (hf : ∀ x ∈ ws, fitsN (lens im) x = 0) : putAll (putAll im ws) (contL im ws) = im := by
  have hl := putAll_lens hf
  have h2 : ∀ x ∈ contL im ws, fitsN (lens (putAll im ws)) x = 0 := by rw [hl]; exact contL_fits hf
  refine img_ext (by rw [putAll_lens h2, hl]) fun v i => ?_
  rw [putAll_at h2, putAll_at hf, look_cont hf]
  cases look ws v i <;> rfl
theorem foldL_put {im : Img} {l : List Wr} (hz : sizesN (lens im) = 0) (h : ∀ x ∈ l, fitsN (lens im) x = 0) : putAll im (foldL l) = putAll im l := by
  rw [foldL_ok (fun x hx => fits_placed1 hz (h x hx)), changes_same hz h]
theorem foldL_chk {im : Img} {l : List Wr} (hz : sizesN (lens im) = 0) (h : ∀ x ∈ l, fitsN (lens im) x = 0) : chkS (foldL l) (lens im) = 0 := by
  rw [foldL_ok (fun x hx => fits_placed1 hz (h x hx))]; exact changes_check hz h
theorem foldL_sects {im : Img} {l : List Wr} (hz : sizesN (lens im) = 0) (h : ∀ x ∈ l, fitsN (lens im) x = 0) : sectsL (foldL l) ≤ sectsL l := by
  rw [foldL_ok (fun x hx => fits_placed1 hz (h x hx))]; exact sects_le l
/-- APPLY: what is saved for the last item takes the writes back -/
theorem apply_back {im : Img} {ws d : List Wr} (hz : sizesN (lens im) = 0) (hf : ∀ x ∈ ws, fitsN (lens im) x = 0) (hd : ∀ x ∈ d, fitsN (lens im) x = 0) : putAll (putAll im ws) (foldL (contL im ws ++ d)) = putAll im d := by
  have hl := putAll_lens hf
  have hall : ∀ x ∈ contL im ws ++ d, fitsN (lens (putAll im ws)) x = 0 := by
    rw [hl]
    intro x hx
    rcases List.mem_append.1 hx with hx | hx
    · exact contL_fits hf x hx
    · exact hd x hx
  rw [foldL_put (by rw [hl]; exact hz) hall, putAll_app, put_back hf]

/-- the images of all items -/
def imgs (im : Img) : List Snp → List Img
  | [] => []
  | x :: l => atL im (x :: l) :: imgs im l
theorem atL_app (im : Img) (p q : List Snp) : atL im (p ++ q) = atL (atL im q) p := by
  unfold atL; rw [List.reverse_append, List.foldl_append]
theorem atL_one (im : Img) (x : Snp) : atL im [x] = putAll im x.2.2 := rfl
theorem atL_cons (im : Img) (x : Snp) (l : List Snp) : atL im (x :: l) = putAll (atL im l) x.2.2 := by
  rw [show x :: l = [x] ++ l from rfl, atL_app, atL_one]
theorem imgs_app (im : Img) (p q : List Snp) : imgs im (p ++ q) = imgs (atL im q) p ++ imgs im q := by
  induction p with
  | nil => rfl
  | cons x p ih =>
    show atL im (x :: (p ++ q)) :: imgs im (p ++ q) = atL (atL im q) (x :: p) :: (imgs (atL im q) p ++ imgs im q)
    rw [ih, show x :: (p ++ q) = (x :: p) ++ q from rfl, atL_app]
theorem imgs_len (im : Img) (l : List Snp) : (imgs im l).length = l.length := by
  induction l with
  | nil => rfl
  | cons x l ih => simp [imgs, ih]
theorem imgs_at {im : Img} : ∀ {l : List Snp} {j : Nat} (h : j < l.length), (imgs im l)[j]? = some (atL im (l.drop j))
  | x :: l, 0, _ => rfl
  | x :: l, j + 1, h => by
    show (imgs im l)[j]? = _
    rw [imgs_at (by simpa using h)]; rfl
theorem setLast_snoc (r : List Snp) (x : Snp) (f : List Wr → List Wr) : setLast (r ++ [x]) f = r ++ [(x.1, x.2.1, f x.2.2)] := by
  unfold setLast; rw [List.getLast?_concat]; simp
/-- the number and the time -/
def keyS (x : Snp) : Int × Int := (x.1, x.2.1)
def SnOk (sz : List Int) (l : List Snp) : Prop := (∀ x ∈ l, inT x.1 = true ∧ inT x.2.1 = true ∧ chkS x.2.2 sz = 0) ∧ (l.map keyS).Pairwise fun x y => x.1 < y.1 ∧ x.2 ≤ y.2
theorem snpE_iff {sz : List Int} {a b : Int} {x : Snp} : snpE sz a b x = 0 ↔ inT x.1 = true ∧ a < x.1 ∧ inT x.2.1 = true ∧ b ≤ x.2.1 ∧ chkS x.2.2 sz = 0 := by
  unfold snpE
  by_cases h1 : inT x.1 = false
  · simp [h1]
  · by_cases h2 : x.1 ≤ a
    · rw [if_neg h1, if_pos h2]
      constructor
      · intro h; simp at h
      · intro h; omega
    · by_cases h3 : inT x.2.1 = false ∨ x.2.1 < b
      · rw [if_neg h1, if_neg h2, if_pos h3]
        constructor
        · intro h; simp at h
        · rintro ⟨_, _, k1, k2, _⟩
          rcases h3 with h3 | h3
          · rw [h3] at k1; cases k1
          · omega
      · rw [if_neg h1, if_neg h2, if_neg h3]
        simp only [not_or, Int.not_lt, Bool.not_eq_false] at h1 h3
        exact ⟨fun h => ⟨h1, by omega, h3.1, h3.2, h⟩, fun h => h.2.2.2.2⟩
theorem snpsE_iff {sz : List Int} : ∀ {l : List Snp} {a b : Int}, snpsE sz a b l = 0 ↔ (∀ x ∈ l, a < x.1 ∧ b ≤ x.2.1) ∧ SnOk sz l
  | [], a, b => by simp [snpsE, SnOk]
  | x :: l, a, b => by
    have hc : snpsE sz a b (x :: l) = 0 ↔ snpE sz a b x = 0 ∧ snpsE sz x.1 x.2.1 l = 0 := by
      rw [show snpsE sz a b (x :: l) = if snpE sz a b x ≠ 0 then snpE sz a b x else snpsE sz x.1 x.2.1 l from rfl]
      by_cases h : snpE sz a b x = 0 <;> simp [h]
    rw [hc, snpE_iff, snpsE_iff]
    unfold SnOk
    simp only [List.map_cons, List.pairwise_cons, List.mem_cons, forall_eq_or_imp, List.forall_mem_map, keyS]
    constructor
    · rintro ⟨⟨h1, h2, h3, h4, h5⟩, h6, h7, h8⟩
      exact ⟨⟨⟨h2, h4⟩, fun y hy => by have := h6 y hy; omega⟩, ⟨⟨h1, h3, h5⟩, h7⟩, h6, h8⟩
    · rintro ⟨⟨⟨h2, h4⟩, _⟩, ⟨⟨h1, h3, h5⟩, h7⟩, h6, h8⟩
      exact ⟨⟨h1, h2, h3, h4, h5⟩, h6, h7, h8⟩
theorem snE_iff {im : Img} {l : List Snp} : snE (im, l) = 0 ↔ sizesN (lens im) = 0 ∧ l.length ≤ 1024 ∧ SnOk (lens im) l := by
  unfold snE
  simp only
  by_cases h1 : sizesN (lens im) = 0
  · by_cases h2 : 1024 < l.length
    · rw [if_neg (by simp [h1]), if_pos h2]
      constructor
      · intro h; simp at h
      · intro h; omega
    · rw [if_neg (by simp [h1]), if_neg h2, snpsE_iff]
      exact ⟨fun h => ⟨h1, by omega, h.2⟩, fun h => ⟨fun x hx => by
        have := h.2.2.1 x hx
        simp only [inT, decide_eq_true_eq] at this
        omega, h.2.2⟩⟩
  · rw [if_pos h1]
    exact ⟨fun h => absurd h h1, fun h => absurd h.1 h1⟩
theorem SnOk.sub {sz : List Int} {l m : List Snp} (h : SnOk sz l) (hs : m.Sublist l) : SnOk sz m := ⟨fun x hx => h.1 x (hs.subset hx), h.2.sublist (hs.map _)⟩
theorem SnOk.keys {sz : List Int} {l m : List Snp} (h : SnOk sz l) (hk : m.map keyS = l.map keyS) (hc : ∀ x ∈ m, chkS x.2.2 sz = 0) : SnOk sz m := by
  refine ⟨fun x hx => ?_, by rw [hk]; exact h.2⟩
  have : keyS x ∈ l.map keyS := by rw [← hk]; exact List.mem_map_of_mem hx
  obtain ⟨y, hy, e⟩ := List.mem_map.1 this
  simp only [keyS, Prod.mk.injEq] at e
  have := h.1 y hy
  rw [e.1, e.2] at this
  exact ⟨this.1, this.2.1, hc x hx⟩
/-- the place of a number -/
theorem find_at {im : Img} {l : List Snp} (h : snE (im, l) = 0) {k : Nat} (hk : k < l.length) : findE (im, l) l[k].1 = 0 ∧ findN (im, l) l[k].1 = k := by
  have ho := (snE_iff.1 h).2.2.2
  have hf : findI l l[k].1 = some k := by
    unfold findI
    rw [List.findIdx?_eq_some_iff_getElem]
    refine ⟨hk, by simp, fun j hj => ?_⟩
    have h1 := (List.pairwise_iff_getElem.1 ho) j k (by rw [List.length_map]; omega) (by rw [List.length_map]; exact hk) hj
    simp only [List.getElem_map, keyS] at h1
    simp; omega
  have he : findE (im, l) l[k].1 = 0 := by
    unfold findE
    rw [if_neg (by rw [h]; simp)]
    simp [hf]
  exact ⟨he, by unfold findN; rw [if_pos he]; simp [hf]⟩
end Go.Proofs.Ytgmeghandjkkcaa

/-
  Plain words: snapshots. What the steps do to the images of the items. No program in sight.
  Plain words: a run of steps over snapshots. No program in sight.
-/
import Derived.Test.YtnkmklnlaepdeaaGreatSn3
import Derived.Test.YtnkmklnlaepdeaaGreatVd1
set_option linter.unusedVariables false
set_option linter.unusedSimpArgs false
set_option linter.unusedSectionVars false
set_option linter.unnecessarySimpa false
namespace Go.Proofs.YtnkmklnlaepdeaaGreat

theorem foldL_ok {l : List Wr} (h : ∀ x ∈ l, placedN x = 0) : foldL l = foldS l := by
  unfold foldL; rw [if_pos (errOf_zero h)]
theorem putAll_app (im : Img) (a b : List Wr) : putAll im (a ++ b) = putAll (putAll im a) b := List.foldl_append ..
theorem contW_fits {im : Img} {x : Wr} (h : fitsN (lens im) x = 0) : fitsN (lens im) (contW im x) = 0 := by
  have h1 := contW_len h
  unfold fitsN at h ⊢
  rw [h1]; exact h
theorem contL_fits {im : Img} {ws : List Wr} (h : ∀ x ∈ ws, fitsN (lens im) x = 0) : ∀ x ∈ contL im ws, fitsN (lens im) x = 0 := by
  intro x hx
  obtain ⟨y, hy, rfl⟩ := List.mem_map.1 hx
  exact contW_fits (h y hy)
theorem contW_hits {im : Img} {x : Wr} (h : fitsN (lens im) x = 0) (V S : Int) : hits (contW im x) V S ↔ hits x V S := by
  unfold hits; rw [contW_len h]; exact Iff.rfl
theorem contW_datum {im : Img} {x : Wr} (h : fitsN (lens im) x = 0) {v i : Nat} (hh : hits x v i) : datum (contW im x) i = (im.getD v []).getD i zsec := by
  obtain ⟨k, s, e1, e2, h1, h2, h3⟩ := fits_img h
  obtain ⟨a, b, c⟩ := hh
  have e : k = v := by omega
  subst e
  obtain ⟨t, rfl⟩ : ∃ t, i = s + t := ⟨i - s, by omega⟩
  have ht : t < x.2.2.length := by omega
  unfold datum contW
  simp only
  rw [e1, e2, Int.toNat_natCast, Int.toNat_natCast, show (((s + t : Nat) : Int) - (s : Int)).toNat = t by omega]
  simp only [List.getD_eq_getElem?_getD, List.getElem?_take, List.getElem?_drop]
  rw [if_pos ht]
theorem look_cont {im : Img} {ws : List Wr} (h : ∀ x ∈ ws, fitsN (lens im) x = 0) (v i : Nat) : look (contL im ws) v i = (look ws v i).map fun _ => (im.getD v []).getD i zsec := by
  induction ws using snocRec with
  | h0 => rfl
  | h1 l x ih =>
    have ih := ih (fun y hy => h y (by simp [hy]))
    have hx := h x (by simp)
    rw [show contL im (l ++ [x]) = contL im l ++ [contW im x] from by simp [contL], look_snoc, look_snoc, ih]
    by_cases hh : hits x v i
    · rw [if_pos ((contW_hits hx v i).2 hh), if_pos hh, contW_datum hx hh]; rfl
    · rw [if_neg (fun e => hh ((contW_hits hx v i).1 e)), if_neg hh]
theorem put_back {im : Img} {ws : List Wr} (hf : ∀ x ∈ ws, fitsN (lens im) x = 0) : putAll (putAll im ws) (contL im ws) = im := by
  have hl := putAll_lens hf
  have h2 : ∀ x ∈ contL im ws, fitsN (lens (putAll im ws)) x = 0 := by rw [hl]; exact contL_fits hf
  refine img_ext (by rw [putAll_lens h2, hl]) fun v i => ?_
  rw [putAll_at h2, putAll_at hf, look_cont hf]
  cases look ws v i <;> rfl
theorem foldL_put {im : Img} {l : List Wr} (hz : sizesN (lens im) = 0) (h : ∀ x ∈ l, fitsN (lens im) x = 0) : putAll im (foldL l) = putAll im l := by
  rw [foldL_ok (fun x hx => fits_placed1 hz (h x hx)), changes_same hz h]
theorem foldL_chk {im : Img} {l : List Wr} (hz : sizesN (lens im) = 0) (h : ∀ x ∈ l, fitsN (lens im) x = 0) : chkS (foldL l) (lens im) = 0 := by
  rw [foldL_ok (fun x hx => fits_placed1 hz (h x hx))]; exact changes_check hz h
theorem foldL_sects {im : Img} {l : List Wr} (hz : sizesN (lens im) = 0) (h : ∀ x ∈ l, fitsN (lens im) x = 0) : sectsL (foldL l) ≤ sectsL l := by
  rw [foldL_ok (fun x hx => fits_placed1 hz (h x hx))]; exact sects_le l
/-- APPLY: what is saved for the last item takes the writes back -/
theorem apply_back {im : Img} {ws d : List Wr} (hz : sizesN (lens im) = 0) (hf : ∀ x ∈ ws, fitsN (lens im) x = 0) (hd : ∀ x ∈ d, fitsN (lens im) x = 0) : putAll (putAll im ws) (foldL (contL im ws ++ d)) = putAll im d := by
  have hl := putAll_lens hf
  have hall : ∀ x ∈ contL im ws ++ d, fitsN (lens (putAll im ws)) x = 0 := by
    rw [hl]
    intro x hx
    rcases List.mem_append.1 hx with hx | hx
    · exact contL_fits hf x hx
    · exact hd x hx
  rw [foldL_put (by rw [hl]; exact hz) hall, putAll_app, put_back hf]

/-- the images of all items -/
def imgs (im : Img) : List Snp → List Img
  | [] => []
  | x :: l => atL im (x :: l) :: imgs im l
theorem atL_app (im : Img) (p q : List Snp) : atL im (p ++ q) = atL (atL im q) p := by
  unfold atL; rw [List.reverse_append, List.foldl_append]
theorem atL_one (im : Img) (x : Snp) : atL im [x] = putAll im x.2.2 := rfl
theorem atL_cons (im : Img) (x : Snp) (l : List Snp) : atL im (x :: l) = putAll (atL im l) x.2.2 := by
  rw [show x :: l = [x] ++ l from rfl, atL_app, atL_one]
theorem imgs_app (im : Img) (p q : List Snp) : imgs im (p ++ q) = imgs (atL im q) p ++ imgs im q := by
  induction p with
  | nil => rfl
  | cons x p ih =>
    show atL im (x :: (p ++ q)) :: imgs im (p ++ q) = atL (atL im q) (x :: p) :: (imgs (atL im q) p ++ imgs im q)
    rw [ih, show x :: (p ++ q) = (x :: p) ++ q from rfl, atL_app]
theorem imgs_len (im : Img) (l : List Snp) : (imgs im l).length = l.length := by
  induction l with
  | nil => rfl
  | cons x l ih => simp [imgs, ih]
theorem imgs_at {im : Img} : ∀ {l : List Snp} {j : Nat} (h : j < l.length), (imgs im l)[j]? = some (atL im (l.drop j))
  | x :: l, 0, _ => rfl
  | x :: l, j + 1, h => by
    show (imgs im l)[j]? = _
    rw [imgs_at (by simpa using h)]; rfl
theorem setLast_snoc (r : List Snp) (x : Snp) (f : List Wr → List Wr) : setLast (r ++ [x]) f = r ++ [(x.1, x.2.1, f x.2.2)] := by
  unfold setLast; rw [List.getLast?_concat]; simp
/-- the number and the time -/
def keyS (x : Snp) : Int × Int := (x.1, x.2.1)
def SnOk (sz : List Int) (l : List Snp) : Prop := (∀ x ∈ l, inT x.1 = true ∧ inT x.2.1 = true ∧ chkS x.2.2 sz = 0) ∧ (l.map keyS).Pairwise fun x y => x.1 < y.1 ∧ x.2 ≤ y.2
theorem snpE_iff {sz : List Int} {a b : Int} {x : Snp} : snpE sz a b x = 0 ↔ inT x.1 = true ∧ a < x.1 ∧ inT x.2.1 = true ∧ b ≤ x.2.1 ∧ chkS x.2.2 sz = 0 := by
  unfold snpE
  by_cases h1 : inT x.1 = false
  · simp [h1]
  · by_cases h2 : x.1 ≤ a
    · rw [if_neg h1, if_pos h2]
      constructor
      · intro h; simp at h
      · intro h; omega
    · by_cases h3 : inT x.2.1 = false ∨ x.2.1 < b
      · rw [if_neg h1, if_neg h2, if_pos h3]
        constructor
        · intro h; simp at h
        · rintro ⟨_, _, k1, k2, _⟩
          rcases h3 with h3 | h3
          · rw [h3] at k1; cases k1
          · omega
      · rw [if_neg h1, if_neg h2, if_neg h3]
        simp only [not_or, Int.not_lt, Bool.not_eq_false] at h1 h3
        exact ⟨fun h => ⟨h1, by omega, h3.1, h3.2, h⟩, fun h => h.2.2.2.2⟩
theorem snpsE_iff {sz : List Int} : ∀ {l : List Snp} {a b : Int}, snpsE sz a b l = 0 ↔ (∀ x ∈ l, a < x.1 ∧ b ≤ x.2.1) ∧ SnOk sz l
  | [], a, b => by simp [snpsE, SnOk]
  | x :: l, a, b => by
    have hc : snpsE sz a b (x :: l) = 0 ↔ snpE sz a b x = 0 ∧ snpsE sz x.1 x.2.1 l = 0 := by
      rw [show snpsE sz a b (x :: l) = if snpE sz a b x ≠ 0 then snpE sz a b x else snpsE sz x.1 x.2.1 l from rfl]
      by_cases h : snpE sz a b x = 0 <;> simp [h]
    rw [hc, snpE_iff, snpsE_iff]
    unfold SnOk
    simp only [List.map_cons, List.pairwise_cons, List.mem_cons, forall_eq_or_imp, List.forall_mem_map, keyS]
    constructor
    · rintro ⟨⟨h1, h2, h3, h4, h5⟩, h6, h7, h8⟩
      exact ⟨⟨⟨h2, h4⟩, fun y hy => by have := h6 y hy; omega⟩, ⟨⟨h1, h3, h5⟩, h7⟩, h6, h8⟩
    · rintro ⟨⟨⟨h2, h4⟩, _⟩, ⟨⟨h1, h3, h5⟩, h7⟩, h6, h8⟩
      exact ⟨⟨h1, h2, h3, h4, h5⟩, h6, h7, h8⟩
theorem snE_iff {im : Img} {l : List Snp} : snE (im, l) = 0 ↔ sizesN (lens im) = 0 ∧ l.length ≤ 1024 ∧ SnOk (lens im) l := by
  unfold snE
  simp only
  by_cases h1 : sizesN (lens im) = 0
  · by_cases h2 : 1024 < l.length
    · rw [if_neg (by simp [h1]), if_pos h2]
      constructor
      · intro h; simp at h
      · intro h; omega
    · rw [if_neg (by simp [h1]), if_neg h2, snpsE_iff]
      exact ⟨fun h => ⟨h1, by omega, h.2⟩, fun h => ⟨fun x hx => by
        have := h.2.2.1 x hx
        simp only [inT, decide_eq_true_eq] at this
        omega, h.2.2⟩⟩
  · rw [if_pos h1]
    exact ⟨fun h => absurd h h1, fun h => absurd h.1 h1⟩
theorem SnOk.sub {sz : List Int} {l m : List Snp} (h : SnOk sz l) (hs : m.Sublist l) : SnOk sz m := ⟨fun x hx => h.1 x (hs.subset hx), h.2.sublist (hs.map _)⟩
theorem SnOk.keys {sz : List Int} {l m : List Snp} (h : SnOk sz l) (hk : m.map keyS = l.map keyS) (hc : ∀ x ∈ m, chkS x.2.2 sz = 0) : SnOk sz m := by
  refine ⟨fun x hx => ?_, by rw [hk]; exact h.2⟩
  have : keyS x ∈ l.map keyS := by rw [← hk]; exact List.mem_map_of_mem hx
  obtain ⟨y, hy, e⟩ := List.mem_map.1 this
  simp only [keyS, Prod.mk.injEq] at e
  have := h.1 y hy
  rw [e.1, e.2] at this
  exact ⟨this.1, this.2.1, hc x hx⟩
/-- the place of a number -/
theorem find_at {im : Img} {l : List Snp} (h : snE (im, l) = 0) {k : Nat} (hk : k < l.length) : findE (im, l) l[k].1 = 0 ∧ findN (im, l) l[k].1 = k := by
  have ho := (snE_iff.1 h).2.2.2
  have hf : findI l l[k].1 = some k := by
    unfold findI
    rw [List.findIdx?_eq_some_iff_getElem]
    refine ⟨hk, by simp, fun j hj => ?_⟩
    have h1 := (List.pairwise_iff_getElem.1 ho) j k (by rw [List.length_map]; omega) (by rw [List.length_map]; exact hk) hj
    simp only [List.getElem_map, keyS] at h1
    simp; omega
  have he : findE (im, l) l[k].1 = 0 := by
    unfold findE
    rw [if_neg (by rw [h]; simp)]
    simp [hf]
  exact ⟨he, by unfold findN; rw [if_pos he]; simp [hf]⟩
end Go.Proofs.YtnkmklnlaepdeaaGreat

namespace Go.Proofs.YtnkmklnlaepdeaaGreat

abbrev Kpt := Int × Img × Int
abbrev Stp := Int × Int × Int × Int × Int
/-- what holds behind k steps: the snapshots, what is remembered of them -/
structure RInv (k : Nat) (im : Img) (l : List Snp) (all : List Kpt) : Prop where
  lens : lens im = [5, 3]
  ok : snE (im, l) = 0
  ims : imgs im l = all.map (·.2.1)
  key : l.map keyS = all.map fun e => (e.1, e.2.2)
  st : ∀ e ∈ all, e.1 = 10 + e.2.2 ∧ 0 ≤ e.2.2 ∧ e.2.2 < k
  len : all.length ≤ k
theorem RInv.len2 {k : Nat} {im : Img} {l : List Snp} {all : List Kpt} (h : RInv k im l all) : l.length = all.length := by
  have := congrArg List.length h.key
  simpa using this
theorem sizes53 : sizesN [5, 3] = 0 := by decide
theorem applyE_ok {im : Img} {l : List Wr} (hz : sizesN (lens im) = 0) (hf : ∀ x ∈ l, fitsN (lens im) x = 0) : applyErr im l = 0 := by
  unfold applyErr; rw [if_neg (by rw [hz]; simp), errOf_zero hf]
theorem RInv.fits {k : Nat} {im : Img} {l : List Snp} {all : List Kpt} (h : RInv k im l all) : ∀ x ∈ l, ∀ y ∈ x.2.2, fitsN (Proofs.YtnkmklnlaepdeaaGreat.lens im) y = 0 := (snE_ok h.ok).2
theorem RInv.apply {k : Nat} {im : Img} {l : List Snp} {all : List Kpt} (h : RInv k im l all) {ws : List Wr} (hf : ∀ x ∈ ws, fitsN [5, 3] x = 0) :
    sApplyE (im, l) ws = 0 ∧ applyErr im ws = 0 ∧ RInv (k + 1) (putAll im ws) (setLast l fun d => foldL (contL im ws ++ d)) all := by
  obtain ⟨hz, hlen, hok⟩ := snE_iff.1 h.ok
  have hfi := h.fits
  have hf' : ∀ x ∈ ws, fitsN (Proofs.YtnkmklnlaepdeaaGreat.lens im) x = 0 := by rw [h.lens]; exact hf
  have hae := applyE_ok hz hf'
  have hl := putAll_lens hf'
  refine ⟨by unfold sApplyE; rw [if_neg (by rw [h.ok]; simp)]; exact hae, hae, ?_⟩
  have hst : ∀ e ∈ all, e.1 = 10 + e.2.2 ∧ 0 ≤ e.2.2 ∧ e.2.2 < ((k + 1 : Nat) : Int) := fun e he => by have := h.st e he; omega
  rcases List.eq_nil_or_concat l with rfl | ⟨r, x, rfl⟩
  · refine ⟨by rw [hl, h.lens], ?_, h.ims, h.key, hst, by have := h.len; omega⟩
    rw [setLast_nil, snE_iff, hl]
    exact ⟨hz, by simp, hok⟩
  · rw [List.concat_eq_append] at h hlen hok hfi ⊢
    have hx : ∀ y ∈ x.2.2, fitsN (Proofs.YtnkmklnlaepdeaaGreat.lens im) y = 0 := hfi x (by simp)
    rw [setLast_snoc]
    have hall : ∀ y ∈ contL im ws ++ x.2.2, fitsN (Proofs.YtnkmklnlaepdeaaGreat.lens im) y = 0 := by
      intro y hy
      rcases List.mem_append.1 hy with hy | hy
      · exact contL_fits hf' y hy
      · exact hx y hy
    have hkey : (r ++ [(x.1, x.2.1, foldL (contL im ws ++ x.2.2))]).map keyS = (r ++ [x]).map keyS := by simp [keyS]
    refine ⟨by rw [hl, h.lens], ?_, ?_, by rw [hkey]; exact h.key, hst, by have := h.len; omega⟩
    · rw [snE_iff, hl]
      refine ⟨hz, by simpa using hlen, hok.keys hkey ?_⟩
      intro y hy
      rcases List.mem_append.1 hy with hy | hy
      · exact (hok.1 y (by simp [hy])).2.2
      · rw [List.mem_singleton.1 hy]
        exact foldL_chk hz hall
    · rw [← h.ims, imgs_app, imgs_app]
      have e : atL (putAll im ws) [(x.1, x.2.1, foldL (contL im ws ++ x.2.2))] = atL im [x] := by
        rw [atL_one, atL_one]
        exact apply_back hz hf' hx
      show imgs (atL (putAll im ws) [(x.1, x.2.1, foldL (contL im ws ++ x.2.2))]) r ++ [atL (putAll im ws) [(x.1, x.2.1, foldL (contL im ws ++ x.2.2))]] = imgs (atL im [x]) r ++ [atL im [x]]
      rw [e]
theorem chk_nil {sz : List Int} (hz : sizesN sz = 0) : chkS [] sz = 0 := by
  unfold chkS; rw [if_neg (by rw [hz]; simp)]; rfl
theorem last_key {k : Nat} {im : Img} {l : List Snp} {all : List Kpt} (h : RInv k im l all) : lastN l < 10 + (k : Int) ∧ (lastT l < (k : Int) ∨ lastT l = 0) ∧ lastT l ≤ k := by
  unfold lastN lastT
  rcases List.eq_nil_or_concat l with rfl | ⟨r, x, rfl⟩
  · simp; omega
  · rw [List.concat_eq_append] at h ⊢
    have hm : keyS x ∈ all.map fun e => (e.1, e.2.2) := by rw [← h.key]; simp
    obtain ⟨e, he, e2⟩ := List.mem_map.1 hm
    have := h.st e he
    simp only [keyS, Prod.mk.injEq] at e2
    rw [List.getLast?_concat]
    simp only [Option.map_some, Option.getD_some]
    omega
theorem RInv.take {k : Nat} {im : Img} {l : List Snp} {all : List Kpt} (h : RInv k im l all) (hk : k ≤ 100) :
    takeE (im, l) (10 + k) k = 0 ∧ RInv (k + 1) im (l ++ [((10 + k : Int), (k : Int), [])]) (all ++ [((10 + k : Int), im, (k : Int))]) := by
  obtain ⟨hz, hlen, hok⟩ := snE_iff.1 h.ok
  have hl := h.len2
  have hln := h.len
  obtain ⟨h1, h2, h3⟩ := last_key h
  have i1 : inT (10 + k) = true := by simp only [inT, decide_eq_true_eq]; omega
  have i2 : inT k = true := by simp only [inT, decide_eq_true_eq]; omega
  have hte : takeE (im, l) (10 + k) k = 0 := by
    unfold takeE
    rw [if_neg (by rw [h.ok]; simp), if_neg (by rw [i1]; simp)]
    simp only
    rw [if_neg (by omega), if_neg (by rw [i2]; simp; omega), if_neg (by omega)]
  refine ⟨hte, h.lens, ?_, ?_, ?_, ?_, ?_⟩
  · unfold snE
    simp only
    rw [if_neg (by rw [hz]; simp), if_neg (by simp; omega), snpsE_snoc]
    have h0 : snpsE (Proofs.YtnkmklnlaepdeaaGreat.lens im) (-1) 0 l = 0 := by
      have := h.ok
      unfold snE at this
      simp only at this
      rwa [if_neg (by rw [hz]; simp), if_neg (by omega)] at this
    rw [if_neg (by rw [h0]; simp), snpE_iff]
    exact ⟨i1, h1, i2, h3, chk_nil hz⟩
  · rw [imgs_app, List.map_append]
    have e : atL im [((10 + k : Int), (k : Int), ([] : List Wr))] = im := rfl
    show imgs (atL im [((10 + k : Int), (k : Int), ([] : List Wr))]) l ++ [atL im [((10 + k : Int), (k : Int), ([] : List Wr))]] = _
    rw [e, h.ims]; rfl
  · rw [List.map_append, List.map_append, h.key]; rfl
  · intro e he
    rcases List.mem_append.1 he with he | he
    · have := h.st e he; omega
    · rw [List.mem_singleton.1 he]; exact ⟨rfl, by show (0 : Int) ≤ (k : Int); omega, by show (k : Int) < ((k + 1 : Nat) : Int); omega⟩
  · simp; omega
theorem atL_lens' {im : Img} : ∀ {l : List Snp}, (∀ x ∈ l, ∀ y ∈ x.2.2, fitsN (lens im) y = 0) → lens (atL im l) = lens im
  | [], _ => rfl
  | x :: l, h => by
    have h2 := atL_lens' (l := l) (fun y hy => h y (List.mem_cons_of_mem _ hy))
    rw [atL_cons, putAll_lens (by rw [h2]; exact h x (List.mem_cons_self)), h2]
theorem split2 {l : List Snp} {i : Nat} (h : i + 1 < l.length) : l = l.take i ++ l[i] :: l[i + 1] :: l.drop (i + 2) := by
  conv => lhs; rw [← List.take_append_drop i l, List.drop_eq_getElem_cons (by omega), List.drop_eq_getElem_cons h]
theorem delL_split (a b : List Snp) (y x : Snp) : delL (a ++ y :: x :: b) (a.length + 1) = a ++ (y.1, y.2.1, foldL (x.2.2 ++ y.2.2)) :: b := by
  have e1 : (a ++ y :: x :: b).take (a.length + 1) = a ++ [y] := by
    rw [show a ++ y :: x :: b = (a ++ [y]) ++ (x :: b) by simp, List.take_left' (by simp)]
  have e2 : (a ++ y :: x :: b).drop (a.length + 2) = b := by
    rw [show a ++ y :: x :: b = (a ++ [y, x]) ++ b by simp, List.drop_left' (by simp)]
  have e3 : (a ++ y :: x :: b).getD (a.length + 1) (0, 0, []) = x := by
    rw [List.getD_eq_getElem?_getD, List.getElem?_append_right (by omega)]; simp
  show setLast ((a ++ y :: x :: b).take (a.length + 1)) (fun d => foldL (((a ++ y :: x :: b).getD (a.length + 1) (0, 0, [])).2.2 ++ d)) ++ (a ++ y :: x :: b).drop (a.length + 2) = _
  rw [e1, e2, e3, setLast_snoc]; simp
theorem erase_map {α β : Type} (f : α → β) (l : List α) (j : Nat) : (l.map f).eraseIdx j = (l.eraseIdx j).map f := by
  induction l generalizing j with
  | nil => rfl
  | cons x l ih => cases j with
    | zero => rfl
    | succ j => simp [ih]
theorem erase_at {α : Type} (a b : List α) (x : α) : (a ++ x :: b).eraseIdx a.length = a ++ b := by
  rw [List.eraseIdx_append_of_length_le (Nat.le_refl _), Nat.sub_self]; rfl
/-- DELETE: the other items keep their images, their numbers, their times -/
theorem del_facts {im : Img} {l : List Snp} {j : Nat} (h : snE (im, l) = 0) (hj : j < l.length) :
    imgs im (delL l j) = (imgs im l).eraseIdx j ∧ (delL l j).map keyS = (l.map keyS).eraseIdx j ∧ snE (im, delL l j) = 0 ∧ sCost (im, delL l j) ≤ sCost (im, l) := by
  obtain ⟨hz, hlen, hok⟩ := snE_iff.1 h
  have hfi := (snE_ok h).2
  have hcost : ∀ m, snE (im, m) = 0 → sCost (im, m) = (m.map fun x => sectsL x.2.2).sum := fun m hm => by
    unfold sCost; rw [if_neg (by rw [hm]; simp)]
  cases j with
  | zero =>
    obtain ⟨x, b, rfl⟩ : ∃ x b, l = x :: b := by
      cases l with
      | nil => simp at hj
      | cons x b => exact ⟨x, b, rfl⟩
    have hd : delL (x :: b) 0 = b := rfl
    rw [hd]
    have hs : snE (im, b) = 0 := snE_iff.2 ⟨hz, by simp at hlen; omega, hok.sub (List.sublist_cons_self x b)⟩
    refine ⟨rfl, rfl, hs, ?_⟩
    rw [hcost _ hs, hcost _ h]; simp
  | succ i =>
    have hsp := split2 hj
    obtain ⟨a, ha⟩ : ∃ a, l.take i = a := ⟨_, rfl⟩
    obtain ⟨y, hy⟩ : ∃ y, l[i] = y := ⟨_, rfl⟩
    obtain ⟨x, hx⟩ : ∃ x, l[i + 1] = x := ⟨_, rfl⟩
    obtain ⟨b, hb⟩ : ∃ b, l.drop (i + 2) = b := ⟨_, rfl⟩
    have hal : a.length = i := by rw [← ha]; simp; omega
    rw [ha, hy, hx, hb] at hsp
    clear ha hy hx hb
    subst hal
    subst hsp
    have hfy : ∀ q ∈ y.2.2, fitsN (Proofs.YtnkmklnlaepdeaaGreat.lens im) q = 0 := hfi y (by simp)
    have hfx : ∀ q ∈ x.2.2, fitsN (Proofs.YtnkmklnlaepdeaaGreat.lens im) q = 0 := hfi x (by simp)
    have hall : ∀ q ∈ x.2.2 ++ y.2.2, fitsN (Proofs.YtnkmklnlaepdeaaGreat.lens im) q = 0 := fun q hq => (List.mem_append.1 hq).elim (hfx q) (hfy q)
    rw [delL_split]
    obtain ⟨y', hy'⟩ : ∃ y' : Snp, (y.1, y.2.1, foldL (x.2.2 ++ y.2.2)) = y' := ⟨_, rfl⟩
    rw [hy']
    have hkey : (a ++ y' :: b).map keyS = ((a ++ y :: x :: b).map keyS).eraseIdx (a.length + 1) := by
      rw [show (a ++ y :: x :: b).map keyS = (a ++ [y]).map keyS ++ keyS x :: b.map keyS by simp, show a.length + 1 = ((a ++ [y]).map keyS).length by simp, erase_at, ← hy']; simp [keyS]
    have hsub : (a ++ y :: b).Sublist (a ++ y :: x :: b) := by
      refine List.Sublist.append (List.Sublist.refl _) (List.Sublist.cons_cons _ (List.sublist_cons_self x b))
    have hs : snE (im, a ++ y' :: b) = 0 := by
      refine snE_iff.2 ⟨hz, by simp at hlen ⊢; omega, (hok.sub hsub).keys (by rw [← hy']; simp [keyS]) ?_⟩
      intro q hq
      rcases List.mem_append.1 hq with hq | hq
      · exact (hok.1 q (by simp [hq])).2.2
      · rcases List.mem_cons.1 hq with rfl | hq
        · rw [← hy']; exact foldL_chk hz hall
        · exact (hok.1 q (by simp [hq])).2.2
    refine ⟨?_, hkey, hs, ?_⟩
    · have hBl : lens (atL im b) = lens im := atL_lens' (fun q hq r hr => hfi q (by simp [hq]) r hr)
      have e : atL (atL im b) [y'] = atL (atL im (x :: b)) [y] := by
        rw [atL_one, atL_one, atL_cons, ← hy']
        show putAll (atL im b) (foldL (x.2.2 ++ y.2.2)) = _
        rw [foldL_put (by rw [hBl]; exact hz) (by rw [hBl]; exact hall), putAll_app]
      have e1 : imgs im (a ++ y' :: b) = imgs (atL (atL im b) [y']) a ++ atL (atL im b) [y'] :: imgs im b := by
        rw [imgs_app, show y' :: b = [y'] ++ b from rfl, atL_app, imgs_app]; rfl
      have e2 : imgs im (a ++ y :: x :: b) = (imgs (atL (atL im (x :: b)) [y]) a ++ [atL (atL im (x :: b)) [y]]) ++ atL im (x :: b) :: imgs im b := by
        rw [imgs_app, show y :: x :: b = [y] ++ (x :: b) from rfl, atL_app, imgs_app]
        simp [imgs]
      rw [e1, e2, e, show a.length + 1 = (imgs (atL (atL im (x :: b)) [y]) a ++ [atL (atL im (x :: b)) [y]]).length by simp [imgs_len], erase_at]
      simp
    · rw [hcost _ hs, hcost _ h]
      have hle := foldL_sects hz hall
      have e3 : sectsL (x.2.2 ++ y.2.2) = sectsL x.2.2 + sectsL y.2.2 := by unfold sectsL; simp
      rw [e3] at hle
      have e4 : y'.2.2 = foldL (x.2.2 ++ y.2.2) := by rw [← hy']
      simp only [List.map_append, List.map_cons, List.sum_append, List.sum_cons, e4]
      omega
theorem RInv.delete {k : Nat} {im : Img} {l : List Snp} {all : List Kpt} (h : RInv k im l all) {j : Nat} (hj : j < all.length) :
    findE (im, l) all[j].1 = 0 ∧ findN (im, l) all[j].1 = j ∧ RInv (k + 1) im (delL l j) (all.eraseIdx j) ∧ sCost (im, delL l j) ≤ sCost (im, l) := by
  have hl := h.len2
  have hjl : j < l.length := by omega
  have hk : l[j].1 = all[j].1 := by
    have := congrArg (fun m => (m[j]?).map (·.1)) h.key
    simpa [keyS, hj, hjl] using this
  obtain ⟨f1, f2⟩ := find_at h.ok hjl
  rw [hk] at f1 f2
  obtain ⟨d1, d2, d3, d4⟩ := del_facts h.ok hjl
  refine ⟨f1, f2, ⟨h.lens, d3, ?_, ?_, ?_, ?_⟩, d4⟩
  · rw [d1, h.ims, erase_map]
  · rw [d2, h.key, erase_map]
  · intro e he; have := h.st e ((List.eraseIdx_sublist all j).subset he); omega
  · have := h.len; have := List.length_eraseIdx_le all j; omega
theorem RInv.revert {k : Nat} {im : Img} {l : List Snp} {all : List Kpt} (h : RInv k im l all) {j : Nat} (hj : j < all.length) :
    findE (im, l) all[j].1 = 0 ∧ findN (im, l) all[j].1 = j ∧ atL im (l.drop j) = all[j].2.1 ∧ RInv (k + 1) all[j].2.1 (setLast (l.take (j + 1)) fun _ => []) (all.take (j + 1)) := by
  have hl := h.len2
  have hjl : j < l.length := by omega
  have hk : l[j].1 = all[j].1 := by
    have := congrArg (fun m => (m[j]?).map (·.1)) h.key
    simpa [keyS, hj, hjl] using this
  obtain ⟨f1, f2⟩ := find_at h.ok hjl
  rw [hk] at f1 f2
  obtain ⟨hz, hlen, hok⟩ := snE_iff.1 h.ok
  have hat : atL im (l.drop j) = all[j].2.1 := by
    have h1 := imgs_at (im := im) hjl
    rw [h.ims] at h1
    simpa [hj] using h1.symm
  have hll : Proofs.YtnkmklnlaepdeaaGreat.lens (atL im (l.drop j)) = Proofs.YtnkmklnlaepdeaaGreat.lens im := atL_lens' (fun q hq r hr => h.fits q (List.mem_of_mem_drop hq) r hr)
  have ht : l.take (j + 1) = l.take j ++ [l[j]] := List.take_succ_eq_append_getElem hjl
  refine ⟨f1, f2, hat, ?_⟩
  rw [← hat, ht, setLast_snoc]
  have hkey : (l.take j ++ [(l[j].1, l[j].2.1, ([] : List Wr))]).map keyS = (l.take (j + 1)).map keyS := by rw [ht, List.map_append, List.map_append]; rfl
  refine ⟨by rw [hll, h.lens], ?_, ?_, ?_, ?_, ?_⟩
  · rw [snE_iff, hll]
    refine ⟨hz, by simp; omega, (hok.sub (List.take_sublist (j + 1) l)).keys hkey ?_⟩
    intro q hq
    rcases List.mem_append.1 hq with hq | hq
    · exact (hok.1 q (List.mem_of_mem_take hq)).2.2
    · rw [List.mem_singleton.1 hq]; exact chk_nil hz
  · have e1 : imgs im l = imgs (atL im (l.drop j)) (l.take j) ++ imgs im (l.drop j) := by
      conv => lhs; rw [← List.take_append_drop j l]
      rw [imgs_app]
    have e2 : imgs im (l.drop j) = atL im (l.drop j) :: imgs im (l.drop (j + 1)) := by
      rw [List.drop_eq_getElem_cons hjl]; rfl
    rw [imgs_app, List.map_take, ← h.ims, e1, e2]
    have e3 : atL (atL im (l.drop j)) [(l[j].1, l[j].2.1, ([] : List Wr))] = atL im (l.drop j) := rfl
    rw [e3]
    have hlen' : (imgs (atL im (l.drop j)) (l.take j)).length = j := by rw [imgs_len]; simp; omega
    obtain ⟨P, hP⟩ : ∃ P, imgs (atL im (l.drop j)) (l.take j) = P := ⟨_, rfl⟩
    obtain ⟨Q, hQ⟩ : ∃ Q, imgs im (l.drop (j + 1)) = Q := ⟨_, rfl⟩
    have e4 : imgs (atL im (l.drop j)) [(l[j].1, l[j].2.1, ([] : List Wr))] = [atL im (l.drop j)] := rfl
    rw [hP] at hlen'
    rw [hP, hQ, e4, show P ++ atL im (l.drop j) :: Q = (P ++ [atL im (l.drop j)]) ++ Q by simp, List.take_left' (by simp; exact hlen')]
  · rw [hkey, List.map_take, h.key, List.map_take]
  · intro e he; have := h.st e (List.mem_of_mem_take he); omega
  · have := h.len; simp; omega
end Go.Proofs.YtnkmklnlaepdeaaGreat

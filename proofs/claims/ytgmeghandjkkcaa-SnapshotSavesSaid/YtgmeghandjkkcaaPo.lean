/-
  Plain words: a run of steps over snapshots. No program in sight.
-/
import Derived.Test.YtgmeghandjkkcaaPn
set_option linter.unusedVariables false
set_option linter.unusedSimpArgs false
set_option linter.unusedSectionVars false
set_option linter.unnecessarySimpa false
namespace Go.Proofs.Ytgmeghandjkkcaa

abbrev Kpt := Int × Img × Int
abbrev Stp := Int × Int × Int × Int × Int
/-- what holds behind k steps: the snapshots, what is remembered of them -/
structure RInv (k : Nat) (im : Img) (l : List Snp) (all : List Kpt) : Prop where
  lens : lens im = [5, 3]
  ok : snE (im, l) = 0
  ims : imgs im l = all.map (·.2.1)
  key : l.map keyS = all.map fun e => (e.1, e.2.2)
  st : ∀ e ∈ all, e.1 = 10 + e.2.2 ∧ 0 ≤ e.2.2 ∧ e.2.2 < k
  len : all.length ≤ k
theorem RInv.len2 {k : Nat} {im : Img} {l : List Snp} {all : List Kpt} (h : RInv k im l all) : l.length = all.length := by
  have := congrArg List.length h.key
  simpa using this
theorem sizes53 : sizesN [5, 3] = 0 := by decide
theorem applyE_ok {im : Img} {l : List Wr} (hz : sizesN (lens im) = 0) (hf : ∀ x ∈ l, fitsN (lens im) x = 0) : applyErr im l = 0 := by
  unfold applyErr; rw [if_neg (by rw [hz]; simp), errOf_zero hf]
theorem RInv.fits {k : Nat} {im : Img} {l : List Snp} {all : List Kpt} (h : RInv k im l all) : ∀ x ∈ l, ∀ y ∈ x.2.2, fitsN (Proofs.Ytgmeghandjkkcaa.lens im) y = 0 := (snE_ok h.ok).2
theorem RInv.apply {k : Nat} {im : Img} {l : List Snp} {all : List Kpt} (h : RInv k im l all) {ws : List Wr} (hf : ∀ x ∈ ws, fitsN [5, 3] x = 0) :
    sApplyE (im, l) ws = 0 ∧ applyErr im ws = 0 ∧ RInv (k + 1) (putAll im ws) (setLast l fun d => foldL (contL im ws ++ d)) all := by
  obtain ⟨hz, hlen, hok⟩ := snE_iff.1 h.ok
  have hfi := h.fits
  have hf' : ∀ x ∈ ws, fitsN (Proofs.Ytgmeghandjkkcaa.lens im) x = 0 := by rw [h.lens]; exact hf
  have hae := applyE_ok hz hf'
  have hl := putAll_lens hf'
  refine ⟨by unfold sApplyE; rw [if_neg (by rw [h.ok]; simp)]; exact hae, hae, ?_⟩
  have hst : ∀ e ∈ all, e.1 = 10 + e.2.2 ∧ 0 ≤ e.2.2 ∧ e.2.2 < ((k + 1 : Nat) : Int) := fun e he => by have := h.st e he; omega
  rcases List.eq_nil_or_concat l with rfl | ⟨r, x, rfl⟩
  · refine ⟨by rw [hl, h.lens], ?_, h.ims, h.key, hst, by have := h.len; omega⟩
    rw [setLast_nil, snE_iff, hl]
    exact ⟨hz, by simp, hok⟩
  · rw [List.concat_eq_append] at h hlen hok hfi ⊢
    have hx : ∀ y ∈ x.2.2, fitsN (Proofs.Ytgmeghandjkkcaa.lens im) y = 0 := hfi x (by simp)
    rw [setLast_snoc]
    have hall : ∀ y ∈ contL im ws ++ x.2.2, fitsN (Proofs.Ytgmeghandjkkcaa.lens im) y = 0 := by
      intro y hy
      rcases List.mem_append.1 hy with hy | hy
      · exact contL_fits hf' y hy
      · exact hx y hy
    have hkey : (r ++ [(x.1, x.2.1, foldL (contL im ws ++ x.2.2))]).map keyS = (r ++ [x]).map keyS := by simp [keyS]
    refine ⟨by rw [hl, h.lens], ?_, ?_, by rw [hkey]; exact h.key, hst, by have := h.len; omega⟩
    · rw [snE_iff, hl]
      refine ⟨hz, by simpa using hlen, hok.keys hkey ?_⟩
      intro y hy
      rcases List.mem_append.1 hy with hy | hy
      · exact (hok.1 y (by simp [hy])).2.2
      · rw [List.mem_singleton.1 hy]
        exact foldL_chk hz hall
    · rw [← h.ims, imgs_app, imgs_app]
      have e : atL (putAll im ws) [(x.1, x.2.1, foldL (contL im ws ++ x.2.2))] = atL im [x] := by
        rw [atL_one, atL_one]
        exact apply_back hz hf' hx
      show imgs (atL (putAll im ws) [(x.1, x.2.1, foldL (contL im ws ++ x.2.2))]) r ++ [atL (putAll im ws) [(x.1, x.2.1, foldL (contL im ws ++ x.2.2))]] = imgs (atL im [x]) r ++ [atL im [x]]
      rw [e]
theorem chk_nil {sz : List Int} (hz : sizesN sz = 0) : chkS [] sz = 0 := by
  unfold chkS; rw [if_neg (by rw [hz]; simp)]; rfl
theorem last_key {k : Nat} {im : Img} {l : List Snp} {all : List Kpt} (h : RInv k im l all) : lastN l < 10 + (k : Int) ∧ (lastT l < (k : Int) ∨ lastT l = 0) ∧ lastT l ≤ k := by
  unfold lastN lastT
  rcases List.eq_nil_or_concat l with rfl | ⟨r, x, rfl⟩
  · simp; omega
  · rw [List.concat_eq_append] at h ⊢
    have hm : keyS x ∈ all.map fun e => (e.1, e.2.2) := by rw [← h.key]; simp
    obtain ⟨e, he, e2⟩ := List.mem_map.1 hm
    have := h.st e he
    simp only [keyS, Prod.mk.injEq] at e2
    rw [List.getLast?_concat]
    simp only [Option.map_some, Option.getD_some]
    omega
theorem RInv.take {k : Nat} {im : Img} {l : List Snp} {all : List Kpt} (h : RInv k im l all) (hk : k ≤ 100) :
    takeE (im, l) (10 + k) k = 0 ∧ RInv (k + 1) im (l ++ [((10 + k : Int), (k : Int), [])]) (all ++ [((10 + k : Int), im, (k : Int))]) := by
  obtain ⟨hz, hlen, hok⟩ := snE_iff.1 h.ok
  have hl := h.len2
  have hln := h.len
  obtain ⟨h1, h2, h3⟩ := last_key h
  have i1 : inT (10 + k) = true := by simp only [inT, decide_eq_true_eq]; omega
  have i2 : inT k = true := by simp only [inT, decide_eq_true_eq]; omega
  have hte : takeE (im, l) (10 + k) k = 0 := by
    unfold takeE
    rw [if_neg (by rw [h.ok]; simp), if_neg (by rw [i1]; simp)]
    simp only
    rw [if_neg (by omega), if_neg (by rw [i2]; simp; omega), if_neg (by omega)]
  refine ⟨hte, h.lens, ?_, ?_, ?_, ?_, ?_⟩
  · unfold snE
    simp only
    rw [if_neg (by rw [hz]; simp), if_neg (by simp; omega), snpsE_snoc]
    have h0 : snpsE (Proofs.Ytgmeghandjkkcaa.lens im) (-1) 0 l = 0 := by
      have := h.ok
      unfold snE at this
      simp only at this
      rwa [if_neg (by rw [hz]; simp), if_neg (by omega)] at this
    rw [if_neg (by rw [h0]; simp), snpE_iff]
    exact ⟨i1, h1, i2, h3, chk_nil hz⟩
  · rw [imgs_app, List.map_append]
    have e : atL im [((10 + k : Int), (k : Int), ([] : List Wr))] = im := rfl
    show imgs (atL im [((10 + k : Int), (k : Int), ([] : List Wr))]) l ++ [atL im [((10 + k : Int), (k : Int), ([] : List Wr))]] = _
    rw [e, h.ims]; rfl
  · rw [List.map_append, List.map_append, h.key]; rfl
  · intro e he
    rcases List.mem_append.1 he with he | he
    · have := h.st e he; omega
    · rw [List.mem_singleton.1 he]; exact ⟨rfl, by show (0 : Int) ≤ (k : Int); omega, by show (k : Int) < ((k + 1 : Nat) : Int); omega⟩
  · simp; omega
theorem atL_lens' {im : Img} : ∀ {l : List Snp}, (∀ x ∈ l, ∀ y ∈ x.2.2, fitsN (lens im) y = 0) → lens (atL im l) = lens im
  | [], _ => rfl
  | x :: l, h => by
    have h2 := atL_lens' (l := l) (fun y hy => h y (List.mem_cons_of_mem _ hy))
    rw [atL_cons, putAll_lens (by rw [h2]; exact h x (List.mem_cons_self)), h2]
theorem split2 {l : List Snp} {i : Nat} (h : i + 1 < l.length) : l = l.take i ++ l[i] :: l[i + 1] :: l.drop (i + 2) := by
  conv => lhs; rw [← List.take_append_drop i l, List.drop_eq_getElem_cons (by omega), List.drop_eq_getElem_cons h]
theorem delL_split (a b : List Snp) (y x : Snp) : delL (a ++ y :: x :: b) (a.length + 1) = a ++ (y.1, y.2.1, foldL (x.2.2 ++ y.2.2)) :: b := by
  have e1 : (a ++ y :: x :: b).take (a.length + 1) = a ++ [y] := by
    rw [show a ++ y :: x :: b = (a ++ [y]) ++ (x :: b) by simp, List.take_left' (by simp)]
  have e2 : (a ++ y :: x :: b).drop (a.length + 2) = b := by
    rw [show a ++ y :: x :: b = (a ++ [y, x]) ++ b by simp, List.drop_left' (by simp)]
  have e3 : (a ++ y :: x :: b).getD (a.length + 1) (0, 0, []) = x := by
    rw [List.getD_eq_getElem?_getD, List.getElem?_append_right (by omega)]; simp
  show setLast ((a ++ y :: x :: b).take (a.length + 1)) (fun d => foldL (((a ++ y :: x :: b).getD (a.length + 1) (0, 0, [])).2.2 ++ d)) ++ (a ++ y :: x :: b).drop (a.length + 2) = _
  rw [e1, e2, e3, setLast_snoc]; simp
theorem erase_map {α β : Type} (f : α → β) (l : List α) (j : Nat) : (l.map f).eraseIdx j = (l.eraseIdx j).map f := by
  induction l generalizing j with
  | nil => rfl
  | cons x l ih => cases j with
    | zero => rfl
    | succ j => simp [ih]
theorem erase_at {α : Type} (a b : List α) (x : α) : (a ++ x :: b).eraseIdx a.length = a ++ b := by
  rw [List.eraseIdx_append_of_length_le (Nat.le_refl _), Nat.sub_self]; rfl
/-- DELETE: the other items keep their images, their numbers, their times -/
theorem del_facts {im : Img} {l : List Snp} {j : Nat} (h : snE (im, l) = 0) (hj : j < l.length) :
    imgs im (delL l j) = (imgs im l).eraseIdx j ∧ (delL l j).map keyS = (l.map keyS).eraseIdx j ∧ snE (im, delL l j) = 0 ∧ sCost (im, delL l j) ≤ sCost (im, l) := by
  obtain ⟨hz, hlen, hok⟩ := snE_iff.1 h
  have hfi := (snE_ok h).2
  have hcost : ∀ m, snE (im, m) = 0 → sCost (im, m) = (m.map fun x => sectsL x.2.2).sum := fun m hm => by
    unfold sCost; rw [if_neg (by rw [hm]; simp)]
  cases j with
  | zero =>
    obtain ⟨x, b, rfl⟩ : ∃ x b, l = x :: b := by
      cases l with
      | nil => simp at hj
      | cons x b => exact ⟨x, b, rfl⟩
    have hd : delL (x :: b) 0 = b := rfl
    rw [hd]
    have hs : snE (im, b) = 0 := snE_iff.2 ⟨hz, by simp at hlen; omega, hok.sub (List.sublist_cons_self x b)⟩
    refine ⟨rfl, rfl, hs, ?_⟩
    rw [hcost _ hs, hcost _ h]; simp
  | succ i =>
    have hsp := split2 hj
    obtain ⟨a, ha⟩ : ∃ a, l.take i = a := ⟨_, rfl⟩
    obtain ⟨y, hy⟩ : ∃ y, l[i] = y := ⟨_, rfl⟩
    obtain ⟨x, hx⟩ : ∃ x, l[i + 1] = x := ⟨_, rfl⟩
    obtain ⟨b, hb⟩ : ∃ b, l.drop (i + 2) = b := ⟨_, rfl⟩
    have hal : a.length = i := by rw [← ha]; simp; omega
    rw [ha, hy, hx, hb] at hsp
    clear ha hy hx hb
    subst hal
    subst hsp
    have hfy : ∀ q ∈ y.2.2, fitsN (Proofs.Ytgmeghandjkkcaa.lens im) q = 0 := hfi y (by simp)
    have hfx : ∀ q ∈ x.2.2, fitsN (Proofs.Ytgmeghandjkkcaa.lens im) q = 0 := hfi x (by simp)
    have hall : ∀ q ∈ x.2.2 ++ y.2.2, fitsN (Proofs.Ytgmeghandjkkcaa.lens im) q = 0 := fun q hq => (List.mem_append.1 hq).elim (hfx q) (hfy q)
    rw [delL_split]
    obtain ⟨y', hy'⟩ : ∃ y' : Snp, (y.1, y.2.1, foldL (x.2.2 ++ y.2.2)) = y' := ⟨_, rfl⟩
    rw [hy']
    have hkey : (a ++ y' :: b).map keyS = ((a ++ y :: x :: b).map keyS).eraseIdx (a.length + 1) := by
      rw [show (a ++ y :: x :: b).map keyS = (a ++ [y]).map keyS ++ keyS x :: b.map keyS by simp, show a.length + 1 = ((a ++ [y]).map keyS).length by simp, erase_at, ← hy']; simp [keyS]
    have hsub : (a ++ y :: b).Sublist (a ++ y :: x :: b) := by
      refine List.Sublist.append (List.Sublist.refl _) (List.Sublist.cons_cons _ (List.sublist_cons_self x b))
    have hs : snE (im, a ++ y' :: b) = 0 := by
      refine snE_iff.2 ⟨hz, by simp at hlen ⊢; omega, (hok.sub hsub).keys (by rw [← hy']; simp [keyS]) ?_⟩
      intro q hq
      rcases List.mem_append.1 hq with hq | hq
      · exact (hok.1 q (by simp [hq])).2.2
      · rcases List.mem_cons.1 hq with rfl | hq
        · rw [← hy']; exact foldL_chk hz hall
        · exact (hok.1 q (by simp [hq])).2.2
    refine ⟨?_, hkey, hs, ?_⟩
    · have hBl : lens (atL im b) = lens im := atL_lens' (fun q hq r hr => hfi q (by simp [hq]) r hr)
      have e : atL (atL im b) [y'] = atL (atL im (x :: b)) [y] := by
        rw [atL_one, atL_one, atL_cons, ← hy']
        show putAll (atL im b) (foldL (x.2.2 ++ y.2.2)) = _
        rw [foldL_put (by rw [hBl]; exact hz) (by rw [hBl]; exact hall), putAll_app]
      have e1 : imgs im (a ++ y' :: b) = imgs (atL (atL im b) [y']) a ++ atL (atL im b) [y'] :: imgs im b := by
        rw [imgs_app, show y' :: b = [y'] ++ b from rfl, atL_app, imgs_app]; rfl
      have e2 : imgs im (a ++ y :: x :: b) = (imgs (atL (atL im (x :: b)) [y]) a ++ [atL (atL im (x :: b)) [y]]) ++ atL im (x :: b) :: imgs im b := by
        rw [imgs_app, show y :: x :: b = [y] ++ (x :: b) from rfl, atL_app, imgs_app]
        simp [imgs]
      rw [e1, e2, e, show a.length + 1 = (imgs (atL (atL im (x :: b)) [y]) a ++ [atL (atL im (x :: b)) [y]]).length by simp [imgs_len], erase_at]
      simp
    · rw [hcost _ hs, hcost _ h]
      have hle := foldL_sects hz hall
      have e3 : sectsL (x.2.2 ++ y.2.2) = sectsL x.2.2 + sectsL y.2.2 := by unfold sectsL; simp
      rw [e3] at hle
      have e4 : y'.2.2 = foldL (x.2.2 ++ y.2.2) := by rw [← hy']
      simp only [List.map_append, List.map_cons, List.sum_append, List.sum_cons, e4]
      omega
theorem RInv.delete {k : Nat} {im : Img} {l : List Snp} {all : List Kpt} (h : RInv k im l all) {j : Nat} (hj : j < all.length) :
    findE (im, l) all[j].1 = 0 ∧ findN (im, l) all[j].1 = j ∧ RInv (k + 1) im (delL l j) (all.eraseIdx j) ∧ sCost (im, delL l j) ≤ sCost (im, l) := by
  have hl := h.len2
  have hjl : j < l.length := by omega
  have hk : l[j].1 = all[j].1 := by
    have := congrArg (fun m => (m[j]?).map (·.1)) h.key
    simpa [keyS, hj, hjl] using this
  obtain ⟨f1, f2⟩ := find_at h.ok hjl
  rw [hk] at f1 f2
  obtain ⟨d1, d2, d3, d4⟩ := del_facts h.ok hjl
  refine ⟨f1, f2, ⟨h.lens, d3, ?_, ?_, ?_, ?_⟩, d4⟩
  · rw [d1, h.ims, erase_map]
  · rw [d2, h.key, erase_map]
  · intro e he; have := h.st e ((List.eraseIdx_sublist all j).subset he); omega
  · have := h.len; have := List.length_eraseIdx_le all j; omega
theorem RInv.revert {k : Nat} {im : Img} {l : List Snp} {all : List Kpt} (h : RInv k im l all) {j : Nat} (hj : j < all.length) :
    findE (im, l) all[j].1 = 0 ∧ findN (im, l) all[j].1 = j ∧ atL im (l.drop j) = all[j].2.1 ∧ RInv (k + 1) all[j].2.1 (setLast (l.take (j + 1)) fun _ => []) (all.take (j + 1)) := by
  have hl := h.len2
  have hjl : j < l.length := by omega
  have hk : l[j].1 = all[j].1 := by
    have := congrArg (fun m => (m[j]?).map (·.1)) h.key
    simpa [keyS, hj, hjl] using this
  obtain ⟨f1, f2⟩ := find_at h.ok hjl
  rw [hk] at f1 f2
  obtain ⟨hz, hlen, hok⟩ := snE_iff.1 h.ok
  have hat : atL im (l.drop j) = all[j].2.1 := by
    have h1 := imgs_at (im := im) hjl
    rw [h.ims] at h1
    simpa [hj] using h1.symm
  have hll : Proofs.Ytgmeghandjkkcaa.lens (atL im (l.drop j)) = Proofs.Ytgmeghandjkkcaa.lens im := atL_lens' (fun q hq r hr => h.fits q (List.mem_of_mem_drop hq) r hr)
  have ht : l.take (j + 1) = l.take j ++ [l[j]] := List.take_succ_eq_append_getElem hjl
  refine ⟨f1, f2, hat, ?_⟩
  rw [← hat, ht, setLast_snoc]
  have hkey : (l.take j ++ [(l[j].1, l[j].2.1, ([] : List Wr))]).map keyS = (l.take (j + 1)).map keyS := by rw [ht, List.map_append, List.map_append]; rfl
  refine ⟨by rw [hll, h.lens], ?_, ?_, ?_, ?_, ?_⟩
  · rw [snE_iff, hll]
    refine ⟨hz, by simp; omega, (hok.sub (List.take_sublist (j + 1) l)).keys hkey ?_⟩
    intro q hq
    rcases List.mem_append.1 hq with hq | hq
    · exact (hok.1 q (List.mem_of_mem_take hq)).2.2
    · rw [List.mem_singleton.1 hq]; exact chk_nil hz
  · have e1 : imgs im l = imgs (atL im (l.drop j)) (l.take j) ++ imgs im (l.drop j) := by
      conv => lhs; rw [← List.take_append_drop j l]
      rw [imgs_app]
    have e2 : imgs im (l.drop j) = atL im (l.drop j) :: imgs im (l.drop (j + 1)) := by
      rw [List.drop_eq_getElem_cons hjl]; rfl
    rw [imgs_app, List.map_take, ← h.ims, e1, e2]
    have e3 : atL (atL im (l.drop j)) [(l[j].1, l[j].2.1, ([] : List Wr))] = atL im (l.drop j) := rfl
    rw [e3]
    have hlen' : (imgs (atL im (l.drop j)) (l.take j)).length = j := by rw [imgs_len]; simp; omega
    obtain ⟨P, hP⟩ : ∃ P, imgs (atL im (l.drop j)) (l.take j) = P := ⟨_, rfl⟩
    obtain ⟨Q, hQ⟩ : ∃ Q, imgs im (l.drop (j + 1)) = Q := ⟨_, rfl⟩
    have e4 : imgs (atL im (l.drop j)) [(l[j].1, l[j].2.1, ([] : List Wr))] = [atL im (l.drop j)] := rfl
    rw [hP] at hlen'
    rw [hP, hQ, e4, show P ++ atL im (l.drop j) :: Q = (P ++ [atL im (l.drop j)]) ++ Q by simp, List.take_left' (by simp; exact hlen')]
  · rw [hkey, List.map_take, h.key, List.map_take]
  · intro e he; have := h.st e (List.mem_of_mem_take he); omega
  · have := h.len; simp; omega
end Go.Proofs.Ytgmeghandjkkcaa

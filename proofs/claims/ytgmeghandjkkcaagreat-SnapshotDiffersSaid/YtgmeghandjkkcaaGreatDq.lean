/-
  Plain words: what is saved for an item was written between it and the next one. No program in sight.
  Plain words: where the images of two items differ, what is saved between them holds the sector; and that was written between them. No program in sight.
-/
import Derived.Test.YtgmeghandjkkcaaGreatDb
import Derived.Test.YtgmeghandjkkcaaGreatNm
import Derived.Test.YtgmeghandjkkcaaGreatDf
set_option linter.unusedVariables false
set_option linter.unusedSimpArgs false
set_option linter.unusedSectionVars false
set_option linter.unnecessarySimpa false
namespace Go.Proofs.YtgmeghandjkkcaaGreat

/-- step number q writes the sector -/
def wroteAt (xs : List Stp) (q v i : Nat) : Prop := (xs.getD q (0, 0, 0, 0, 0)).1 % 8 < 4 ∧ hits (dataW (xs.getD q (0, 0, 0, 0, 0))) v i
def PW (xs : List Stp) (x : Snp) (t : Int) : Prop := ∀ v i : Nat, (look x.2.2 v i).isSome = true → ∃ q : Nat, x.2.1 ≤ q ∧ (q : Int) < t ∧ wroteAt xs q v i
def nxt : List Snp → Int → Int
  | [], t => t
  | y :: _, _ => y.2.1
def WI (xs : List Stp) : List Snp → Int → Prop
  | [], _ => True
  | x :: r, t => PW xs x (nxt r t) ∧ WI xs r t
theorem nxt_app (p m : List Snp) (t : Int) : nxt (p ++ m) t = nxt p (nxt m t) := by cases p <;> rfl
theorem WI_app {xs : List Stp} : ∀ {p m : List Snp} {t : Int}, WI xs (p ++ m) t ↔ WI xs p (nxt m t) ∧ WI xs m t
  | [], m, t => by simp [WI]
  | x :: p, m, t => by
    show PW xs x (nxt (p ++ m) t) ∧ WI xs (p ++ m) t ↔ (PW xs x (nxt p (nxt m t)) ∧ WI xs p (nxt m t)) ∧ WI xs m t
    rw [WI_app, nxt_app, and_assoc]
theorem PW.mono {xs : List Stp} {x : Snp} {t t' : Int} (h : PW xs x t) (ht : t ≤ t') : PW xs x t' := fun v i hl => by
  obtain ⟨q, h1, h2, h3⟩ := h v i hl
  exact ⟨q, h1, by omega, h3⟩
theorem PW_nil {xs : List Stp} {a b t : Int} : PW xs (a, b, []) t := fun v i h => by simp [look_nil] at h
theorem WI.mono {xs : List Stp} : ∀ {l : List Snp} {t t' : Int}, WI xs l t → t ≤ t' → WI xs l t'
  | [], _, _, _, _ => trivial
  | [x], t, t', h, ht => ⟨PW.mono (t := t) h.1 ht, trivial⟩
  | x :: y :: r, t, t', h, ht => ⟨h.1, WI.mono (l := y :: r) h.2 ht⟩
theorem look_one {x : Wr} {v i : Int} (h : (look [x] v i).isSome = true) : hits x v i := by
  have e : look [x] v i = if hits x v i then some (datum x i) else none := by simp [look]
  rw [e] at h
  by_cases hh : hits x v i
  · exact hh
  · rw [if_neg hh] at h; simp at h
theorem look_foldL_some {im : Img} (hz : sizesN (lens im) = 0) {l : List Wr} (h : ∀ x ∈ l, fitsN (lens im) x = 0) (v i : Int) : look (foldL l) v i = look l v i := by
  have hp : ∀ x ∈ l, placedN x = 0 := fun x hx => fits_placed1 hz (h x hx)
  rw [foldL_ok hp, look_fold hp]
theorem or_some {α : Type} {a b : Option α} (h : (a.or b).isSome = true) : a.isSome = true ∨ b.isSome = true := by
  cases a <;> simp_all
theorem WI.step {xs : List Stp} {k : Nat} {x : Stp} {t : Run} (hinv : RInv k t.1 t.2.1 t.2.2) (hx : OkStp x) (he : xs.getD k (0, 0, 0, 0, 0) = x) (h : WI xs t.2.1 (k : Int)) : WI xs (runS k x t).2.1 ((k + 1 : Nat) : Int) := by
  obtain ⟨im, l, all⟩ := t
  simp only at hinv h
  obtain ⟨hz, hlen, hok⟩ := snE_iff.1 hinv.ok
  have hfi := hinv.fits
  have hkk : (k : Int) ≤ ((k + 1 : Nat) : Int) := by omega
  have htk : ∀ y ∈ l, y.2.1 < (k : Int) := fun y hy => by
    have hm : keyS y ∈ all.map fun e => (e.1, e.2.2) := by rw [← hinv.key]; exact List.mem_map_of_mem hy
    obtain ⟨e, he, e2⟩ := List.mem_map.1 hm
    have := hinv.st e he
    simp only [keyS, Prod.mk.injEq] at e2
    omega
  unfold runS
  simp only
  by_cases c1 : x.1 % 8 < 4
  · rw [if_pos c1]
    have hf : ∀ y ∈ [dataW x], fitsN (Proofs.YtgmeghandjkkcaaGreat.lens im) y = 0 := fun y hy => by rw [List.mem_singleton.1 hy, hinv.lens]; exact data_fits x hx
    show WI xs (setLast l fun d => foldL (contL im [dataW x] ++ d)) ((k + 1 : Nat) : Int)
    rcases List.eq_nil_or_concat l with rfl | ⟨r, y, rfl⟩
    · rw [setLast_nil]; trivial
    · rw [List.concat_eq_append] at h hfi htk ⊢
      rw [setLast_snoc, WI_app]
      rw [WI_app] at h
      refine ⟨h.1, ?_, trivial⟩
      have hy : ∀ z ∈ y.2.2, fitsN (Proofs.YtgmeghandjkkcaaGreat.lens im) z = 0 := hfi y (by simp)
      have hall : ∀ z ∈ contL im [dataW x] ++ y.2.2, fitsN (Proofs.YtgmeghandjkkcaaGreat.lens im) z = 0 := fun z hz' => (List.mem_append.1 hz').elim (contL_fits hf z) (hy z)
      intro v i hs
      show ∃ q : Nat, y.2.1 ≤ q ∧ (q : Int) < ((k + 1 : Nat) : Int) ∧ _
      rw [look_foldL_some hz hall, look_append, look_cont hf] at hs
      rcases or_some hs with hs | hs
      · obtain ⟨q, q1, q2, q3⟩ := h.2.1 v i hs
        exact ⟨q, q1, by have q2' : (q : Int) < (k : Int) := q2; omega, q3⟩
      · rw [Option.isSome_map] at hs
        refine ⟨k, by have := htk y (by simp); omega, by omega, ?_⟩
        unfold wroteAt
        rw [he]
        exact ⟨c1, look_one hs⟩
  · rw [if_neg c1]
    by_cases c2 : x.1 % 8 < 6
    · rw [if_pos c2]
      show WI xs (l ++ [((10 + k : Int), (k : Int), [])]) ((k + 1 : Nat) : Int)
      rw [WI_app]
      exact ⟨h, PW_nil, trivial⟩
    · rw [if_neg c2]
      by_cases c3 : all.length = 0
      · rw [dif_pos c3]
        exact h.mono hkk
      · rw [dif_neg c3]
        have hj : stJ x all.length < all.length := stJ_lt (by omega)
        obtain ⟨j, hjj⟩ : ∃ j, stJ x all.length = j := ⟨_, rfl⟩
        rw [hjj] at hj ⊢
        have hjl : j < l.length := by rw [hinv.len2]; exact hj
        by_cases c4 : x.1 % 8 = 6
        · rw [if_pos c4]
          show WI xs (delL l j) ((k + 1 : Nat) : Int)
          cases j with
          | zero =>
            cases l with
            | nil => simp at hjl
            | cons y b => exact WI.mono (l := b) h.2 hkk
          | succ i =>
            have hsp := split2 hjl
            obtain ⟨a, ha⟩ : ∃ a, l.take i = a := ⟨_, rfl⟩
            obtain ⟨y, hy⟩ : ∃ y, l[i] = y := ⟨_, rfl⟩
            obtain ⟨z, hz'⟩ : ∃ z, l[i + 1] = z := ⟨_, rfl⟩
            obtain ⟨b, hb⟩ : ∃ b, l.drop (i + 2) = b := ⟨_, rfl⟩
            have hal : a.length = i := by rw [← ha]; simp; omega
            rw [ha, hy, hz', hb] at hsp
            clear ha hy hz' hb
            subst hal
            subst hsp
            rw [delL_split]
            rw [show a ++ y :: z :: b = a ++ ([y] ++ ([z] ++ b)) by simp, WI_app, WI_app, WI_app] at h
            obtain ⟨h1, ⟨h2, _⟩, ⟨h3, _⟩, h4⟩ := h
            have hyz : y.2.1 ≤ z.2.1 := by
              have h5 := hok.2
              rw [show (a ++ y :: z :: b).map keyS = a.map keyS ++ (keyS y :: keyS z :: b.map keyS) by simp, List.pairwise_append] at h5
              exact ((List.pairwise_cons.1 h5.2.1).1 (keyS z) (by simp)).2
            have hzb : z.2.1 ≤ nxt b ((k + 1 : Nat) : Int) := by
              cases b with
              | nil => have := htk z (by simp); simp only [nxt]; omega
              | cons u b =>
                have h5 := hok.2
                rw [show (a ++ y :: z :: u :: b).map keyS = (a ++ [y]).map keyS ++ (keyS z :: keyS u :: b.map keyS) by simp, List.pairwise_append] at h5
                exact ((List.pairwise_cons.1 h5.2.1).1 (keyS u) (by simp)).2
            have hfy : ∀ q ∈ y.2.2, fitsN (Proofs.YtgmeghandjkkcaaGreat.lens im) q = 0 := hfi y (by simp)
            have hfz : ∀ q ∈ z.2.2, fitsN (Proofs.YtgmeghandjkkcaaGreat.lens im) q = 0 := hfi z (by simp)
            have hall : ∀ q ∈ z.2.2 ++ y.2.2, fitsN (Proofs.YtgmeghandjkkcaaGreat.lens im) q = 0 := fun q hq => (List.mem_append.1 hq).elim (hfz q) (hfy q)
            rw [show a ++ (y.1, y.2.1, foldL (z.2.2 ++ y.2.2)) :: b = a ++ ([(y.1, y.2.1, foldL (z.2.2 ++ y.2.2))] ++ b) by simp, WI_app, WI_app]
            refine ⟨by simpa [nxt] using h1, ⟨?_, trivial⟩, h4.mono hkk⟩
            intro v i hs
            simp only [nxt] at hs ⊢
            rw [look_foldL_some hz hall, look_append] at hs
            rcases or_some hs with hs | hs
            · obtain ⟨q, q1, q2, q3⟩ := h2 v i hs
              have q2' : (q : Int) < z.2.1 := q2
              exact ⟨q, q1, Int.lt_of_lt_of_le q2' hzb, q3⟩
            · obtain ⟨q, q1, q2, q3⟩ := h3 v i hs
              refine ⟨q, by omega, ?_, q3⟩
              simp only [nxt] at q2
              cases b with
              | nil => simp only [nxt] at q2 ⊢; omega
              | cons u b => exact q2
        · rw [if_neg c4]
          show WI xs (setLast (l.take (j + 1)) fun _ => []) ((k + 1 : Nat) : Int)
          have ht : l.take (j + 1) = l.take j ++ [l[j]] := List.take_succ_eq_append_getElem hjl
          have hs : l = l.take j ++ l[j] :: l.drop (j + 1) := by
            conv => lhs; rw [← List.take_append_drop j l, List.drop_eq_getElem_cons hjl]
          rw [ht, setLast_snoc, WI_app]
          rw [hs, WI_app] at h
          exact ⟨h.1, PW_nil, trivial⟩
theorem runT_wi {xs : List Stp} (hx : ∀ x ∈ xs, OkStp x) : ∀ k, k ≤ xs.length → k ≤ 100 → WI xs (runT xs k).2.1 (k : Int)
  | 0, _, _ => trivial
  | k + 1, h1, h2 => by
    have hk : k < xs.length := h1
    have e : xs.getD k (0, 0, 0, 0, 0) = xs[k] := by rw [List.getD_eq_getElem?_getD, List.getElem?_eq_getElem hk]; rfl
    show WI xs (runS k (xs.getD k (0, 0, 0, 0, 0)) (runT xs k)).2.1 _
    exact WI.step (runT_inv hx k (by omega) (by omega)) (by rw [e]; exact hx _ (List.getElem_mem hk)) rfl (runT_wi hx k (by omega) (by omega))
theorem WI.seg {xs : List Stp} : ∀ {l : List Snp} {t : Int}, WI xs l t → (l.map keyS).Pairwise (fun x y => x.1 < y.1 ∧ x.2 ≤ y.2) → ∀ y ∈ l, ∀ v i : Nat, (look y.2.2 v i).isSome = true → (∀ z ∈ l, z.2.1 ≤ t) → ∃ q : Nat, nxt l t ≤ q ∧ (q : Int) < t ∧ wroteAt xs q v i
  | x :: r, t, h, hp, y, hy, v, i, hs, ht => by
    have hp' := List.pairwise_cons.1 hp
    rcases List.mem_cons.1 hy with rfl | hy
    · obtain ⟨q, q1, q2, q3⟩ := h.1 v i hs
      refine ⟨q, q1, ?_, q3⟩
      cases r with
      | nil => exact q2
      | cons z r => have := ht z (by simp); simp only [nxt] at q2; omega
    · obtain ⟨q, q1, q2, q3⟩ := WI.seg h.2 hp'.2 y hy v i hs (fun z hz => ht z (List.mem_cons_of_mem _ hz))
      refine ⟨q, ?_, q2, q3⟩
      show x.2.1 ≤ q
      cases r with
      | nil => cases hy
      | cons z r =>
        have := (hp'.1 (keyS z) (by simp)).2
        simp only [keyS, nxt] at this q1
        omega
theorem unionL_mem (p : List Snp) (v i : Nat) (hi : i < 4096) : (unionL p v).any (inExt i) = true ↔ ∃ x ∈ p, (look x.2.2 v i).isSome = true := by
  induction p using snocRec with
  | h0 => simp [unionL]
  | h1 l x ih =>
    rw [unionL_snoc, opL_mem]
    have hr : (runsL (secsOf x.2.2 v)).any (inExt i) = true ↔ (look x.2.2 v i).isSome = true := by
      rw [secsOf_below, runs_any _ 4096 (Nat.le_refl _), Bool.and_eq_true]
      simp only [decide_eq_true_eq]
      exact ⟨fun h => h.2, fun h => ⟨by omega, h⟩⟩
    rw [Bool.and_eq_true, Bool.or_eq_true, ih, hr]
    simp only [decide_eq_true_eq, List.mem_append, List.mem_singleton]
    constructor
    · rintro ⟨_, ⟨y, h1, h2⟩ | h⟩
      · exact ⟨y, Or.inl h1, h2⟩
      · exact ⟨x, Or.inr rfl, h⟩
    · rintro ⟨y, h1 | rfl, h2⟩
      · exact ⟨by omega, Or.inl ⟨y, h1, h2⟩⟩
      · exact ⟨by omega, Or.inr h2⟩
end Go.Proofs.YtgmeghandjkkcaaGreat

namespace Go.Proofs.YtgmeghandjkkcaaGreat

instance (xs : List Stp) (q v i : Nat) : Decidable (wroteAt xs q v i) := by unfold wroteAt; infer_instance
/-- one of t steps from lo on writes the sector -/
def wrN (xs : List Stp) (v i lo : Nat) : Nat → Bool
  | 0 => false
  | t + 1 => wrN xs v i lo t || decide (wroteAt xs (lo + t) v i)
theorem wrN_true {xs : List Stp} {v i lo q : Nat} (hw : wroteAt xs q v i) (h1 : lo ≤ q) : ∀ t, q < lo + t → wrN xs v i lo t = true
  | 0, h => by omega
  | t + 1, h => by
    by_cases e : q = lo + t
    · subst e
      simp [wrN, hw]
    · simp [wrN, wrN_true hw h1 t (by omega)]
def secAt (im : Img) (v i : Nat) : Sec := (im.getD v []).getD i zsec
theorem atL_at {im : Img} : ∀ {l : List Snp} {v i : Nat}, (∀ x ∈ l, ∀ y ∈ x.2.2, fitsN (lens im) y = 0) → (∀ x ∈ l, look x.2.2 v i = none) → secAt (atL im l) v i = secAt im v i
  | [], _, _, _, _ => rfl
  | x :: l, v, i, hf, hn => by
    have hl := atL_lens' (im := im) (l := l) (fun y hy => hf y (List.mem_cons_of_mem _ hy))
    rw [atL_cons]
    unfold secAt
    rw [putAll_at (by rw [hl]; exact hf x List.mem_cons_self), hn x List.mem_cons_self]
    exact atL_at (l := l) (fun y hy => hf y (List.mem_cons_of_mem _ hy)) (fun y hy => hn y (List.mem_cons_of_mem _ hy))
def segL (l : List Snp) (a b : Nat) : List Snp := (l.take (max a b)).drop (min a b)
theorem seg_split {l : List Snp} {a b : Nat} (h : a ≤ b) : l.drop a = (l.take b).drop a ++ l.drop b := by
  conv => lhs; rw [← List.take_append_drop b l, List.drop_append]
  by_cases hb : b ≤ l.length
  · rw [List.length_take, Nat.min_eq_left hb, show a - b = 0 by omega]; rfl
  · rw [List.drop_eq_nil_of_le (show l.length ≤ b by omega)]; simp
theorem segL_le {l : List Snp} {a b : Nat} (h : a ≤ b) : segL l a b = (l.take b).drop a := by unfold segL; rw [Nat.max_eq_right h, Nat.min_eq_left h]
theorem segL_comm (l : List Snp) (a b : Nat) : segL l a b = segL l b a := by unfold segL; rw [Nat.max_comm, Nat.min_comm]
theorem differs_one {k : Nat} {im : Img} {l : List Snp} {all : List Kpt} (h : RInv k im l all) {a b : Nat} (hab : a ≤ b) (ha : a < all.length) (hb : b < all.length) {v i : Nat} (hi : i < 4096)
    (hn : (unionL (segL l a b) v).any (inExt i) = false) : secAt all[a].2.1 v i = secAt all[b].2.1 v i := by
  have hal : a < l.length := by rw [h.len2]; exact ha
  have hbl : b < l.length := by rw [h.len2]; exact hb
  obtain ⟨_, _, _, _, ha5⟩ := h.at_ ha hal
  obtain ⟨_, _, _, _, hb5⟩ := h.at_ hb hbl
  rw [segL_le hab] at hn
  have hlb := atL_lens' (im := im) (l := l.drop b) (fun x hx => h.fits x (List.mem_of_mem_drop hx))
  rw [← ha5, ← hb5, seg_split hab, atL_app]
  refine atL_at (fun x hx => ?_) (fun x hx => ?_)
  · rw [hlb]; exact h.fits x (List.mem_of_mem_take (List.mem_of_mem_drop hx))
  · cases he : look x.2.2 v i with
    | none => rfl
    | some s =>
      have : (unionL ((l.take b).drop a) v).any (inExt i) = true := (unionL_mem _ v i hi).2 ⟨x, hx, by rw [he]; rfl⟩
      rw [hn] at this; cases this
theorem differs_any {k : Nat} {im : Img} {l : List Snp} {all : List Kpt} (h : RInv k im l all) {a b : Nat} (ha : a < all.length) (hb : b < all.length) {v i : Nat} (hi : i < 4096)
    (hn : (unionL (segL l a b) v).any (inExt i) = false) : secAt all[a].2.1 v i = secAt all[b].2.1 v i := by
  rcases Nat.le_total a b with hab | hab
  · exact differs_one h hab ha hb hi hn
  · exact (differs_one h hab hb ha hi (by rw [segL_comm]; exact hn)).symm
theorem written_one {xs : List Stp} {im : Img} {l : List Snp} {all : List Kpt} (h : RInv xs.length im l all) (hw : WI xs l (xs.length : Int)) {a b : Nat} (hab : a ≤ b) (ha : a < all.length) (hb : b < all.length) {v i : Nat} (hi : i < 4096)
    (hn : (unionL (segL l a b) v).any (inExt i) = true) {s t : Nat} (hs : all[a].2.2 = s) (ht : all[b].2.2 = t) : s ≤ t ∧ wrN xs v i s (t - s) = true := by
  have hal : a < l.length := by rw [h.len2]; exact ha
  have hbl : b < l.length := by rw [h.len2]; exact hb
  obtain ⟨_, ha2, _, _, _⟩ := h.at_ ha hal
  obtain ⟨_, hb2, _, _, _⟩ := h.at_ hb hbl
  rw [segL_le hab] at hn
  obtain ⟨y, hy, hys⟩ := (unionL_mem _ v i hi).1 hn
  have hne : (l.take b).drop a ≠ [] := fun e => by rw [e] at hy; cases hy
  have hlt : a < b := by
    rcases Nat.lt_or_ge a b with h | h
    · exact h
    · exact absurd (List.drop_eq_nil_of_le (by simp; omega)) hne
  have hord := ((snE_iff.1 h.ok).2.2).2
  have hsp : l = l.take a ++ ((l.take b).drop a ++ l.drop b) := by rw [← seg_split hab, List.take_append_drop]
  have hw1 := hw
  rw [hsp, WI_app, WI_app] at hw1
  have hnb : nxt (l.drop b) (xs.length : Int) = (t : Int) := by
    rw [List.drop_eq_getElem_cons hbl]
    show l[b].2.1 = _
    rw [hb2, ht]
  have hseg := hw1.2.1
  rw [hnb] at hseg
  have hsub : ((l.take b).drop a).Sublist l := (List.drop_sublist _ _).trans (List.take_sublist _ _)
  have hord2 := hord.sublist (hsub.map keyS)
  obtain ⟨q, q1, q2, q3⟩ := WI.seg hseg hord2 y hy v i hys (fun z hz => by
    obtain ⟨p, hp, rfl⟩ := List.mem_iff_getElem.1 hz
    rw [List.getElem_drop, List.getElem_take]
    have hpl : a + p < b := by simp at hp; omega
    have := (List.pairwise_iff_getElem.1 hord) (a + p) b (by rw [List.length_map]; omega) (by rw [List.length_map]; exact hbl) hpl
    simp only [List.getElem_map, keyS] at this
    rw [← ht, ← hb2]
    exact this.2)
  have hna : nxt ((l.take b).drop a) (t : Int) = (s : Int) := by
    rw [List.drop_eq_getElem_cons (by simp; omega), List.getElem_take]
    show l[a].2.1 = _
    rw [ha2, hs]
  rw [hna] at q1
  exact ⟨by omega, wrN_true q3 (by omega) (t - s) (by omega)⟩
theorem written_any {xs : List Stp} {im : Img} {l : List Snp} {all : List Kpt} (h : RInv xs.length im l all) (hw : WI xs l (xs.length : Int)) {a b : Nat} (ha : a < all.length) (hb : b < all.length) {v i : Nat} (hi : i < 4096)
    (hn : (unionL (segL l a b) v).any (inExt i) = true) {s t : Nat} (hs : all[a].2.2 = s) (ht : all[b].2.2 = t) : wrN xs v i (min s t) (max s t - min s t) = true := by
  rcases Nat.le_total a b with hab | hab
  · obtain ⟨h1, h2⟩ := written_one h hw hab ha hb hi hn hs ht
    rw [Nat.min_eq_left h1, Nat.max_eq_right h1]; exact h2
  · obtain ⟨h1, h2⟩ := written_one h hw hab hb ha hi (by rw [segL_comm]; exact hn) ht hs
    rw [Nat.min_eq_right h1, Nat.max_eq_left h1]; exact h2
end Go.Proofs.YtgmeghandjkkcaaGreat

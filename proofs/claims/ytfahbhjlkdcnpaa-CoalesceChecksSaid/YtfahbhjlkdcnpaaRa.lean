/-
  The plain law of Fold: the sorted effects of a list of placed writes are the reference's.
-/
import Derived.Test.YtfahbhjlkdcnpaaQc
import Derived.Test.YtfahbhjlkdcnpaaPl
set_option linter.unusedVariables false
set_option linter.unusedSimpArgs false
set_option linter.unusedSectionVars false
set_option linter.unnecessarySimpa false
namespace Go.Proofs.Ytfahbhjlkdcnpaa

def optM (M : Eff) (p : Pl) : Option Sec := (M.find? fun x => x.1 == p).map (·.2)
theorem getM_opt (M : Eff) (p : Pl) : getM M p = (optM M p).getD zsec := rfl
theorem optM_put (M : Eff) (p q : Pl) (s : Sec) : optM (putE M p s) q = if q = p then some s else optM M q := by
  induction M with
  | nil =>
    by_cases h : q = p
    · subst h; simp [putE, optM]
    · have : (p == q) = false := by rw [beq_eq_false_iff_ne]; exact fun e => h e.symm
      simp [putE, optM, h, this]
  | cons x M ih =>
    unfold putE
    by_cases hx : x.1 = p
    · rw [if_pos hx]
      by_cases h : q = p
      · subst h; simp [optM]
      · have h1 : (p == q) = false := by rw [beq_eq_false_iff_ne]; exact fun e => h e.symm
        have h2 : (x.1 == q) = false := by rw [hx]; exact h1
        simp [optM, h1, h2, h]
    · rw [if_neg hx]
      by_cases hq : x.1 = q
      · have : q ≠ p := fun e => hx (hq.trans e)
        simp [optM, hq, this]
      · have h2 : (x.1 == q) = false := by rw [beq_eq_false_iff_ne]; exact hq
        have e1 : optM (x :: putE M p s) q = optM (putE M p s) q := by simp [optM, h2]
        have e2 : optM (x :: M) q = optM M q := by simp [optM, h2]
        rw [e1, e2, ih]
theorem keys_put (M : Eff) (p : Pl) (s : Sec) : ∀ y ∈ putE M p s, y.1 = p ∨ ∃ z ∈ M, z.1 = y.1 := by
  induction M with
  | nil => intro y hy; simp [putE] at hy; exact Or.inl (by rw [hy])
  | cons x M ih =>
    intro y hy
    unfold putE at hy
    split at hy
    · rcases List.mem_cons.1 hy with h | h
      · exact Or.inl (by rw [h])
      · exact Or.inr ⟨y, by simp [h], rfl⟩
    · rcases List.mem_cons.1 hy with h | h
      · exact Or.inr ⟨x, by simp, by rw [h]⟩
      · rcases ih y h with h | ⟨z, hz, e⟩
        · exact Or.inl h
        · exact Or.inr ⟨z, by simp [hz], e⟩
theorem optM_effW (M : Eff) (x : Wr) (q : Pl) (j : Nat) (hj : j ≤ x.2.2.length) : optM (effW M x j) q = if q.1 = x.1 ∧ x.2.1 ≤ q.2 ∧ q.2 < x.2.1 + j then some (datum x q.2) else optM M q := by
  induction j with
  | zero =>
    have : ¬ (q.1 = x.1 ∧ x.2.1 ≤ q.2 ∧ q.2 < x.2.1 + ((0 : Nat) : Int)) := by omega
    rw [if_neg this]; rfl
  | succ j ih =>
    rw [effW_succ, optM_put, ih (by omega)]
    by_cases h : q = (x.1, x.2.1 + (j : Int))
    · rw [if_pos h, if_pos (by rw [h]; exact ⟨rfl, by simp only; omega, by simp only; omega⟩)]
      rw [h]
      simp only [datum]
      rw [show (x.2.1 + (j : Int) - x.2.1).toNat = j from by omega]
    · rw [if_neg h]
      by_cases h2 : q.1 = x.1 ∧ x.2.1 ≤ q.2 ∧ q.2 < x.2.1 + j
      · rw [if_pos h2, if_pos (by omega)]
      · rw [if_neg h2, if_neg]
        intro h3
        have : q.2 = x.2.1 + (j : Int) := by omega
        exact h (Prod.ext h3.1 this)
theorem optM_eff (l : List Wr) (q : Pl) : optM (effM l) q = look l q.1 q.2 := by
  induction l using snocRec with
  | h0 => rfl
  | h1 l x ih =>
    rw [effM_snoc, look_snoc, optM_effW _ _ _ _ (Nat.le_refl _), ih]
    by_cases h : hits x q.1 q.2
    · rw [if_pos h, if_pos ⟨h.1.symm, h.2⟩]
    · rw [if_neg h, if_neg (fun h' => h ⟨h'.1.symm, h'.2⟩)]
theorem effW_ok (M : Eff) (x : Wr) (hx : placedN x = 0) (h : ∀ y ∈ M, 0 ≤ y.1.1 ∧ y.1.1 < 8 ∧ 0 ≤ y.1.2 ∧ y.1.2 < 4096) (j : Nat) (hj : j ≤ x.2.2.length) : ∀ y ∈ effW M x j, 0 ≤ y.1.1 ∧ y.1.1 < 8 ∧ 0 ≤ y.1.2 ∧ y.1.2 < 4096 := by
  obtain ⟨a, b, _, c, d⟩ := placed_ok hx
  induction j with
  | zero => exact h
  | succ j ih =>
    intro y hy
    rw [effW_succ] at hy
    rcases keys_put _ _ _ y hy with e | ⟨z, hz, e⟩
    · rw [e]; simp only; omega
    · rw [← e]; exact ih (by omega) z hz
theorem eff_ok (l : List Wr) (hl : ∀ x ∈ l, placedN x = 0) : ∀ y ∈ effM l, 0 ≤ y.1.1 ∧ y.1.1 < 8 ∧ 0 ≤ y.1.2 ∧ y.1.2 < 4096 := by
  induction l using snocRec with
  | h0 => simp [effM]
  | h1 l x ih =>
    rw [effM_snoc]
    exact effW_ok _ x (hl x (by simp)) (ih (fun y hy => hl y (by simp [hy]))) _ (Nat.le_refl _)
theorem optM_mem (M : Eff) (p : Pl) : (optM M p).isSome ↔ p ∈ M.map (·.1) := by
  unfold optM
  rw [Option.isSome_map, List.find?_isSome, List.mem_map]
  constructor
  · rintro ⟨x, hx, e⟩; exact ⟨x, hx, by simpa using e⟩
  · rintro ⟨x, hx, e⟩; exact ⟨x, hx, by simpa using e⟩
/-- a list of distinct numbers below n -/
theorem nodup_len : ∀ (n : Nat) (l : List Nat), l.Nodup → (∀ x ∈ l, x < n) → l.length ≤ n
  | 0, l, _, h => by
    cases l with
    | nil => simp
    | cons x l => exact absurd (h x (by simp)) (by omega)
  | n + 1, l, hn, h => by
    have h1 := nodup_len n (l.filter (· != n)) (List.filter_sublist.nodup hn) (fun x hx => by
      have := List.mem_filter.1 hx
      have h2 := h x this.1
      have h3 : x ≠ n := by simpa using this.2
      omega)
    have h2 : ∀ m : List Nat, m.Nodup → m.length ≤ (m.filter (· != n)).length + 1 := by
      intro m
      induction m with
      | nil => simp
      | cons x m ih =>
        intro hm
        rw [List.nodup_cons] at hm
        by_cases hx : x = n
        · have e : m.filter (· != n) = m := List.filter_eq_self.2 (fun y hy => by
            rw [bne_iff_ne]; intro e; exact hm.1 (by rw [hx, ← e]; exact hy))
          have : (x != n) = false := by simp [hx]
          rw [List.filter_cons_of_neg (by simp [hx]), e]; simp
        · rw [List.filter_cons_of_pos (by simpa using hx)]
          have := ih hm.2
          simp; omega
    have := h2 l hn
    omega
theorem keys_len (M : Eff) (hn : (M.map (·.1)).Nodup) (h : ∀ y ∈ M, 0 ≤ y.1.1 ∧ y.1.1 < 8 ∧ 0 ≤ y.1.2 ∧ y.1.2 < 4096) : M.length ≤ 32768 := by
  have h1 := nodup_len 32768 (M.map fun y => (y.1.1 * 4096 + y.1.2).toNat) (by
    rw [List.nodup_iff_pairwise_ne, List.pairwise_map] at hn ⊢
    refine (List.Pairwise.and_mem.1 hn).imp (fun {a b} hab e => ?_)
    obtain ⟨ha, hb, hne⟩ := hab
    have h1 := h a ha
    have h2 := h b hb
    exact hne (Prod.ext (by omega) (by omega))) (by
    intro x hx
    obtain ⟨y, hy, rfl⟩ := List.mem_map.1 hx
    have := h y hy
    omega)
  simpa using h1

theorem sortP_plOf (l : List Wr) (hn : ((effM l).map (·.1)).Nodup) (hl : ∀ x ∈ l, placedN x = 0) : sortP ((effM l).map (·.1)) = plOf l := by
  have ht : ∀ x y z : Pl, (!(Go.Proofs.ltOf befI) y x) = true → (!(Go.Proofs.ltOf befI) z y) = true → (!(Go.Proofs.ltOf befI) z x) = true := by
    intro x y z h1 h2
    rw [befI_lt] at *; simp at *; omega
  have hc : ∀ x y : Pl, ((!(Go.Proofs.ltOf befI) y x) || (!(Go.Proofs.ltOf befI) x y)) = true := by
    intro x y
    rw [befI_lt, befI_lt]; simp; omega
  refine List.Perm.eq_of_pairwise (le := fun x y => (!(Go.Proofs.ltOf befI) y x) = true) ?_ (List.pairwise_mergeSort ht hc _) ?_ ?_
  · intro x y _ _ h1 h2
    exact totPl x y (by simpa using h2) (by simpa using h1)
  · refine (plOf_sorted l).imp (fun {x y} h => ?_)
    rw [befI_lt]
    unfold plLt at h
    simp; omega
  · refine (List.mergeSort_perm _ _).trans ((List.perm_ext_iff_of_nodup hn ?_).2 (fun p => ?_))
    · rw [List.nodup_iff_pairwise_ne]
      refine (plOf_sorted l).imp (fun {x y} h e => ?_)
      subst e
      unfold plLt at h
      omega
    · rw [← optM_mem, optM_eff, plOf_iff]
      constructor
      · intro h
        have hm : p ∈ (effM l).map (·.1) := (optM_mem _ _).1 (by rw [optM_eff]; exact h)
        obtain ⟨y, hy, rfl⟩ := List.mem_map.1 hm
        obtain ⟨a, b, c, d⟩ := eff_ok l hl y hy
        exact ⟨a, b, c, d, h⟩
      · exact fun h => h.2.2.2.2
/-- THE PLAIN LAW OF FOLD -/
theorem sortedM_assoc (l : List Wr) (hn : ((effM l).map (·.1)).Nodup) (hl : ∀ x ∈ l, placedN x = 0) : sortedM (effM l) = assoc l := by
  rw [sortedM, sortP_plOf l hn hl, assoc_eq]
  refine List.map_congr_left fun p _ => ?_
  rw [getM_opt, optM_eff]
end Go.Proofs.Ytfahbhjlkdcnpaa

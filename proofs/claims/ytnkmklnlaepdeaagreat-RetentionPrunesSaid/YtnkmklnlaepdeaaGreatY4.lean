/-
  Plain words: policies: which times they keep; what holds of keeping (nothing is needed later that was dropped; no more than Most; merged policies). No program in sight.
  Plain words: nothing that a policy drops is needed later; no more than Most are kept. No program in sight.
-/
import Derived.Test.YtnkmklnlaepdeaaGreatEnc
set_option linter.unusedVariables false
set_option linter.unusedSimpArgs false
set_option linter.unusedSectionVars false
set_option linter.unnecessarySimpa false
namespace Go.Proofs.YtnkmklnlaepdeaaGreat

abbrev Rule := Int × Int
abbrev Pol := Int × List Rule
def ruleE (last : Int) (r : Rule) : Int := if r.1 < 1 ∨ 1073741824 < r.1 ∨ r.2 < 1 ∨ 1024 < r.2 then 2 else if r.1 ≤ last then 3 else 0
def rulesE : Int → List Rule → Int
  | _, [] => 0
  | last, r :: l => if ruleE last r ≠ 0 then ruleE last r else rulesE r.1 l
def lastR (l : List Rule) : Int := (l.getLast?.map (·.1)).getD 0
def polE (p : Pol) : Int := if p.1 < 0 ∨ 1024 < p.1 then 2 else if 8 < p.2.length then 6 else rulesE 0 p.2
def okT (t : Int) : Bool := decide (0 ≤ t ∧ t ≤ 1073741824)
/-- times ascend, and are allowed -/
def ascT : Int → List Int → Bool
  | _, [] => true
  | a, t :: l => decide (a ≤ t) && okT t && ascT t l
def timesB (l : List Int) : Bool := ascT 0 l && decide (l.length ≤ 1024)
/-- no later time of the same interval, up to now -/
def noLater (e now : Int) (k : Int) (l : List Int) : Bool := l.all fun t => !(decide (t ≤ now) && decide (t / e = k))
def ruledB (r : Rule) (ts : List Int) (now : Int) (i : Nat) : Bool :=
  decide (ts.getD i 0 ≤ now) && decide (now / r.1 - r.2 < ts.getD i 0 / r.1) && noLater r.1 now (ts.getD i 0 / r.1) (ts.drop (i + 1))
def keptB (p : Pol) (ts : List Int) (now : Int) (i : Nat) : Bool := decide ((ts.length : Int) - p.1 ≤ i) || p.2.any fun r => ruledB r ts now i
def keepN (p : Pol) (ts : List Int) (now : Int) : List Nat := (List.range ts.length).filter (keptB p ts now)
def keepL (p : Pol) (ts : List Int) (now : Int) : List Nat := if polE p = 0 ∧ timesB ts = true ∧ okT now = true then keepN p ts now else []
def mostP (p : Pol) : Int := if polE p = 0 then p.1 + (p.2.map (·.2)).sum else 0
/-- the rules of two policies in ascending order -/
def mergeR : List Rule → List Rule → List Rule
  | [], y => y
  | x, [] => x
  | a :: x, b :: y => if a.1 < b.1 then a :: mergeR x (b :: y) else if b.1 < a.1 then b :: mergeR (a :: x) y else (a.1, max a.2 b.2) :: mergeR x y
termination_by x y => x.length + y.length
def zPol : Pol := (0, [])
def mergeE (a b : Pol) : Int := if polE a ≠ 0 then polE a else if polE b ≠ 0 then polE b else if 8 < (mergeR a.2 b.2).length then 6 else 0
def mergeP (a b : Pol) : Pol := if mergeE a b = 0 then (max a.1 b.1, mergeR a.2 b.2) else zPol

/-! the steps of the checks -/
theorem rulesE_snoc (r : Rule) : ∀ (l : List Rule) (a : Int), rulesE a (l ++ [r]) = if rulesE a l ≠ 0 then rulesE a l else ruleE ((l.getLast?.map (·.1)).getD a) r
  | [], a => by by_cases h : ruleE a r = 0 <;> simp [rulesE, h]
  | y :: l, a => by
    show (if ruleE a y ≠ 0 then ruleE a y else rulesE y.1 (l ++ [r])) = _
    by_cases h : ruleE a y = 0
    · rw [if_neg (by simp [h]), rulesE_snoc r l]
      have e1 : rulesE a (y :: l) = rulesE y.1 l := by simp [rulesE, h]
      rw [e1]
      cases l with
      | nil => rfl
      | cons z l =>
        have e2 : (y :: z :: l).getLast? = (z :: l).getLast? := List.getLast?_cons_cons
        obtain ⟨u, hu⟩ : ∃ u, (z :: l).getLast? = some u := ⟨_, List.getLast?_eq_some_getLast (by simp)⟩
        rw [e2, hu]; rfl
    · rw [if_pos h]
      have e1 : rulesE a (y :: l) = ruleE a y := by simp [rulesE, h]
      rw [e1, if_pos h]
theorem rulesE_app {l m : List Rule} : ∀ {a : Int}, rulesE a l ≠ 0 → rulesE a (l ++ m) = rulesE a l := by
  induction l with
  | nil => intro a h; simp [rulesE] at h
  | cons y l ih =>
    intro a h
    by_cases h1 : ruleE a y = 0
    · have e1 : rulesE a (y :: l) = rulesE y.1 l := by simp [rulesE, h1]
      have e2 : rulesE a (y :: l ++ m) = rulesE y.1 (l ++ m) := by simp [rulesE, h1]
      rw [e1] at h ⊢
      rw [e2, ih h]
    · simp [rulesE, h1]
theorem rulesE_step {l : List Rule} {k : Nat} (h : rulesE 0 (l.take k) = 0) (hk : k < l.length) : rulesE 0 (l.take (k + 1)) = ruleE (lastR (l.take k)) l[k] := by
  rw [List.take_succ_eq_append_getElem hk, rulesE_snoc, if_neg (by simp [h])]; rfl
theorem rulesE_bad {l : List Rule} {k : Nat} (h : rulesE 0 (l.take (k + 1)) ≠ 0) : rulesE 0 l = rulesE 0 (l.take (k + 1)) := by
  conv => lhs; rw [← List.take_append_drop (k + 1) l]
  exact rulesE_app h
theorem lastR_take {l : List Rule} {k : Nat} (hk : k < l.length) : lastR (l.take (k + 1)) = l[k].1 := by
  unfold lastR; rw [List.take_succ_eq_append_getElem hk, List.getLast?_concat]; rfl
theorem rulesE_mem : ∀ {l : List Rule} {a : Int}, rulesE a l = 0 → 0 ≤ a → (∀ r ∈ l, a < r.1 ∧ 1 ≤ r.1 ∧ r.1 ≤ 1073741824 ∧ 1 ≤ r.2 ∧ r.2 ≤ 1024) ∧ l.Pairwise fun x y => x.1 < y.1
  | [], _, _, _ => ⟨by simp, List.Pairwise.nil⟩
  | y :: l, a, h, ha => by
    have h1 : ruleE a y = 0 := by
      by_cases e : ruleE a y = 0
      · exact e
      · simp [rulesE, e] at h
    have h2 : rulesE y.1 l = 0 := by simpa [rulesE, h1] using h
    unfold ruleE at h1
    split at h1
    · omega
    · rename_i hb
      split at h1
      · omega
      · rename_i hc
        obtain ⟨i1, i2⟩ := rulesE_mem h2 (by omega)
        refine ⟨?_, List.Pairwise.cons (fun z hz => (i1 z hz).1) i2⟩
        intro r hr
        rcases List.mem_cons.1 hr with rfl | hr
        · omega
        · have := i1 r hr; omega
theorem polE_ok {p : Pol} (h : polE p = 0) : 0 ≤ p.1 ∧ p.1 ≤ 1024 ∧ p.2.length ≤ 8 ∧ (∀ r ∈ p.2, 1 ≤ r.1 ∧ r.1 ≤ 1073741824 ∧ 1 ≤ r.2 ∧ r.2 ≤ 1024) ∧ p.2.Pairwise fun x y => x.1 < y.1 := by
  unfold polE at h
  split at h
  · omega
  · split at h
    · omega
    · obtain ⟨i1, i2⟩ := rulesE_mem h (Int.le_refl _)
      exact ⟨by omega, by omega, by omega, fun r hr => by have := i1 r hr; omega, i2⟩
theorem ascT_snoc (t : Int) : ∀ (l : List Int) (a : Int), ascT a (l ++ [t]) = (ascT a l && decide (l.getLast?.getD a ≤ t) && okT t)
  | [], a => by
    show (decide (a ≤ t) && okT t && true) = (true && decide (a ≤ t) && okT t)
    rw [Bool.and_true, Bool.true_and]
  | y :: l, a => by
    show (decide (a ≤ y) && okT y && ascT y (l ++ [t])) = ((decide (a ≤ y) && okT y && ascT y l) && _ && _)
    rw [ascT_snoc t l y]
    have e : (y :: l).getLast?.getD a = l.getLast?.getD y := by
      cases l with
      | nil => rfl
      | cons z l =>
        rw [List.getLast?_cons_cons]
        obtain ⟨u, hu⟩ : ∃ u, (z :: l).getLast? = some u := ⟨_, List.getLast?_eq_some_getLast (by simp)⟩
        rw [hu]; rfl
    rw [e]
    cases decide (a ≤ y) <;> cases okT y <;> cases ascT y l <;> simp
theorem ascT_mem : ∀ {l : List Int} {a : Int}, ascT a l = true → (∀ t ∈ l, a ≤ t ∧ 0 ≤ t ∧ t ≤ 1073741824) ∧ l.Pairwise (· ≤ ·)
  | [], _, _ => ⟨by simp, List.Pairwise.nil⟩
  | y :: l, a, h => by
    simp only [ascT, okT, Bool.and_eq_true, decide_eq_true_eq] at h
    obtain ⟨⟨h1, h2, h3⟩, h4⟩ := h
    obtain ⟨i1, i2⟩ := ascT_mem h4
    refine ⟨?_, List.Pairwise.cons (fun z hz => (i1 z hz).1) i2⟩
    intro r hr
    rcases List.mem_cons.1 hr with rfl | hr
    · omega
    · have := i1 r hr; omega
theorem ascT_mk : ∀ {l : List Int} {a : Int}, (∀ t ∈ l, a ≤ t ∧ 0 ≤ t ∧ t ≤ 1073741824) → l.Pairwise (· ≤ ·) → ascT a l = true
  | [], _, _, _ => rfl
  | y :: l, a, h, hp => by
    cases hp with
    | cons h1 h2 =>
      have := h y (by simp)
      simp only [ascT, okT, Bool.and_eq_true, decide_eq_true_eq]
      refine ⟨⟨this.1, this.2⟩, ascT_mk (fun t ht => ⟨h1 t ht, (h t (by simp [ht])).2⟩) h2⟩
theorem timesB_ok {l : List Int} (h : timesB l = true) : (∀ t ∈ l, 0 ≤ t ∧ t ≤ 1073741824) ∧ l.Pairwise (· ≤ ·) ∧ l.length ≤ 1024 := by
  simp only [timesB, Bool.and_eq_true, decide_eq_true_eq] at h
  obtain ⟨h1, h2⟩ := ascT_mem h.1
  exact ⟨fun t ht => (h1 t ht).2, h2, h.2⟩
theorem timesB_mk {l : List Int} (h1 : ∀ t ∈ l, 0 ≤ t ∧ t ≤ 1073741824) (h2 : l.Pairwise (· ≤ ·)) (h3 : l.length ≤ 1024) : timesB l = true := by
  simp only [timesB, Bool.and_eq_true, decide_eq_true_eq]
  exact ⟨ascT_mk (fun t ht => ⟨(h1 t ht).1, h1 t ht⟩) h2, h3⟩

/-! merged policies -/
theorem mergeR_mem : ∀ (x y : List Rule) (r : Rule), r ∈ mergeR x y → (r ∈ x ∨ r ∈ y ∨ ∃ a ∈ x, ∃ b ∈ y, a.1 = b.1 ∧ r = (a.1, max a.2 b.2))
  | [], y, r => by rw [mergeR]; exact fun h => Or.inr (Or.inl h)
  | a :: x, [], r => by rw [mergeR]; exact fun h => Or.inl h; simp
  | a :: x, b :: y, r => by
    rw [mergeR]
    split
    · intro h
      rcases List.mem_cons.1 h with rfl | h
      · exact Or.inl (by simp)
      · rcases mergeR_mem x (b :: y) r h with h | h | ⟨c, hc, d, hd, h⟩
        · exact Or.inl (by simp [h])
        · exact Or.inr (Or.inl h)
        · exact Or.inr (Or.inr ⟨c, by simp [hc], d, hd, h⟩)
    · split
      · intro h
        rcases List.mem_cons.1 h with rfl | h
        · exact Or.inr (Or.inl (by simp))
        · rcases mergeR_mem (a :: x) y r h with h | h | ⟨c, hc, d, hd, h⟩
          · exact Or.inl h
          · exact Or.inr (Or.inl (by simp [h]))
          · exact Or.inr (Or.inr ⟨c, hc, d, by simp [hd], h⟩)
      · intro h
        rcases List.mem_cons.1 h with rfl | h
        · exact Or.inr (Or.inr ⟨a, by simp, b, by simp, by omega, rfl⟩)
        · rcases mergeR_mem x y r h with h | h | ⟨c, hc, d, hd, h⟩
          · exact Or.inl (by simp [h])
          · exact Or.inr (Or.inl (by simp [h]))
          · exact Or.inr (Or.inr ⟨c, by simp [hc], d, by simp [hd], h⟩)
termination_by x y => x.length + y.length
/-- each rule of one of both is there, at least as great -/
theorem mergeR_has : ∀ (x y : List Rule) (r : Rule), (r ∈ x ∨ r ∈ y) → ∃ s ∈ mergeR x y, s.1 = r.1 ∧ r.2 ≤ s.2
  | [], y, r => by rw [mergeR]; exact fun h => ⟨r, by simpa using h, rfl, Int.le_refl _⟩
  | a :: x, [], r => by rw [mergeR]; exact fun h => ⟨r, by simpa using h, rfl, Int.le_refl _⟩; simp
  | a :: x, b :: y, r => by
    rw [mergeR]
    intro h
    split
    · by_cases hr : r = a
      · exact ⟨a, by simp, by rw [hr], by rw [hr]; exact Int.le_refl _⟩
      · obtain ⟨s, hs, h1⟩ := mergeR_has x (b :: y) r (by simpa [hr] using h)
        exact ⟨s, by simp [hs], h1⟩
    · split
      · by_cases hr : r = b
        · exact ⟨b, by simp, by rw [hr], by rw [hr]; exact Int.le_refl _⟩
        · obtain ⟨s, hs, h1⟩ := mergeR_has (a :: x) y r (by simpa [hr] using h)
          exact ⟨s, by simp [hs], h1⟩
      · by_cases hr : r = a
        · exact ⟨_, List.mem_cons_self .., by rw [hr], by rw [hr]; show a.2 ≤ max a.2 b.2; omega⟩
        · by_cases hr2 : r = b
          · exact ⟨_, List.mem_cons_self .., by rw [hr2]; show a.1 = b.1; omega, by rw [hr2]; show b.2 ≤ max a.2 b.2; omega⟩
          · obtain ⟨s, hs, h1⟩ := mergeR_has x y r (by simpa [hr, hr2] using h)
            exact ⟨s, by simp [hs], h1⟩
termination_by x y => x.length + y.length
theorem mergeR_low (z : Int) : ∀ (x y : List Rule), (∀ r ∈ x, z < r.1) → (∀ r ∈ y, z < r.1) → ∀ r ∈ mergeR x y, z < r.1 := by
  intro x y hx hy r hr
  rcases mergeR_mem x y r hr with h | h | ⟨c, hc, d, hd, _, rfl⟩
  · exact hx r h
  · exact hy r h
  · exact hx c hc
theorem mergeR_asc : ∀ (x y : List Rule), x.Pairwise (fun a b => a.1 < b.1) → y.Pairwise (fun a b => a.1 < b.1) → (mergeR x y).Pairwise (fun a b => a.1 < b.1)
  | [], y, _, hy => by rw [mergeR]; exact hy
  | a :: x, [], hx, _ => by rw [mergeR]; exact hx; simp
  | a :: x, b :: y, hx, hy => by
    obtain ⟨hx1, hx2⟩ := List.pairwise_cons.1 hx
    obtain ⟨hy1, hy2⟩ := List.pairwise_cons.1 hy
    rw [mergeR]
    split
    · rename_i hab
      refine List.Pairwise.cons (fun r hr => mergeR_low a.1 x (b :: y) hx1 ?_ r hr) (mergeR_asc x (b :: y) hx2 hy)
      intro r hr
      rcases List.mem_cons.1 hr with rfl | hr
      · exact hab
      · exact Int.lt_trans hab (hy1 r hr)
    · split
      · rename_i hab
        refine List.Pairwise.cons (fun r hr => mergeR_low b.1 (a :: x) y ?_ hy1 r hr) (mergeR_asc (a :: x) y hx hy2)
        intro r hr
        rcases List.mem_cons.1 hr with rfl | hr
        · exact hab
        · exact Int.lt_trans hab (hx1 r hr)
      · rename_i h1 h2
        have e : a.1 = b.1 := by omega
        refine List.Pairwise.cons (fun r hr => mergeR_low a.1 x y hx1 ?_ r hr) (mergeR_asc x y hx2 hy2)
        intro r hr
        rw [e]; exact hy1 r hr
termination_by x y => x.length + y.length
theorem rulesE_mk : ∀ {l : List Rule} {a : Int}, (∀ r ∈ l, a < r.1 ∧ 1 ≤ r.1 ∧ r.1 ≤ 1073741824 ∧ 1 ≤ r.2 ∧ r.2 ≤ 1024) → l.Pairwise (fun x y => x.1 < y.1) → rulesE a l = 0
  | [], _, _, _ => rfl
  | y :: l, a, h, hp => by
    obtain ⟨h1, h2⟩ := List.pairwise_cons.1 hp
    have := h y (by simp)
    have e : ruleE a y = 0 := by unfold ruleE; rw [if_neg (by omega), if_neg (by omega)]
    simp only [rulesE, e, ne_eq, not_true, if_false]
    exact rulesE_mk (fun r hr => ⟨h1 r hr, (h r (by simp [hr])).2⟩) h2
theorem mergeE_ok {a b : Pol} (h : mergeE a b = 0) : polE a = 0 ∧ polE b = 0 ∧ polE (mergeP a b) = 0 := by
  have h0 := h
  unfold mergeE at h
  split at h
  · rename_i h1; exact absurd h h1
  · split at h
    · rename_i h1; exact absurd h h1
    · split at h
      · omega
      · rename_i ha hb hc
        have ha : polE a = 0 := by omega
        have hb : polE b = 0 := by omega
        refine ⟨ha, hb, ?_⟩
        obtain ⟨a1, a2, a3, a4, a5⟩ := polE_ok ha
        obtain ⟨b1, b2, b3, b4, b5⟩ := polE_ok hb
        unfold mergeP
        rw [if_pos h0]
        unfold polE
        rw [if_neg (by simp only; omega), if_neg (by simpa using hc)]
        refine rulesE_mk ?_ (mergeR_asc _ _ a5 b5)
        intro r hr
        rcases mergeR_mem _ _ r hr with h | h | ⟨c, hc, d, hd, _, rfl⟩
        · have := a4 r h; omega
        · have := b4 r h; omega
        · have := a4 c hc; have := b4 d hd; simp only; omega
theorem ruledB_max (e c d : Int) (ts : List Int) (now : Int) (i : Nat) : ruledB (e, max c d) ts now i = (ruledB (e, c) ts now i || ruledB (e, d) ts now i) := by
  unfold ruledB
  simp only
  have : decide (now / e - max c d < ts.getD i 0 / e) = (decide (now / e - c < ts.getD i 0 / e) || decide (now / e - d < ts.getD i 0 / e)) := by
    rw [← Bool.decide_or, decide_eq_decide]
    omega
  rw [this]
  cases decide (ts.getD i 0 ≤ now) <;> cases decide (now / e - c < ts.getD i 0 / e) <;> cases decide (now / e - d < ts.getD i 0 / e) <;> cases noLater e now (ts.getD i 0 / e) (ts.drop (i + 1)) <;> rfl
theorem ruledB_more {e c d : Int} {ts : List Int} {now : Int} {i : Nat} (h : ruledB (e, c) ts now i = true) (hcd : c ≤ d) : ruledB (e, d) ts now i = true := by
  have : d = max c d := by omega
  rw [this, ruledB_max, h]; rfl
theorem keptB_merge {a b : Pol} (h : mergeE a b = 0) (ts : List Int) (now : Int) (i : Nat) : keptB (mergeP a b) ts now i = (keptB a ts now i || keptB b ts now i) := by
  have hm : mergeP a b = (max a.1 b.1, mergeR a.2 b.2) := by unfold mergeP; rw [if_pos h]
  rw [hm]
  rw [Bool.eq_iff_iff]
  unfold keptB
  simp only [Bool.or_eq_true, decide_eq_true_eq, List.any_eq_true]
  constructor
  · rintro (h | ⟨r, hr, h⟩)
    · by_cases hab : a.1 ≤ b.1
      · exact Or.inr (Or.inl (by omega))
      · exact Or.inl (Or.inl (by omega))
    · rcases mergeR_mem _ _ r hr with h1 | h1 | ⟨c, hc, d, hd, he, rfl⟩
      · exact Or.inl (Or.inr ⟨r, h1, h⟩)
      · exact Or.inr (Or.inr ⟨r, h1, h⟩)
      · rw [ruledB_max, Bool.or_eq_true] at h
        rcases h with h | h
        · exact Or.inl (Or.inr ⟨c, hc, h⟩)
        · rw [he] at h; exact Or.inr (Or.inr ⟨d, hd, h⟩)
  · rintro ((h | ⟨r, hr, h⟩) | (h | ⟨r, hr, h⟩))
    · exact Or.inl (by omega)
    · obtain ⟨s, hs, h1, h2⟩ := mergeR_has a.2 b.2 r (Or.inl hr)
      refine Or.inr ⟨s, hs, ?_⟩
      have e : s = (r.1, s.2) := by rw [← h1]
      rw [e]
      exact ruledB_more (c := r.2) h h2
    · exact Or.inl (by omega)
    · obtain ⟨s, hs, h1, h2⟩ := mergeR_has a.2 b.2 r (Or.inr hr)
      refine Or.inr ⟨s, hs, ?_⟩
      have e : s = (r.1, s.2) := by rw [← h1]
      rw [e]
      exact ruledB_more (c := r.2) h h2
theorem mem_keepN {p : Pol} {ts : List Int} {now : Int} {i : Nat} : i ∈ keepN p ts now ↔ i < ts.length ∧ keptB p ts now i = true := by
  unfold keepN; rw [List.mem_filter, List.mem_range]
/-- the merged policy keeps what one of both keeps -/
theorem union_law {a b : Pol} (h : mergeE a b = 0) (ts : List Int) (now : Int) (i : Nat) : i ∈ keepL (mergeP a b) ts now ↔ (i ∈ keepL a ts now ∨ i ∈ keepL b ts now) := by
  obtain ⟨h1, h2, h3⟩ := mergeE_ok h
  unfold keepL
  rw [h1, h2, h3]
  by_cases hc : timesB ts = true ∧ okT now = true
  · rw [if_pos ⟨rfl, hc⟩, if_pos ⟨rfl, hc⟩, if_pos ⟨rfl, hc⟩, mem_keepN, mem_keepN, mem_keepN, keptB_merge h, Bool.or_eq_true]
    constructor
    · rintro ⟨h, h' | h'⟩
      · exact Or.inl ⟨h, h'⟩
      · exact Or.inr ⟨h, h'⟩
    · rintro (⟨h, h'⟩ | ⟨h, h'⟩)
      · exact ⟨h, Or.inl h'⟩
      · exact ⟨h, Or.inr h'⟩
  · rw [if_neg (fun h => hc h.2), if_neg (fun h => hc h.2), if_neg (fun h => hc h.2)]; simp
end Go.Proofs.YtnkmklnlaepdeaaGreat

namespace Go.Proofs.YtnkmklnlaepdeaaGreat

/-- whether a time is kept that has some later ones behind it -/
def ktB (p : Pol) (now : Int) (later : List Int) (t : Int) : Bool :=
  decide ((later.length : Int) < p.1) || p.2.any fun r => decide (t ≤ now) && decide (now / r.1 - r.2 < t / r.1) && noLater r.1 now (t / r.1) later
/-- what is kept, the newest first -/
def keepRev (p : Pol) (now : Int) : List Int → List Int → List Int
  | _, [] => []
  | later, t :: rest => if ktB p now later t then t :: keepRev p now (t :: later) rest else keepRev p now (t :: later) rest
def keepV (p : Pol) (l : List Int) (now : Int) : List Int := (keepN p l now).map fun i => l.getD i 0
theorem keptB_at (p : Pol) (now : Int) (a : List Int) (t : Int) (later : List Int) : keptB p (a ++ t :: later) now a.length = ktB p now later t := by
  have e1 : (a ++ t :: later).getD a.length 0 = t := by simp [List.getD_eq_getElem?_getD]
  have e2 : (a ++ t :: later).drop (a.length + 1) = later := by
    rw [List.drop_append]; simp
  have e3 : decide (((a ++ t :: later).length : Int) - p.1 ≤ (a.length : Int)) = decide ((later.length : Int) < p.1) := by
    rw [decide_eq_decide]; simp; omega
  unfold keptB ktB ruledB
  rw [e1, e2, e3]
theorem keepRev_eq (p : Pol) (now : Int) : ∀ (a later : List Int), keepRev p now later a.reverse = (((List.range a.length).filter (keptB p (a ++ later) now)).map fun i => (a ++ later).getD i 0).reverse := by
  intro a
  refine snocRec (P := fun a => ∀ later, keepRev p now later a.reverse = (((List.range a.length).filter (keptB p (a ++ later) now)).map fun i => (a ++ later).getD i 0).reverse) ?_ ?_ a
  · intro later; rfl
  · intro a t ih later
    rw [List.reverse_append, List.reverse_singleton, List.singleton_append, keepRev, ih (t :: later)]
    have e : a ++ [t] ++ later = a ++ t :: later := by simp
    rw [e, List.length_append, List.length_singleton, List.range_succ, List.filter_append, List.map_append, List.reverse_append]
    have hf : List.filter (keptB p (a ++ t :: later) now) [a.length] = if ktB p now later t then [a.length] else [] := by
      rw [List.filter_cons, keptB_at]; rfl
    have e1 : (a ++ t :: later).getD a.length 0 = t := by simp [List.getD_eq_getElem?_getD]
    rw [hf]
    cases ktB p now later t <;> simp [List.getElem?_append_right]
theorem keepV_rev (p : Pol) (l : List Int) (now : Int) : (keepV p l now).reverse = keepRev p now [] l.reverse := by
  rw [keepRev_eq]; simp [keepV, keepN]
theorem keepRev_app (p : Pol) (now : Int) : ∀ (x y later : List Int), keepRev p now later (x ++ y) = keepRev p now later x ++ keepRev p now (x.reverse ++ later) y
  | [], y, later => rfl
  | t :: x, y, later => by
    rw [List.cons_append, keepRev, keepRev, keepRev_app p now x y (t :: later)]
    have e : (t :: x).reverse ++ later = x.reverse ++ t :: later := by simp
    rw [e]
    split <;> simp
theorem noLater_iff {e now k : Int} {l : List Int} : noLater e now k l = false ↔ ∃ z ∈ l, z ≤ now ∧ z / e = k := by
  unfold noLater
  rw [List.all_eq_false]
  simp
theorem keepRev_drop {p : Pol} (hp : ∀ r ∈ p.2, 1 ≤ r.1) {t0 now : Int} (h0 : t0 ≤ now) : ∀ (R F Rd L : List Int), (∀ t ∈ R, t ≤ t0) → (F.length = Rd.length ∨ (p.1 ≤ F.length ∧ p.1 ≤ Rd.length)) → L.length ≤ F.length → (∀ z ∈ L, z ∈ F) →
    (∀ r ∈ p.2, ∀ k, now / r.1 - r.2 < k → (noLater r.1 now k F = noLater r.1 now k Rd)) → keepRev p now F R = keepRev p now Rd (keepRev p t0 L R)
  | [], _, _, _, _, _, _, _, _ => rfl
  | t :: R, F, Rd, L, hR, hlen, hL, hsub, hint => by
    have ht : t ≤ t0 := hR t (by simp)
    have htn : t ≤ now := Int.le_trans ht h0
    have hR' : ∀ t ∈ R, t ≤ t0 := fun x hx => hR x (by simp [hx])
    have hkt : ktB p now F t = ktB p now Rd t := by
      unfold ktB
      have e1 : decide ((F.length : Int) < p.1) = decide ((Rd.length : Int) < p.1) := by rw [decide_eq_decide]; omega
      rw [e1]
      congr 1
      rw [Bool.eq_iff_iff, List.any_eq_true, List.any_eq_true]
      constructor
      · rintro ⟨r, hr, h⟩
        refine ⟨r, hr, ?_⟩
        simp only [Bool.and_eq_true, decide_eq_true_eq] at h ⊢
        rw [hint r hr _ h.1.2] at h
        exact h
      · rintro ⟨r, hr, h⟩
        refine ⟨r, hr, ?_⟩
        simp only [Bool.and_eq_true, decide_eq_true_eq] at h ⊢
        rw [← hint r hr _ h.1.2] at h
        exact h
    cases hk : ktB p t0 L t with
    | true =>
      have e1 : keepRev p t0 L (t :: R) = t :: keepRev p t0 (t :: L) R := by rw [keepRev, hk]; rfl
      rw [e1, keepRev, keepRev, ← hkt]
      rw [keepRev_drop hp h0 R (t :: F) (t :: Rd) (t :: L) hR' (by simp only [List.length_cons]; omega) (by simp only [List.length_cons]; omega)
        (fun z hz => by rcases List.mem_cons.1 hz with rfl | hz <;> simp_all)
        (fun r hr k hk => by
          show (_ && noLater r.1 now k F) = (_ && noLater r.1 now k Rd)
          rw [hint r hr k hk])]
    | false =>
      have e1 : keepRev p t0 L (t :: R) = keepRev p t0 (t :: L) R := by rw [keepRev, hk]; rfl
      rw [e1]
      unfold ktB at hk
      rw [Bool.or_eq_false_iff, decide_eq_false_iff_not, List.any_eq_false] at hk
      obtain ⟨hk1, hk2⟩ := hk
      have hrule : ∀ r ∈ p.2, now / r.1 - r.2 < t / r.1 → noLater r.1 t0 (t / r.1) L = false := by
        intro r hr hlt
        have h := hk2 r hr
        have hd : t0 / r.1 ≤ now / r.1 := Int.ediv_le_ediv (by have := hp r hr; omega) h0
        simp only [Bool.and_eq_true, decide_eq_true_eq, not_and, Bool.not_eq_true] at h
        exact h ⟨ht, by omega⟩
      have hF : ktB p now F t = false := by
        unfold ktB
        rw [Bool.or_eq_false_iff, decide_eq_false_iff_not, List.any_eq_false]
        refine ⟨by omega, fun r hr => ?_⟩
        simp only [Bool.and_eq_true, decide_eq_true_eq, not_and, Bool.not_eq_true]
        rintro ⟨_, hlt⟩
        obtain ⟨z, hz, h1, h2⟩ := noLater_iff.1 (hrule r hr hlt)
        exact noLater_iff.2 ⟨z, hsub z hz, by omega, h2⟩
      have e2 : keepRev p now F (t :: R) = keepRev p now (t :: F) R := by rw [keepRev, hF]; rfl
      rw [e2]
      refine keepRev_drop hp h0 R (t :: F) Rd (t :: L) hR' (by simp only [List.length_cons]; omega) (by simp only [List.length_cons]; omega)
        (fun z hz => by rcases List.mem_cons.1 hz with rfl | hz <;> simp_all) (fun r hr k hk => ?_)
      rw [← hint r hr k hk]
      by_cases hk' : t / r.1 = k
      · obtain ⟨z, hz, h1, h2⟩ := noLater_iff.1 (hrule r hr (by omega))
        have e : noLater r.1 now k F = false := noLater_iff.2 ⟨z, hsub z hz, by omega, by omega⟩
        have e2 : noLater r.1 now k (t :: F) = false := noLater_iff.2 ⟨z, List.mem_cons_of_mem _ (hsub z hz), by omega, by omega⟩
        rw [e, e2]
      · show (!(_ && decide (t / r.1 = k)) && noLater r.1 now k F) = _
        rw [decide_eq_false hk']; simp
/-- what is pruned is not missed later -/
theorem keepV_drop {p : Pol} (hp : ∀ r ∈ p.2, 1 ≤ r.1) {t0 now : Int} (h0 : t0 ≤ now) {l m : List Int} (hl : ∀ t ∈ l, t ≤ t0) : keepV p (keepV p l t0 ++ m) now = keepV p (l ++ m) now := by
  have h : (keepV p (keepV p l t0 ++ m) now).reverse = (keepV p (l ++ m) now).reverse := by
    rw [keepV_rev, keepV_rev, List.reverse_append, List.reverse_append, keepRev_app, keepRev_app, keepV_rev]
    congr 1
    exact (keepRev_drop hp h0 l.reverse _ _ [] (fun t ht => hl t (List.mem_reverse.1 ht)) (Or.inl rfl) (by simp) (by simp) (fun _ _ _ _ => rfl)).symm
  have := congrArg List.reverse h
  simpa using this
theorem keepV_sub (p : Pol) (l : List Int) (now : Int) : (keepV p l now).Sublist l := by
  unfold keepV keepN
  have h : ((List.range l.length).map fun i => l.getD i 0) = l := by
    apply List.ext_getElem
    · simp
    · intro i h1 h2
      simp [List.getElem?_eq_getElem h2]
  have h2 : (((List.range l.length).filter (keptB p l now)).map fun i => l.getD i 0).Sublist ((List.range l.length).map fun i => l.getD i 0) := List.Sublist.map _ List.filter_sublist
  rwa [h] at h2

/-! no more than Most -/
theorem asc_len : ∀ (l : List Int) (a b : Int), l.Pairwise (· < ·) → (∀ x ∈ l, a < x ∧ x ≤ b) → a ≤ b → (l.length : Int) ≤ b - a
  | [], a, b, _, _, h => by simp; omega
  | x :: l, a, b, hp, hx, h => by
    obtain ⟨h1, h2⟩ := List.pairwise_cons.1 hp
    have hxx := hx x (by simp)
    have := asc_len l x b h2 (fun y hy => ⟨h1 y hy, (hx y (by simp [hy])).2⟩) (by omega)
    simp only [List.length_cons]; omega
theorem ruled_len {r : Rule} {ts : List Int} {now : Int} (h1 : 1 ≤ r.1) (h2 : 0 ≤ r.2) (hs : ts.Pairwise (· ≤ ·)) : (((List.range ts.length).filter (ruledB r ts now)).length : Int) ≤ r.2 := by
  have hp : ((List.range ts.length).filter (ruledB r ts now)).Pairwise (fun i j => ts.getD i 0 / r.1 < ts.getD j 0 / r.1) := by
    have h0 : ((List.range ts.length).filter (ruledB r ts now)).Pairwise (· < ·) := List.Pairwise.filter _ List.pairwise_lt_range
    refine h0.imp_of_mem ?_
    intro i j hi hj hij
    rw [List.mem_filter, List.mem_range] at hi hj
    obtain ⟨hi1, hi2⟩ := hi
    obtain ⟨hj1, hj2⟩ := hj
    unfold ruledB at hi2 hj2
    simp only [Bool.and_eq_true, decide_eq_true_eq] at hi2 hj2
    obtain ⟨⟨_, _⟩, h5⟩ := hi2
    obtain ⟨⟨h6, _⟩, _⟩ := hj2
    have hle : ts.getD i 0 ≤ ts.getD j 0 := by
      have := (List.pairwise_iff_getElem.1 hs) i j hi1 hj1 hij
      simpa [List.getD_eq_getElem?_getD, List.getElem?_eq_getElem hi1, List.getElem?_eq_getElem hj1] using this
    have hd : ts.getD i 0 / r.1 ≤ ts.getD j 0 / r.1 := Int.ediv_le_ediv (by omega) hle
    have hne : ts.getD j 0 / r.1 ≠ ts.getD i 0 / r.1 := by
      intro he
      have : noLater r.1 now (ts.getD i 0 / r.1) (ts.drop (i + 1)) = false := noLater_iff.2 ⟨ts.getD j 0, by
        have e : ts.getD j 0 = (ts.drop (i + 1))[j - (i + 1)]'(by simp; omega) := by
          rw [List.getElem_drop, List.getD_eq_getElem?_getD]
          simp only [show i + 1 + (j - (i + 1)) = j by omega, List.getElem?_eq_getElem hj1, Option.getD_some]
        rw [e]; exact List.getElem_mem _, h6, he⟩
      rw [this] at h5; cases h5
    omega
  have h := asc_len (((List.range ts.length).filter (ruledB r ts now)).map fun i => ts.getD i 0 / r.1) (now / r.1 - r.2) (now / r.1) (List.pairwise_map.2 hp) ?_ (by omega)
  · rw [List.length_map] at h; omega
  · intro x hx
    obtain ⟨i, hi, rfl⟩ := List.mem_map.1 hx
    have := (List.mem_filter.1 hi).2
    unfold ruledB at this
    simp only [Bool.and_eq_true, decide_eq_true_eq] at this
    exact ⟨this.1.2, Int.ediv_le_ediv (by omega) this.1.1⟩
theorem filter_or_len {α : Type} (a b : α → Bool) : ∀ l : List α, (l.filter fun x => a x || b x).length ≤ (l.filter a).length + (l.filter b).length
  | [] => by simp
  | x :: l => by
    have := filter_or_len a b l
    simp only [List.filter_cons]
    cases a x <;> cases b x <;> simp <;> omega
theorem filter_any_len {α β : Type} (f : β → α → Bool) (l : List α) : ∀ rs : List β, (l.filter fun x => rs.any fun r => f r x).length ≤ (rs.map fun r => (l.filter (f r)).length).sum
  | [] => by simp
  | r :: rs => by
    have h1 := filter_or_len (f r) (fun x => rs.any fun r => f r x) l
    have h2 := filter_any_len f l rs
    simp only [List.any_cons, List.map_cons, List.sum_cons]
    omega
theorem newest_len (m : Int) (hm : 0 ≤ m) : ∀ n : Nat, ((((List.range n).filter fun i : Nat => decide ((n : Int) - m ≤ (i : Int))).length : Nat) : Int) ≤ m := by
  intro n
  have h : ∀ (q : Nat) (k : Int), ((((List.range q).filter fun i : Nat => decide (k ≤ (i : Int))).length : Nat) : Int) ≤ max 0 ((q : Int) - k) := by
    intro q
    induction q with
    | zero => intro k; simp; omega
    | succ q ih =>
      intro k
      rw [List.range_succ, List.filter_append, List.length_append, List.filter_cons]
      have := ih k
      by_cases hk : k ≤ (q : Int)
      · rw [decide_eq_true hk]; simp; omega
      · rw [decide_eq_false hk]; simp; omega
  have := h n ((n : Int) - m)
  omega
theorem most_law (p : Pol) (ts : List Int) (now : Int) : ((keepL p ts now).length : Int) ≤ mostP p := by
  unfold keepL mostP
  by_cases h0 : polE p = 0
  · obtain ⟨h1, h2, h3, h4, h5⟩ := polE_ok h0
    rw [if_pos h0]
    have hsum : ∀ rs : List Rule, (∀ r ∈ rs, 1 ≤ r.1 ∧ 0 ≤ r.2) → ts.Pairwise (· ≤ ·) → (((rs.map fun r => ((List.range ts.length).filter (ruledB r ts now)).length).sum : Nat) : Int) ≤ (rs.map (·.2)).sum := by
      intro rs
      induction rs with
      | nil => intro _ _; simp
      | cons r rs ih =>
        intro hr hs
        have := ih (fun x hx => hr x (by simp [hx])) hs
        have h := ruled_len (now := now) (hr r (by simp)).1 (hr r (by simp)).2 hs
        simp only [List.map_cons, List.sum_cons]; omega
    have hpos : 0 ≤ (p.2.map (·.2)).sum := by
      have : ∀ rs : List Rule, (∀ r ∈ rs, 0 ≤ r.2) → 0 ≤ (rs.map (·.2)).sum := by
        intro rs
        induction rs with
        | nil => intro _; simp
        | cons r rs ih =>
          intro hr
          have := ih (fun x hx => hr x (by simp [hx]))
          have := hr r (by simp)
          simp only [List.map_cons, List.sum_cons]; omega
      exact this p.2 (fun r hr => by have := h4 r hr; omega)
    split
    · rename_i hc
      obtain ⟨_, hs, _⟩ := timesB_ok hc.2.1
      unfold keepN
      have e1 := filter_or_len (fun i : Nat => decide ((ts.length : Int) - p.1 ≤ i)) (fun i => p.2.any fun r => ruledB r ts now i) (List.range ts.length)
      have e2 : ((List.range ts.length).filter fun i => p.2.any fun r => ruledB r ts now i).length ≤ (p.2.map fun r => ((List.range ts.length).filter (ruledB r ts now)).length).sum := filter_any_len (fun r i => ruledB r ts now i) (List.range ts.length) p.2
      have e3 := newest_len p.1 h1 ts.length
      have e4 := hsum p.2 (fun r hr => by have := h4 r hr; omega) hs
      have e5 : ((List.range ts.length).filter (keptB p ts now)).length ≤ ((List.range ts.length).filter fun i : Nat => decide ((ts.length : Int) - p.1 ≤ i)).length + ((List.range ts.length).filter fun i => p.2.any fun r => ruledB r ts now i).length := e1
      omega
    · simp; omega
  · rw [if_neg (fun h => h0 h.1), if_neg h0]; simp
end Go.Proofs.YtnkmklnlaepdeaaGreat

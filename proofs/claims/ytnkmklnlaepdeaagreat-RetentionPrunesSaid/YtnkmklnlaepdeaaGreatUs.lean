/-
  The plain law of the sweep: sorted ends of extents, swept, give the runs of the sectors that satisfy a condition. No program in sight.
  The plain law of the sweep, its main part.
  The sweep, end by end, counted: what holds of its state.
-/
import Derived.Test.YtnkmklnlaepdeaaGreatEnc
set_option linter.unusedVariables false
set_option linter.unusedSimpArgs false
set_option linter.unusedSectionVars false
set_option linter.unnecessarySimpa false
namespace Go.Proofs.YtnkmklnlaepdeaaGreat

def inExt (x : Int) (e : Ext) : Bool := decide (0 ≤ x ∧ x < 4096 ∧ e.1 ≤ x ∧ x < e.1 + e.2)
abbrev End := Int × Int × Int
def clipF (e : Ext) : Int := if e.1 < 0 then 0 else e.1
def clipT (e : Ext) : Int := if e.1 + e.2 < 4096 then e.1 + e.2 else 4096
/-- the ends of one list -/
def endsL (i : Int) (l : List Ext) : List End := l.flatMap fun e => if clipF e < clipT e then [(clipF e, i, 1), (clipT e, i, -1)] else []
def endsOf (a b : List Ext) : List End := endsL 0 a ++ endsL 1 b
/-- the sum of the steps of a list's ends up to a place -/
def dsum (i p : Int) (s : List End) : Int := s.foldr (fun e r => (if e.2.1 = i ∧ e.1 ≤ p then e.2.2 else 0) + r) 0
theorem dsum_cons (i p : Int) (e : End) (s : List End) : dsum i p (e :: s) = (if e.2.1 = i ∧ e.1 ≤ p then e.2.2 else 0) + dsum i p s := rfl
theorem dsum_append (i p : Int) (s t : List End) : dsum i p (s ++ t) = dsum i p s + dsum i p t := by
  induction s with
  | nil => simp [dsum]
  | cons e s ih => rw [List.cons_append, dsum_cons, dsum_cons, ih]; omega
theorem dsum_perm {i p : Int} {s t : List End} (h : s.Perm t) : dsum i p s = dsum i p t := by
  induction h with
  | nil => rfl
  | cons e _ ih => rw [dsum_cons, dsum_cons, ih]
  | swap e f l => simp only [dsum_cons]; omega
  | trans _ _ ih1 ih2 => exact ih1.trans ih2
/-- the whole sum of a list's steps -/
def dtot (i : Int) (s : List End) : Int := s.foldr (fun e r => (if e.2.1 = i then e.2.2 else 0) + r) 0
theorem dtot_cons (i : Int) (e : End) (s : List End) : dtot i (e :: s) = (if e.2.1 = i then e.2.2 else 0) + dtot i s := rfl
theorem dtot_snoc (i : Int) (s : List End) (e : End) : dtot i (s ++ [e]) = dtot i s + (if e.2.1 = i then e.2.2 else 0) := by
  induction s with
  | nil => simp [dtot]
  | cons f s ih => rw [List.cons_append, dtot_cons, dtot_cons, ih]; omega
theorem dsum_le {i p : Int} {s : List End} (h : ∀ e ∈ s, e.1 ≤ p) : dsum i p s = dtot i s := by
  induction s with
  | nil => rfl
  | cons e s ih =>
    have h1 := h e (by simp)
    rw [dsum_cons, dtot_cons, ih (fun f hf => h f (by simp [hf]))]
    by_cases hi : e.2.1 = i <;> simp [hi, h1]
theorem dsum_gt {i p : Int} {s : List End} (h : ∀ e ∈ s, p < e.1) : dsum i p s = 0 := by
  induction s with
  | nil => rfl
  | cons e s ih =>
    have h1 := h e (by simp)
    rw [dsum_cons, ih (fun f hf => h f (by simp [hf])), if_neg (by omega)]; rfl
theorem endsL_other {i j p : Int} (h : i ≠ j) (l : List Ext) : dsum j p (endsL i l) = 0 := by
  induction l with
  | nil => rfl
  | cons e l ih =>
    have : endsL i (e :: l) = (if clipF e < clipT e then [(clipF e, i, 1), (clipT e, i, -1)] else []) ++ endsL i l := rfl
    rw [this, dsum_append, ih]
    split
    · simp [dsum, h]
    · simp [dsum]
/-- how many extents contain a place -/
def cover (p : Int) (l : List Ext) : Int := l.foldr (fun e r => (if clipF e ≤ p ∧ p < clipT e then 1 else 0) + r) 0
theorem endsL_same (i p : Int) (l : List Ext) : dsum i p (endsL i l) = cover p l := by
  induction l with
  | nil => rfl
  | cons e l ih =>
    have h1 : endsL i (e :: l) = (if clipF e < clipT e then [(clipF e, i, 1), (clipT e, i, -1)] else []) ++ endsL i l := rfl
    have h2 : cover p (e :: l) = (if clipF e ≤ p ∧ p < clipT e then 1 else 0) + cover p l := rfl
    rw [h1, dsum_append, ih, h2]
    congr 1
    by_cases hc : clipF e < clipT e
    · rw [if_pos hc]
      simp only [dsum, List.foldr_cons, List.foldr_nil, true_and]
      by_cases a1 : clipF e ≤ p
      · by_cases a2 : clipT e ≤ p
        · rw [if_pos a1, if_pos a2, if_neg (by omega)]; rfl
        · rw [if_pos a1, if_neg a2, if_pos (by omega)]; rfl
      · rw [if_neg a1, if_neg (by omega), if_neg (by omega)]; rfl
    · rw [if_neg hc, if_neg (by omega)]; rfl
theorem cover_nonneg (p : Int) (l : List Ext) : 0 ≤ cover p l := by
  induction l with
  | nil => exact Int.le_refl _
  | cons e l ih =>
    have h2 : cover p (e :: l) = (if clipF e ≤ p ∧ p < clipT e then 1 else 0) + cover p l := rfl
    rw [h2]; split <;> omega
theorem cover_any {p : Int} (h0 : 0 ≤ p) (h1 : p < 4096) (l : List Ext) : decide (0 < cover p l) = l.any (inExt p) := by
  induction l with
  | nil => rfl
  | cons e l ih =>
    have h2 : cover p (e :: l) = (if clipF e ≤ p ∧ p < clipT e then 1 else 0) + cover p l := rfl
    have hn := cover_nonneg p l
    rw [h2, List.any_cons, ← ih]
    have hiff : (clipF e ≤ p ∧ p < clipT e) ↔ (0 ≤ p ∧ p < 4096 ∧ e.1 ≤ p ∧ p < e.1 + e.2) := by
      unfold clipF clipT; split <;> split <;> omega
    unfold inExt
    by_cases hc : clipF e ≤ p ∧ p < clipT e
    · rw [if_pos hc, decide_eq_true (hiff.1 hc), decide_eq_true (by omega)]; rfl
    · rw [if_neg hc, decide_eq_false (fun h => hc (hiff.2 h))]; simp
theorem ends_range {a b : List Ext} : ∀ e ∈ endsOf a b, 0 ≤ e.1 ∧ e.1 ≤ 4096 ∧ (e.2.1 = 0 ∨ e.2.1 = 1) ∧ (e.2.2 = 1 ∨ e.2.2 = -1) := by
  have key : ∀ (i : Int) (l : List Ext), (i = 0 ∨ i = 1) → ∀ e ∈ endsL i l, 0 ≤ e.1 ∧ e.1 ≤ 4096 ∧ (e.2.1 = 0 ∨ e.2.1 = 1) ∧ (e.2.2 = 1 ∨ e.2.2 = -1) := by
    intro i l hi e he
    obtain ⟨x, _, hx⟩ := List.mem_flatMap.1 he
    split at hx
    · rename_i hc
      have hF : 0 ≤ clipF x := by unfold clipF; split <;> omega
      have hT : clipT x ≤ 4096 := by unfold clipT; split <;> omega
      simp only [List.mem_cons, List.not_mem_nil, or_false] at hx
      rcases hx with rfl | rfl
      · exact ⟨hF, by simp only; omega, hi, Or.inl rfl⟩
      · exact ⟨by simp only; omega, hT, hi, Or.inr rfl⟩
    · simp at hx
  intro e he
  rcases List.mem_append.1 he with he | he
  · exact key 0 a (Or.inl rfl) e he
  · exact key 1 b (Or.inr rfl) e he

/-- the state of a sweep -/
structure Sw where
  dA : Int
  dB : Int
  start : Int
  inside : Bool
  out : List Ext
def swIn (keep : Bool → Bool → Bool) (dA dB : Int) : Bool := keep (decide (0 < dA)) (decide (0 < dB))
/-- one end more -/
def swStep (keep : Bool → Bool → Bool) (st : Sw) (x : End) (last : Bool) : Sw :=
  let dA := if x.2.1 = 0 then st.dA + x.2.2 else st.dA
  let dB := if x.2.1 = 0 then st.dB else st.dB + x.2.2
  if last = false then { st with dA := dA, dB := dB } else
    let now := swIn keep dA dB
    { dA := dA, dB := dB, start := if now && !st.inside then x.1 else st.start, inside := now, out := if !now && st.inside then st.out ++ [(st.start, x.1 - st.start)] else st.out }
/-- is an end the last one at its place -/
def lastAt (x : End) (rest : List End) : Bool := match rest with | [] => true | y :: _ => decide (y.1 ≠ x.1)
def sweepL (keep : Bool → Bool → Bool) : List End → Sw → Sw
  | [], st => st
  | x :: rest, st => sweepL keep rest (swStep keep st x (lastAt x rest))
/-- the runs of what satisfies a condition below a place -/
def below (P : Int → Bool) (q : Nat) : List Int := ((List.range q).filter fun (x : Nat) => P x).map Int.ofNat
theorem below_succ (P : Int → Bool) (q : Nat) : below P (q + 1) = below P q ++ (if P q then [(q : Int)] else []) := by
  unfold below
  rw [List.range_succ, List.filter_append, List.map_append]
  congr 1
  by_cases h : P q <;> simp [h]
theorem below_lt (P : Int → Bool) (q : Nat) : ∀ x ∈ below P q, 0 ≤ x ∧ x < q := by
  intro x hx
  obtain ⟨i, hi, rfl⟩ := List.mem_map.1 hx
  have := List.mem_range.1 (List.mem_filter.1 hi).1
  exact ⟨Int.natCast_nonneg i, Int.ofNat_lt.2 this⟩
/-- a stretch without -/
theorem runs_off {P : Int → Bool} {a q : Nat} (h : a ≤ q) (hp : ∀ x : Nat, a ≤ x → x < q → P x = false) : runsL (below P q) = runsL (below P a) := by
  induction q with
  | zero => have : a = 0 := by omega
            subst this; rfl
  | succ q ih =>
    by_cases e : a = q + 1
    · rw [e]
    · rw [below_succ, if_neg (by rw [hp q (by omega) (by omega)]; simp), List.append_nil]
      exact ih (by omega) (fun x h1 h2 => hp x h1 (by omega))
/-- a stretch with, behind a gap -/
theorem runs_on {P : Int → Bool} {a q : Nat} {out : List Ext} (h : a < q) (h0 : runsL (below P a) = out) (hg : ∀ s c, out.getLast? = some (s, c) → s + c < a) (hp : ∀ x : Nat, a ≤ x → x < q → P x = true) : runsL (below P q) = out ++ [((a : Int), (q : Int) - a)] := by
  induction q with
  | zero => omega
  | succ q ih =>
    rw [below_succ, if_pos (hp q (by omega) (by omega)), runsL_snoc]
    by_cases e : a = q
    · subst e
      rw [h0, runStep_new (fun s c hl => by have := hg s c hl; omega)]
      congr 3
      omega
    · rw [ih (by omega) (fun x h1 h2 => hp x h1 (by omega))]
      unfold runStep
      rw [List.getLast?_concat]
      simp only
      rw [if_pos (by omega), List.dropLast_concat]
      congr 3
      omega
end Go.Proofs.YtnkmklnlaepdeaaGreat

namespace Go.Proofs.YtnkmklnlaepdeaaGreat

/-- what a sweep knows behind a place -/
def SwInv (P : Int → Bool) (a : Nat) (st : Sw) : Prop :=
  if st.inside = true then ∃ s0 : Nat, st.start = s0 ∧ s0 ≤ a ∧ runsL (below P s0) = st.out ∧ (∀ s c, st.out.getLast? = some (s, c) → s + c < s0) ∧ ∀ x : Nat, s0 ≤ x → x < a → P x = true
  else runsL (below P a) = st.out ∧ ∀ s c, st.out.getLast? = some (s, c) → s + c ≤ a
theorem SwInv.on {P : Int → Bool} {a c : Nat} {st : Sw} (h : SwInv P a st) (hac : a ≤ c) (hp : ∀ x : Nat, a ≤ x → x < c → P x = st.inside) : SwInv P c st := by
  unfold SwInv at h ⊢
  cases hi : st.inside with
  | true =>
    rw [hi] at h hp
    simp only [if_true] at h ⊢
    obtain ⟨s0, h1, h2, h3, h4, h5⟩ := h
    refine ⟨s0, h1, by omega, h3, h4, fun x hx hxc => ?_⟩
    by_cases e : x < a
    · exact h5 x hx e
    · exact hp x (by omega) hxc
  | false =>
    rw [hi] at h hp
    simp only [Bool.false_eq_true, if_false] at h ⊢
    refine ⟨(runs_off hac hp).trans h.1, fun s c' hl => ?_⟩
    have := h.2 s c' hl
    omega
/-- the last end at a place -/
theorem SwInv.turn {P : Int → Bool} {c : Nat} {st : Sw} (h : SwInv P c st) (keep : Bool → Bool → Bool) (x : End) (hx : x.1 = c) (hgap : st.inside = false → ∀ s c', st.out.getLast? = some (s, c') → s + c' < c) (hin : st.inside = true → ∃ s0 : Nat, st.start = s0 ∧ s0 < c) :
    SwInv P c (swStep keep st x true) := by
  have hs : swStep keep st x true = { dA := if x.2.1 = 0 then st.dA + x.2.2 else st.dA, dB := if x.2.1 = 0 then st.dB else st.dB + x.2.2, start := if swIn keep (if x.2.1 = 0 then st.dA + x.2.2 else st.dA) (if x.2.1 = 0 then st.dB else st.dB + x.2.2) && !st.inside then x.1 else st.start, inside := swIn keep (if x.2.1 = 0 then st.dA + x.2.2 else st.dA) (if x.2.1 = 0 then st.dB else st.dB + x.2.2), out := if !(swIn keep (if x.2.1 = 0 then st.dA + x.2.2 else st.dA) (if x.2.1 = 0 then st.dB else st.dB + x.2.2)) && st.inside then st.out ++ [(st.start, x.1 - st.start)] else st.out } := rfl
  rw [hs]
  generalize swIn keep (if x.2.1 = 0 then st.dA + x.2.2 else st.dA) (if x.2.1 = 0 then st.dB else st.dB + x.2.2) = now
  unfold SwInv at h ⊢
  simp only
  cases now with
  | true =>
    cases hi : st.inside with
    | true =>
      rw [hi] at h
      simpa using h
    | false =>
      rw [hi] at h
      simp only [Bool.false_eq_true, if_false] at h
      simp only [Bool.not_false, Bool.and_self, if_true, Bool.not_true, Bool.false_and, Bool.false_eq_true, if_false]
      exact ⟨c, hx, Nat.le_refl _, h.1, hgap hi, fun y h1 h2 => by omega⟩
  | false =>
    cases hi : st.inside with
    | true =>
      rw [hi] at h
      simp only [if_true] at h
      obtain ⟨s0, h1, h2, h3, h4, h5⟩ := h
      obtain ⟨s1, h6, h7⟩ := hin hi
      have : s0 = s1 := by have := h1.symm.trans h6; omega
      subst this
      simp only [Bool.false_eq_true, if_false, Bool.not_false, Bool.and_self, if_true]
      rw [h1, hx]
      refine ⟨runs_on h7 h3 h4 h5, fun s c' hl => ?_⟩
      rw [List.getLast?_concat] at hl
      injection hl with hl
      injection hl with e1 e2
      omega
    | false =>
      rw [hi] at h
      simpa using h
/-- what satisfies the condition at a place, of the whole list of ends -/
def PofL (keep : Bool → Bool → Bool) (s : List End) (p : Int) : Bool := swIn keep (dsum 0 p s) (dsum 1 p s)
theorem sweep_inv (keep : Bool → Bool → Bool) (s : List End) (hs : s.Pairwise (fun x y => x.1 ≤ y.1)) (hr : ∀ e ∈ s, 0 ≤ e.1 ∧ e.1 ≤ 4096 ∧ (e.2.1 = 0 ∨ e.2.1 = 1)) :
    ∀ (rest pre : List End) (st : Sw) (a : Nat), s = pre ++ rest → st.dA = dtot 0 pre → st.dB = dtot 1 pre → a ≤ 4096 → SwInv (PofL keep s) a st → (∀ y ∈ rest, (a : Int) ≤ y.1) →
      (∀ y ∈ rest, (a : Int) < y.1 ∨ (st.out = [] ∧ st.inside = false)) → (∀ x : Nat, a ≤ x → (∀ y ∈ rest, (x : Int) < y.1) → PofL keep s x = st.inside) →
      ∃ a' : Nat, a' ≤ 4096 ∧ SwInv (PofL keep s) a' (sweepL keep rest st) ∧ ∀ x : Nat, a' ≤ x → PofL keep s x = (sweepL keep rest st).inside := by
  intro rest
  induction rest with
  | nil =>
    intro pre st a _ _ _ ha hinv _ _ hp
    exact ⟨a, ha, hinv, fun x hx => hp x hx (by simp)⟩
  | cons x rest ih =>
    intro pre st a he hA hB ha hinv hle hlt hp
    have hxs : x ∈ s := by rw [he]; simp
    obtain ⟨x0, x1, x2⟩ := hr x hxs
    have hs' := hs
    rw [he, List.pairwise_append] at hs'
    obtain ⟨_, hs2, hs3⟩ := hs'
    rw [List.pairwise_cons] at hs2
    obtain ⟨c, hc⟩ := Int.eq_ofNat_of_zero_le x0
    have hac : a ≤ c := by have := hle x (by simp); omega
    have he' : s = (pre ++ [x]) ++ rest := by rw [he]; simp
    have hA' : (if x.2.1 = 0 then st.dA + x.2.2 else st.dA) = dtot 0 (pre ++ [x]) := by
      rw [dtot_snoc, hA]; split <;> simp
    have hB' : (if x.2.1 = 0 then st.dB else st.dB + x.2.2) = dtot 1 (pre ++ [x]) := by
      rw [dtot_snoc, hB]
      rcases x2 with h | h
      · rw [if_pos h, if_neg (by omega)]; simp
      · rw [if_neg (by omega), if_pos h]
    show ∃ a' : Nat, a' ≤ 4096 ∧ SwInv (PofL keep s) a' (sweepL keep rest (swStep keep st x (lastAt x rest))) ∧ ∀ y : Nat, a' ≤ y → PofL keep s y = (sweepL keep rest (swStep keep st x (lastAt x rest))).inside
    cases hl : lastAt x rest with
    | false =>
      have hy : ∃ y r, rest = y :: r ∧ y.1 = x.1 := by
        unfold lastAt at hl
        split at hl
        · cases hl
        · rename_i y r
          exact ⟨y, r, rfl, by simpa using hl⟩
      obtain ⟨y, r, hy1, hy2⟩ := hy
      have hst : swStep keep st x false = { st with dA := if x.2.1 = 0 then st.dA + x.2.2 else st.dA, dB := if x.2.1 = 0 then st.dB else st.dB + x.2.2 } := rfl
      rw [hst]
      refine ih (pre ++ [x]) _ a he' hA' hB' ha hinv (fun z hz => hle z (by simp [hz])) (fun z hz => hlt z (by simp [hz])) (fun z hz h => hp z hz (fun w hw => ?_))
      rcases List.mem_cons.1 hw with rfl | hw
      · have := h y (by rw [hy1]; simp); omega
      · exact h w hw
    | true =>
      have hrest : ∀ y ∈ rest, (c : Int) < y.1 := by
        intro y hy
        have h1 := hs2.1 y hy
        unfold lastAt at hl
        split at hl
        · simp at hy
        · rename_i z r
          have hz : z.1 ≠ x.1 := by simpa using hl
          have hz1 := hs2.1 z (by simp)
          rcases List.mem_cons.1 hy with rfl | hy'
          · omega
          · have := (List.pairwise_cons.1 hs2.2).1 y hy'
            omega
      have hon : SwInv (PofL keep s) c st := hinv.on hac (fun z h1 h2 => hp z h1 (fun w hw => by
        rcases List.mem_cons.1 hw with rfl | hw
        · omega
        · have := hrest w hw; omega))
      have hnew := hon.turn keep x hc (fun hin s' c' hl' => by
        rcases hlt x (by simp) with h | ⟨h, _⟩
        · unfold SwInv at hinv
          rw [hin] at hinv
          simp only [Bool.false_eq_true, if_false] at hinv
          have := hinv.2 s' c' hl'
          omega
        · rw [h] at hl'; simp at hl') (fun hin => by
        rcases hlt x (by simp) with h | ⟨_, h⟩
        · unfold SwInv at hinv
          rw [if_pos hin] at hinv
          obtain ⟨s0, h1, h2, _⟩ := hinv
          exact ⟨s0, h1, by omega⟩
        · rw [h] at hin; cases hin)
      have hd : (swStep keep st x true).dA = dtot 0 (pre ++ [x]) := hA'
      have hd2 : (swStep keep st x true).dB = dtot 1 (pre ++ [x]) := hB'
      have hin2 : (swStep keep st x true).inside = swIn keep (dtot 0 (pre ++ [x])) (dtot 1 (pre ++ [x])) := by rw [← hA', ← hB']; rfl
      refine ih (pre ++ [x]) _ c he' hd hd2 (by omega) hnew (fun z hz => by have := hrest z hz; omega) (fun z hz => Or.inl (hrest z hz)) (fun z hz h => ?_)
      rw [hin2]
      unfold PofL
      have hpre : ∀ e ∈ pre ++ [x], e.1 ≤ (z : Int) := by
        intro e hem
        rcases List.mem_append.1 hem with h1 | h1
        · have := hs3 e h1 x (by simp); omega
        · rw [List.mem_singleton.1 h1]; omega
      rw [he', dsum_append 0 z (pre ++ [x]) rest, dsum_append 1 z (pre ++ [x]) rest, dsum_le hpre, dsum_le hpre, dsum_gt h, dsum_gt h, Int.add_zero, Int.add_zero]
theorem cover_far (l : List Ext) : cover 4096 l = 0 := by
  induction l with
  | nil => rfl
  | cons e l ih =>
    have h2 : cover 4096 (e :: l) = (if clipF e ≤ 4096 ∧ (4096 : Int) < clipT e then 1 else 0) + cover 4096 l := rfl
    have hT : clipT e ≤ 4096 := by unfold clipT; split <;> omega
    rw [h2, ih, if_neg (by omega)]; rfl
/-- the runs of the sectors below 4096 that a set operation selects -/
def opL (keep : Bool → Bool → Bool) (a b : List Ext) : List Ext := runsL (below (fun x => keep (a.any (inExt x)) (b.any (inExt x))) 4096)
def sw0 : Sw := { dA := 0, dB := 0, start := 0, inside := false, out := [] }
theorem below_congr (P Q : Int → Bool) (q : Nat) (h : ∀ x : Nat, x < q → P x = Q x) : below P q = below Q q := by
  unfold below
  refine congrArg _ (List.filter_congr fun x hx => ?_)
  exact h x (List.mem_range.1 hx)
/-- THE LAW OF THE SWEEP -/
theorem sweep_law (keep : Bool → Bool → Bool) (hk : keep false false = false) (a b : List Ext) (s : List End) (hp : s.Perm (endsOf a b)) (hs : s.Pairwise (fun x y => x.1 ≤ y.1)) : (sweepL keep s sw0).out = opL keep a b := by
  have hr : ∀ e ∈ s, 0 ≤ e.1 ∧ e.1 ≤ 4096 ∧ (e.2.1 = 0 ∨ e.2.1 = 1) := fun e he => by
    obtain ⟨h1, h2, h3, _⟩ := ends_range e (hp.mem_iff.1 he)
    exact ⟨h1, h2, h3⟩
  have hP : ∀ p : Int, PofL keep s p = swIn keep (cover p a) (cover p b) := by
    intro p
    unfold PofL
    rw [dsum_perm hp, dsum_perm hp]
    unfold endsOf
    rw [dsum_append, dsum_append, endsL_same, endsL_other (by decide), endsL_other (by decide), endsL_same]
    simp
  have h0 : PofL keep [] = fun _ => false := by
    funext p; simp [PofL, swIn, dsum, hk]
  obtain ⟨a', ha', hinv, hfar⟩ := sweep_inv keep s hs hr s [] sw0 0 (by simp) rfl rfl (by omega) (by
    unfold SwInv
    simp [sw0, below, runsL]) (fun y hy => by have := (hr y hy).1; omega) (fun y hy => Or.inr ⟨rfl, rfl⟩) (fun x _ h => by
    show PofL keep s x = false
    unfold PofL
    rw [dsum_gt h, dsum_gt h]
    simp [swIn, hk])
  have hin : (sweepL keep s sw0).inside = false := by
    rw [← hfar 4096 ha', hP]
    have h1 := cover_far a
    have h2 := cover_far b
    show swIn keep (cover ((4096 : Nat) : Int) a) (cover ((4096 : Nat) : Int) b) = false
    rw [show ((4096 : Nat) : Int) = 4096 from rfl, h1, h2]
    simp [swIn, hk]
  unfold SwInv at hinv
  rw [hin] at hinv hfar
  simp only [Bool.false_eq_true, if_false] at hinv
  rw [← hinv.1, ← runs_off ha' (fun x h1 _ => hfar x h1)]
  unfold opL
  refine congrArg _ (below_congr _ _ 4096 fun x hx => ?_)
  rw [hP]
  unfold swIn
  rw [cover_any (by omega) (by omega), cover_any (by omega) (by omega)]
end Go.Proofs.YtnkmklnlaepdeaaGreat

namespace Go.Proofs.YtnkmklnlaepdeaaGreat

def swN (keep : Bool → Bool → Bool) (s : List End) : Nat → Sw
  | 0 => sw0
  | k + 1 => match s[k]? with
    | some x => swStep keep (swN keep s k) x (lastAt x (s.drop (k + 1)))
    | none => swN keep s k
theorem swN_succ {keep : Bool → Bool → Bool} {s : List End} {k : Nat} (hk : k < s.length) : swN keep s (k + 1) = swStep keep (swN keep s k) s[k] (lastAt s[k] (s.drop (k + 1))) := by
  show (match s[k]? with | some x => swStep keep (swN keep s k) x (lastAt x (s.drop (k + 1))) | none => swN keep s k) = _
  rw [List.getElem?_eq_getElem hk]
theorem sweepL_drop (keep : Bool → Bool → Bool) (s : List End) : ∀ m k, k + m = s.length → sweepL keep (s.drop k) (swN keep s k) = swN keep s s.length := by
  intro m
  induction m with
  | zero =>
    intro k hk
    have : k = s.length := by omega
    subst this
    rw [List.drop_length]; rfl
  | succ m ih =>
    intro k hk
    have hlt : k < s.length := by omega
    rw [List.drop_eq_getElem_cons hlt]
    show sweepL keep (s.drop (k + 1)) (swStep keep (swN keep s k) s[k] (lastAt s[k] (s.drop (k + 1)))) = _
    rw [← swN_succ hlt]
    exact ih (k + 1) (by omega)
theorem sweepL_swN (keep : Bool → Bool → Bool) (s : List End) : sweepL keep s sw0 = swN keep s s.length := by
  have := sweepL_drop keep s s.length 0 (by omega)
  rw [List.drop_zero] at this
  exact this
theorem swStep_true (keep : Bool → Bool → Bool) (st : Sw) (x : End) : ∃ now : Bool, swStep keep st x true = { dA := if x.2.1 = 0 then st.dA + x.2.2 else st.dA, dB := if x.2.1 = 0 then st.dB else st.dB + x.2.2, start := if now && !st.inside then x.1 else st.start, inside := now, out := if !now && st.inside then st.out ++ [(st.start, x.1 - st.start)] else st.out } := ⟨_, rfl⟩
theorem swStep_false (keep : Bool → Bool → Bool) (st : Sw) (x : End) : swStep keep st x false = { st with dA := if x.2.1 = 0 then st.dA + x.2.2 else st.dA, dB := if x.2.1 = 0 then st.dB else st.dB + x.2.2 } := rfl
theorem swStep_out (keep : Bool → Bool → Bool) (st : Sw) (x : End) (q : Bool) : st.out <+: (swStep keep st x q).out := by
  cases q with
  | false => exact List.prefix_rfl
  | true =>
    obtain ⟨now, h⟩ := swStep_true keep st x
    rw [h]
    simp only
    split
    · exact List.prefix_append _ _
    · exact List.prefix_rfl
theorem swN_mono (keep : Bool → Bool → Bool) (s : List End) : ∀ m k, (swN keep s k).out <+: (swN keep s (k + m)).out := by
  intro m
  induction m with
  | zero => exact fun k => List.prefix_rfl
  | succ m ih =>
    intro k
    refine (ih k).trans ?_
    show (swN keep s (k + m)).out <+: (swN keep s (k + m + 1)).out
    by_cases h : k + m < s.length
    · rw [swN_succ h]; exact swStep_out _ _ _ _
    · have : swN keep s (k + m + 1) = swN keep s (k + m) := by
        show (match s[k + m]? with | some x => swStep keep (swN keep s (k + m)) x (lastAt x (s.drop (k + m + 1))) | none => swN keep s (k + m)) = _
        rw [List.getElem?_eq_none (by omega)]
      rw [this]; exact List.prefix_rfl
theorem swN_prefix (keep : Bool → Bool → Bool) (s : List End) {k : Nat} (hk : k ≤ s.length) : (swN keep s k).out <+: (swN keep s s.length).out := by
  have := swN_mono keep s (s.length - k) k
  rwa [show k + (s.length - k) = s.length from by omega] at this
/-- the numbers of a state stay small -/
def SwOk (k : Nat) (st : Sw) : Prop := -(k : Int) ≤ st.dA ∧ st.dA ≤ k ∧ -(k : Int) ≤ st.dB ∧ st.dB ≤ k ∧ 0 ≤ st.start ∧ st.start ≤ 4096 ∧ (∀ e ∈ st.out, 0 ≤ e.1 ∧ e.1 ≤ 4096 ∧ -4096 ≤ e.2 ∧ e.2 ≤ 4096) ∧ st.out.length ≤ k
theorem swN_ok (keep : Bool → Bool → Bool) (s : List End) (hr : ∀ e ∈ s, 0 ≤ e.1 ∧ e.1 ≤ 4096 ∧ (e.2.1 = 0 ∨ e.2.1 = 1) ∧ (e.2.2 = 1 ∨ e.2.2 = -1)) : ∀ k, k ≤ s.length → SwOk k (swN keep s k) := by
  intro k
  induction k with
  | zero => exact fun _ => ⟨by simp [swN, sw0], by simp [swN, sw0], by simp [swN, sw0], by simp [swN, sw0], by simp [swN, sw0], by simp [swN, sw0], by simp [swN, sw0], by simp [swN, sw0]⟩
  | succ k ih =>
    intro hk
    obtain ⟨i1, i2, i3, i4, i5, i6, i7, i8⟩ := ih (by omega)
    have hlt : k < s.length := by omega
    obtain ⟨r1, r2, _, r4⟩ := hr s[k] (List.getElem_mem hlt)
    rw [swN_succ hlt]
    generalize swN keep s k = st at i1 i2 i3 i4 i5 i6 i7 i8 ⊢
    generalize s[k] = x at r1 r2 r4 ⊢
    generalize lastAt x (s.drop (k + 1)) = q
    have hd : ∀ d : Int, -(k : Int) ≤ d → d ≤ k → -((k + 1 : Nat) : Int) ≤ d + x.2.2 ∧ d + x.2.2 ≤ ((k + 1 : Nat) : Int) := fun d h1 h2 => by
      rcases r4 with r | r <;> (rw [r]; omega)
    have hA := hd _ i1 i2
    have hB := hd _ i3 i4
    have hA' : -((k + 1 : Nat) : Int) ≤ (if x.2.1 = 0 then st.dA + x.2.2 else st.dA) ∧ (if x.2.1 = 0 then st.dA + x.2.2 else st.dA) ≤ ((k + 1 : Nat) : Int) := by
      split
      · exact hA
      · omega
    have hB' : -((k + 1 : Nat) : Int) ≤ (if x.2.1 = 0 then st.dB else st.dB + x.2.2) ∧ (if x.2.1 = 0 then st.dB else st.dB + x.2.2) ≤ ((k + 1 : Nat) : Int) := by
      split
      · omega
      · exact hB
    cases q with
    | false =>
      rw [swStep_false]
      exact ⟨hA'.1, hA'.2, hB'.1, hB'.2, i5, i6, i7, by simp only; omega⟩
    | true =>
      obtain ⟨now, h⟩ := swStep_true keep st x
      rw [h]
      refine ⟨hA'.1, hA'.2, hB'.1, hB'.2, ?_, ?_, ?_, ?_⟩
      · simp only; split <;> assumption
      · simp only; split <;> assumption
      · simp only
        split
        · intro e he
          rcases List.mem_append.1 he with h | h
          · exact i7 e h
          · rw [List.mem_singleton.1 h]; simp only; omega
        · exact i7
      · simp only
        split
        · rw [List.length_append, List.length_singleton]; omega
        · omega
theorem runStep_any {out : List Ext} {x : Int} (hx : 0 ≤ x ∧ x < 4096) (hc : ∀ e ∈ out, 0 < e.2) (y : Int) : (runStep out x).any (inExt y) = (out.any (inExt y) || decide (y = x)) := by
  have h1 : inExt y (x, 1) = decide (y = x) := by
    unfold inExt
    rw [decide_eq_decide]
    simp only
    omega
  unfold runStep
  split
  · rename_i s c hg
    split
    · rename_i he
      obtain ⟨init, hi⟩ := List.getLast?_eq_some_iff.1 hg
      have hcc := hc (s, c) (List.mem_of_getLast? hg)
      simp only at hcc
      rw [hi, List.dropLast_concat, List.any_append, List.any_append, Bool.or_assoc]
      refine congrArg _ ?_
      simp only [List.any_cons, List.any_nil, Bool.or_false]
      rw [Bool.eq_iff_iff]
      simp only [inExt, Bool.or_eq_true, decide_eq_true_eq]
      omega
    · rw [List.any_append]
      simp [h1]
  · rename_i hg
    rw [List.getLast?_eq_none_iff.1 hg]
    simp [h1]
theorem runs_any (P : Int → Bool) (q : Nat) (hq : q ≤ 4096) (y : Int) : (runsL (below P q)).any (inExt y) = (decide (0 ≤ y ∧ y < q) && P y) := by
  induction q with
  | zero =>
    have : ¬ (0 ≤ y ∧ y < ((0 : Nat) : Int)) := by omega
    rw [decide_eq_false this]; rfl
  | succ q ih =>
    have ih := ih (by omega)
    rw [below_succ]
    by_cases hp : P q = true
    · rw [if_pos hp, runsL_snoc, runStep_any (by omega) (fun e he => ((runsL_bound 4096 (below P q) (fun x hx => by have := below_lt P q x hx; omega)).1 e he).2.1), ih]
      by_cases hy : y = (q : Int)
      · subst hy
        rw [hp]
        simp; omega
      · rw [decide_eq_false hy, Bool.or_false]
        refine congrArg (fun b => b && P y) ?_
        rw [decide_eq_decide]
        omega
    · rw [if_neg hp, List.append_nil, ih]
      by_cases hy : y = (q : Int)
      · subst hy
        have : P q = false := by simpa using hp
        rw [this, Bool.and_false, Bool.and_false]
      · refine congrArg (fun b => b && P y) ?_
        rw [decide_eq_decide]
        omega
theorem opL_mem (keep : Bool → Bool → Bool) (a b : List Ext) (y : Int) : (opL keep a b).any (inExt y) = (decide (0 ≤ y ∧ y < 4096) && keep (a.any (inExt y)) (b.any (inExt y))) :=
  runs_any _ 4096 (Nat.le_refl _) y
theorem opL_bound (keep : Bool → Bool → Bool) (a b : List Ext) : (∀ e ∈ opL keep a b, 0 ≤ e.1 ∧ 0 < e.2 ∧ e.1 + e.2 ≤ 4096) ∧ (opL keep a b).length ≤ 4096 := by
  have h := runsL_bound 4096 (below (fun x => keep (a.any (inExt x)) (b.any (inExt x))) 4096) (fun x hx => by have := below_lt _ _ x hx; omega)
  refine ⟨h.1, Nat.le_trans h.2 ?_⟩
  unfold below
  rw [List.length_map]
  exact Nat.le_trans (List.length_filter_le _ _) (by rw [List.length_range]; exact Nat.le_refl _)
end Go.Proofs.YtnkmklnlaepdeaaGreat

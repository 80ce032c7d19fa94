/-
  Plain words: neighbouring extents join. No program in sight.
-/
import Derived.Test.YthneomehfmjbkaaJl
set_option linter.unusedVariables false
set_option linter.unusedSimpArgs false
set_option linter.unusedSectionVars false
set_option linter.unnecessarySimpa false
namespace Go.Proofs.Ythneomehfmjbkaa

theorem runs_more {P : Int → Bool} {a : Nat} {s c : Int} {pre : List Ext} (h0 : runsL (below P a) = pre ++ [(s, c)]) (hs : s + c = a) : ∀ q : Nat, a ≤ q → (∀ x : Nat, a ≤ x → x < q → P x = true) → runsL (below P q) = pre ++ [(s, c + ((q : Int) - a))]
  | 0, h, _ => by
    have : a = 0 := by omega
    subst this
    rw [h0]; simp
  | q + 1, h, hp => by
    by_cases ha : a = q + 1
    · subst ha; rw [h0]; congr 2; simp
    · have ih := runs_more h0 hs q (by omega) (fun x h1 h2 => hp x h1 (by omega))
      rw [below_succ, hp q (by omega) (by omega), if_pos rfl, runsL_snoc, ih, runStep_more (s := s) (c := c + ((q : Int) - a)) (by simp) (by omega)]
      simp
      omega
/-- one extent more: joined to the last one if they touch -/
def extStep (out : List Ext) (e : Ext) : List Ext :=
  match out.getLast? with
  | some (s, c) => if s + c = e.1 then out.dropLast ++ [(s, c + e.2)] else out ++ [e]
  | none => [e]
def extsL (es : List Ext) : List Ext := es.foldl extStep []
theorem extsL_snoc (es : List Ext) (e : Ext) : extsL (es ++ [e]) = extStep (extsL es) e := by simp [extsL]
theorem any_snoc (es : List Ext) (e : Ext) (x : Int) : (es ++ [e]).any (inExt x) = (es.any (inExt x) || inExt x e) := by simp
theorem exts_runs : ∀ es : List Ext, es.Pairwise (fun x y => x.1 + x.2 ≤ y.1) → (∀ e ∈ es, 0 ≤ e.1 ∧ 0 < e.2 ∧ e.1 + e.2 ≤ 4096) →
    (∀ q : Nat, q ≤ 4096 → (∀ e ∈ es, e.1 + e.2 ≤ q) → runsL (below (fun x => es.any (inExt x)) q) = extsL es) ∧ (∀ s c, (extsL es).getLast? = some (s, c) → ∃ e ∈ es, s + c = e.1 + e.2) := by
  refine snocRec ?_ ?_
  · intro _ _
    refine ⟨fun q _ _ => ?_, fun s c h => by simp [extsL] at h⟩
    rw [runs_off (a := 0) (by omega) (fun x _ _ => rfl)]; rfl
  · intro es e ih hp hr
    rw [List.pairwise_append] at hp
    obtain ⟨hp1, _, hp2⟩ := hp
    obtain ⟨ih1, ih2⟩ := ih hp1 (fun x hx => hr x (by simp [hx]))
    obtain ⟨e1, e2, e3⟩ := hr e (by simp)
    have hle : ∀ x ∈ es, x.1 + x.2 ≤ e.1 := fun x hx => hp2 x hx e (by simp)
    obtain ⟨a, ha⟩ : ∃ a : Nat, e.1 = a := ⟨e.1.toNat, by omega⟩
    obtain ⟨d, hd⟩ : ∃ d : Nat, e.2 = d := ⟨e.2.toNat, by omega⟩
    have hA : runsL (below (fun x => (es ++ [e]).any (inExt x)) a) = extsL es := by
      rw [below_congr _ (fun x => es.any (inExt x)) a (fun x hx => by
        rw [any_snoc]
        have : inExt (x : Int) e = false := by unfold inExt; rw [decide_eq_false_iff_not]; omega
        rw [this, Bool.or_false])]
      exact ih1 a (by omega) (fun x hx => by have := hle x hx; omega)
    have hon : ∀ x : Nat, a ≤ x → x < a + d → (es ++ [e]).any (inExt (x : Int)) = true := fun x h1 h2 => by
      rw [any_snoc]
      have : inExt (x : Int) e = true := by unfold inExt; rw [decide_eq_true_iff]; omega
      rw [this, Bool.or_true]
    have hoff : ∀ x : Nat, a + d ≤ x → (es ++ [e]).any (inExt (x : Int)) = false := fun x h1 => by
      rw [List.any_eq_false]
      intro y hy h
      unfold inExt at h
      rw [decide_eq_true_iff] at h
      rcases List.mem_append.1 hy with hy | hy
      · have := hle y hy; omega
      · have : y = e := by simpa using hy
        subst this; omega
    have hmain : runsL (below (fun x => (es ++ [e]).any (inExt x)) (a + d)) = extsL (es ++ [e]) := by
      rw [extsL_snoc]
      cases hl : (extsL es).getLast? with
      | none =>
        have hnil : extsL es = [] := List.getLast?_eq_none_iff.1 hl
        rw [runs_on (a := a) (out := []) (by omega) (by rw [hA, hnil]) (by simp) hon]
        simp only [extStep, hl]
        show [((a : Int), ((a + d : Nat) : Int) - a)] = [e]
        congr 1
        exact Prod.ext (by simp [ha]) (by simp; omega)
      | some p =>
        obtain ⟨s, c⟩ := p
        obtain ⟨y, hy, hsc⟩ := ih2 s c hl
        have hya := hle y hy
        by_cases ht : s + c = e.1
        · have hpre : extsL es = (extsL es).dropLast ++ [(s, c)] := by
            have hne : extsL es ≠ [] := by intro h; rw [h] at hl; simp at hl
            rw [List.getLast?_eq_some_getLast hne, Option.some.injEq] at hl
            rw [← hl, List.dropLast_concat_getLast hne]
          rw [runs_more (a := a) (s := s) (c := c) (pre := (extsL es).dropLast) (by rw [hA]; exact hpre) (by omega) (a + d) (by omega) hon]
          simp only [extStep, hl, if_pos ht]
          congr 3; omega
        · rw [runs_on (a := a) (out := extsL es) (by omega) hA (fun s' c' h => by rw [hl] at h; cases h; omega) hon]
          simp only [extStep, hl, if_neg ht]
          congr 2
          exact Prod.ext (by simp [ha]) (by simp; omega)
    refine ⟨fun q hq hb => ?_, fun s c h => ?_⟩
    · have hqe := hb e (by simp)
      rw [runs_off (a := a + d) (by omega) (fun x h1 _ => hoff x h1), hmain]
    · refine ⟨e, by simp, ?_⟩
      rw [extsL_snoc] at h
      cases hl : (extsL es).getLast? with
      | none => simp only [extStep, hl] at h; simp at h; rw [h]
      | some p =>
        obtain ⟨s', c'⟩ := p
        simp only [extStep, hl] at h
        by_cases ht : s' + c' = e.1
        · rw [if_pos ht] at h; simp at h; omega
        · rw [if_neg ht] at h; simp at h; rw [h]
theorem opL_exts {es : List Ext} (hp : es.Pairwise (fun x y => x.1 + x.2 ≤ y.1)) (hr : ∀ e ∈ es, 0 ≤ e.1 ∧ 0 < e.2 ∧ e.1 + e.2 ≤ 4096) : opL or es [] = extsL es := by
  unfold opL
  rw [below_congr _ (fun x => es.any (inExt x)) 4096 (fun x _ => by rw [List.any_nil]; exact Bool.or_false _)]
  exact (exts_runs es hp hr).1 4096 (Nat.le_refl _) (fun e he => (hr e he).2.2)
theorem dfs_sorted (a b : List (List Int)) : ∀ k i, (dfs a b k i).Pairwise (· < ·) ∧ ∀ x ∈ dfs a b k i, i * 2 ^ k ≤ x ∧ x < (i + 1) * 2 ^ k ∧ x < (a.getD 0 []).length
  | 0, i => by
    unfold dfs
    by_cases h : (decide (i < (a.getD 0 []).length) && df a b 0 i) = true
    · rw [if_pos h]
      have h1 : i < (a.getD 0 []).length := by simp at h; exact h.1
      exact ⟨by simp, fun x hx => by have : x = i := by simpa using hx
                                     subst this; exact ⟨by simp, by simp, h1⟩⟩
    · rw [if_neg h]; exact ⟨List.Pairwise.nil, fun x hx => by simp at hx⟩
  | k + 1, i => by
    obtain ⟨p1, r1⟩ := dfs_sorted a b k (2 * i)
    obtain ⟨p2, r2⟩ := dfs_sorted a b k (2 * i + 1)
    have e1 : (2 * i) * 2 ^ k = i * 2 ^ (k + 1) := by rw [Nat.pow_succ, Nat.mul_comm (2 ^ k) 2, ← Nat.mul_assoc, Nat.mul_comm i 2]
    have e2 : (2 * i + 1 + 1) * 2 ^ k = (i + 1) * 2 ^ (k + 1) := by rw [Nat.pow_succ, Nat.mul_comm (2 ^ k) 2, ← Nat.mul_assoc]; congr 1; omega
    have e3 : (2 * i) * 2 ^ k ≤ (2 * i + 1) * 2 ^ k := Nat.mul_le_mul_right _ (by omega)
    have e4 : (2 * i + 1) * 2 ^ k ≤ (2 * i + 1 + 1) * 2 ^ k := Nat.mul_le_mul_right _ (by omega)
    unfold dfs
    by_cases h : (decide (i < (a.getD (k + 1) []).length) && df a b (k + 1) i) = true
    · rw [if_pos h]
      refine ⟨List.pairwise_append.2 ⟨p1, p2, fun x hx y hy => ?_⟩, fun x hx => ?_⟩
      · have := (r1 x hx).2.1; have := (r2 y hy).1; omega
      · rcases List.mem_append.1 hx with hx | hx
        · have := r1 x hx; exact ⟨by omega, by omega, this.2.2⟩
        · have := r2 x hx; exact ⟨by omega, by omega, this.2.2⟩
    · rw [if_neg h]; exact ⟨List.Pairwise.nil, fun x hx => by simp at hx⟩
theorem leaf_exts {n m : Nat} (hn : n ≤ 4096) (hm : 1 ≤ m) {is : List Nat} (hs : is.Pairwise (· < ·)) (hr : ∀ i ∈ is, i < leavesN n m) : (is.map (leafE n m)).Pairwise (fun x y => x.1 + x.2 ≤ y.1) ∧ ∀ e ∈ is.map (leafE n m), 0 ≤ e.1 ∧ 0 < e.2 ∧ e.1 + e.2 ≤ 4096 := by
  constructor
  · rw [List.pairwise_map]
    refine hs.imp (fun {i j} hij => ?_)
    have h1 : (i + 1) * m ≤ j * m := Nat.mul_le_mul_right _ hij
    rw [Nat.succ_mul] at h1
    simp only [leafE]
    omega
  · intro e he
    obtain ⟨i, hi, rfl⟩ := List.mem_map.1 he
    have h1 := leaf_lt hm (hr i hi)
    simp only [leafE]
    omega
theorem difT_dfs {n m : Nat} {l l' : List (List Int)} (h : TOk n m l) (he : difErr ((n : Int), (m : Int), l) ((n : Int), (m : Int), l') = 0) : difT ((n : Int), (m : Int), l) ((n : Int), (m : Int), l') = extsL ((dfs l l' (l.length - 1) 0).map (leafE n m)) := by
  have h0 := h.ne
  obtain ⟨hs, hr⟩ := dfs_sorted l l' (l.length - 1) 0
  have hb : ∀ i ∈ dfs l l' (l.length - 1) 0, i < leavesN n m := fun i hi => by
    have := (hr i hi).2.2
    rw [List.getD_eq_getElem?_getD, List.getElem?_eq_getElem h0, Option.getD_some, (h.at_ 0 h0).1] at this
    exact this
  obtain ⟨p, r⟩ := leaf_exts h.n2 h.m1 hs hb
  rw [difT, if_pos he]
  have e : difE ((n : Int), (m : Int), l) ((n : Int), (m : Int), l') = (dfs l l' (l.length - 1) 0).map (leafE n m) := by
    show (difN l l').map (leafE n m) = _
    rw [difN_dfs h]
  rw [e]
  exact opL_exts p r
end Go.Proofs.Ythneomehfmjbkaa

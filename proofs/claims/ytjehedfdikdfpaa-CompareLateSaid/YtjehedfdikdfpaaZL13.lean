/-
  Plain words: what a walk ends with is a walk without error. No program in sight.
-/
import Derived.Test.YtjehedfdikdfpaaZL07
set_option linter.unusedVariables false
set_option linter.unusedSimpArgs false
set_option linter.unusedSectionVars false
set_option linter.unnecessarySimpa false
namespace Go.Proofs.Ytjehedfdikdfpaa

/-- joined extents are canonical -/
theorem exts_ok {N : Nat} : ∀ es : List Ext, es.Pairwise (fun x y => x.1 + x.2 ≤ y.1) → (∀ e ∈ es, 0 ≤ e.1 ∧ 0 < e.2 ∧ e.1 + e.2 ≤ N) → exE N 0 (extsL es) = 0 ∧ (∀ s c, (extsL es).getLast? = some (s, c) → ∃ e ∈ es, s + c = e.1 + e.2) := by
  refine snocRec ?_ ?_
  · intro _ _; exact ⟨rfl, fun s c h => by simp [extsL] at h⟩
  · intro es e ih hp hb
    rw [List.pairwise_append] at hp
    obtain ⟨ih1, ih2⟩ := ih hp.1 (fun x hx => hb x (by simp [hx]))
    have hi := hb e (by simp)
    have hlt : ∀ x ∈ es, x.1 + x.2 ≤ e.1 := fun x hx => hp.2.2 x hx e (by simp)
    rw [extsL_snoc]
    generalize extsL es = out at ih1 ih2
    unfold extStep
    cases hg : out.getLast? with
    | none =>
      have : out = [] := by simpa using hg
      subst this
      refine ⟨?_, fun s c h => ?_⟩
      · show exE N 0 [e] = 0
        unfold exE
        rw [if_neg (by omega), if_neg (by omega), if_neg (by omega)]; rfl
      · have h : e = (s, c) := by simpa using h
        exact ⟨e, by simp, by rw [h]⟩
    | some sc =>
      obtain ⟨s, c⟩ := sc
      have hsp := last_split hg
      obtain ⟨e0, he0, hsc⟩ := ih2 s c hg
      have hm := exE_mem ih1
      have hscm := hm.1 (s, c) (by rw [hsp]; simp)
      have h0i := hlt e0 he0
      have hdl : exE N 0 out.dropLast = 0 := by
        by_cases h : exE N 0 out.dropLast = 0
        · exact h
        · have := exE_app (m := [(s, c)]) h
          rw [← hsp] at this
          omega
      have hlast := exE_snoc (s, c) hdl
      rw [← hsp, ih1] at hlast
      simp only
      split
      · rename_i he
        refine ⟨?_, fun s' c' h => ?_⟩
        · rw [exE_snoc _ hdl]
          simp only at hlast hscm he ⊢
          split at hlast
          · omega
          · split at hlast
            · omega
            · split at hlast
              · omega
              · rw [if_neg (by omega), if_neg (by omega), if_neg (by omega)]
        · have h : (s, c + e.2) = (s', c') := by simpa using h
          obtain ⟨rfl, rfl⟩ := Prod.mk.inj h
          exact ⟨e, by simp, by omega⟩
      · rename_i he
        refine ⟨?_, fun s' c' h => ?_⟩
        · rw [exE_snoc _ ih1]
          have e1 : nextE 0 out = s + c + 1 := by unfold nextE; rw [hg]; rfl
          rw [e1]
          rw [if_neg (by omega), if_neg (by omega), if_neg (by omega)]
        · have h : e = (s', c') := by simpa using h
          exact ⟨e, by simp, by rw [h]⟩
theorem leaf_in {n m : Nat} (hm : 1 ≤ m) {is : List Nat} (hs : is.Pairwise (· < ·)) (hr : ∀ i ∈ is, i < leavesN n m) : (is.map (leafE n m)).Pairwise (fun x y => x.1 + x.2 ≤ y.1) ∧ ∀ e ∈ is.map (leafE n m), 0 ≤ e.1 ∧ 0 < e.2 ∧ e.1 + e.2 ≤ n := by
  constructor
  · rw [List.pairwise_map]
    refine hs.imp (fun {i j} hij => ?_)
    have h1 : (i + 1) * m ≤ j * m := Nat.mul_le_mul_right _ hij
    rw [Nat.succ_mul] at h1
    simp only [leafE]
    omega
  · intro e he
    obtain ⟨i, hi, rfl⟩ := List.mem_map.1 he
    have h1 := leaf_lt hm (hr i hi)
    simp only [leafE]
    omega
/-- what is found is canonical -/
theorem found_ok {n m : Nat} (hn : n ≤ 4096) (hm : 1 ≤ m) {is : List Nat} (hs : is.Pairwise (· < ·)) (hr : ∀ i ∈ is, i < leavesN n m) : extE (opL or (is.map (leafE n m)) []) (n : Int) = 0 := by
  obtain ⟨h1, h2⟩ := leaf_in hm hs hr
  rw [opL_exts h1 (fun e he => by have := h2 e he; omega)]
  unfold extE
  rw [if_neg (by omega)]
  exact (exts_ok _ h1 h2).1
theorem done_ok {n m : Nat} {l : List (List Int)} (hc : checkT ((n : Int), (m : Int), l) = 0) (tk : TOk n m l) {is : List Nat} (hs : is.Pairwise (· < ·)) (hr : ∀ i ∈ is, i < leavesN n m) {s : Nat} (h8 : s ≤ 8192) :
    wkE (((n : Int), (m : Int), l), [], 0, opL or (is.map (leafE n m)) [], (s : Int), true) = 0 := by
  unfold wkE
  simp only
  have h0 := tk.ne
  rw [if_neg (by rw [hc]; simp), if_neg (by
    rintro (h | h | ⟨_, h⟩ | h | h)
    · omega
    · omega
    · exact h rfl
    · omega
    · omega)]
  simp only [if_true]
  exact if_pos ⟨by first | trivial | rfl, found_ok tk.n2 tk.m1 hs hr⟩
theorem done_state {n m : Nat} {l : List (List Int)} (hc : checkT ((n : Int), (m : Int), l) = 0) (tk : TOk n m l) {is : List Nat} (hs : is.Pairwise (· < ·)) (hr : ∀ i ∈ is, i < leavesN n m) {s : Nat} (h8 : s ≤ 8192) (x : Msg) :
    learnE (((n : Int), (m : Int), l), [], 0, opL or (is.map (leafE n m)) [], (s : Int), true) x = 12 := by
  unfold learnE
  rw [if_neg (by rw [done_ok hc tk hs hr h8]; simp), if_pos rfl]
/-- an answer for another level is not expected -/
theorem learn_late {n m : Nat} {l l' : List (List Int)} {k j : Nat} {v u : List Nat} {s : Nat} (hc : checkT ((n : Int), (m : Int), l) = 0) (tk : TOk n m l) (hk : k < l.length) (hv : v.Pairwise (· < ·)) (hb : ∀ i ∈ v, i < nk (leavesN n m) k) (hne : v ≠ []) (hs : s ≤ 8192) (hj : j ≠ k) :
    learnE (stW ((n : Int), (m : Int), l) k v s) (ansM ((n : Int), (m : Int), l) l' j u) = 22 := by
  unfold learnE
  rw [if_neg (by rw [walk_ok hc tk hk hv hb hne hs]; simp)]
  unfold stW ansM
  simp only
  rw [if_neg (by simp), if_neg (by simp), if_pos (Or.inl (by omega))]
end Go.Proofs.Ytjehedfdikdfpaa

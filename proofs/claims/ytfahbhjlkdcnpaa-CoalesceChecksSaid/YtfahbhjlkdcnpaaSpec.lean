/-
  Plain words: the effect of a list of writes on a sector, runs of ascending numbers, canonical lists. No program in sight.
-/
import Derived.Test.YtfahbhjlkdcnpaaTy
set_option linter.unusedVariables false
set_option linter.unusedSimpArgs false
set_option linter.unusedSectionVars false
set_option linter.unnecessarySimpa false
namespace Go.Proofs.Ytfahbhjlkdcnpaa

theorem snocRec {α : Type} {P : List α → Prop} (h0 : P []) (h1 : ∀ l x, P l → P (l ++ [x])) : ∀ l, P l := by
  intro l
  have : ∀ m : List α, P m.reverse := by
    intro m
    induction m with
    | nil => exact h0
    | cons x m ih => rw [List.reverse_cons]; exact h1 _ _ ih
  have h := this l.reverse
  rwa [List.reverse_reverse] at h

abbrev Pl := Int × Int
abbrev Eff := List (Pl × Sec)
def zsec : Sec := [0, 0, 0, 0, 0, 0, 0, 0]
def hits (x : Wr) (V S : Int) : Prop := x.1 = V ∧ x.2.1 ≤ S ∧ S < x.2.1 + x.2.2.length
instance (x : Wr) (V S : Int) : Decidable (hits x V S) := by unfold hits; infer_instance
def datum (x : Wr) (S : Int) : Sec := x.2.2.getD (S - x.2.1).toNat zsec
/-- the effect of a list on a sector: the last write to it -/
def look (l : List Wr) (V S : Int) : Option Sec := l.foldl (fun r x => if hits x V S then some (datum x S) else r) none
theorem look_snoc (l : List Wr) (x : Wr) (V S : Int) : look (l ++ [x]) V S = if hits x V S then some (datum x S) else look l V S := by simp [look]
theorem look_nil (V S : Int) : look [] V S = none := rfl
theorem look_append (a b : List Wr) (V S : Int) : look (a ++ b) V S = (look b V S).or (look a V S) := by
  induction b using snocRec with
  | h0 => simp [look_nil]
  | h1 l x ih =>
    rw [← List.append_assoc, look_snoc, look_snoc, ih]
    split <;> simp
theorem look_take (l : List Wr) (k : Nat) (hk : k < l.length) (V S : Int) (h : ∀ j (hj : j < l.length), k < j → ¬ hits l[j] V S) : look l V S = look (l.take (k + 1)) V S := by
  have e : l = l.take (k + 1) ++ l.drop (k + 1) := (List.take_append_drop _ _).symm
  have key : ∀ m : List Wr, (∀ x ∈ m, ¬ hits x V S) → ∀ a, look (a ++ m) V S = look a V S := by
    intro m
    induction m using snocRec with
    | h0 => simp
    | h1 m x ih =>
      intro hm a
      rw [← List.append_assoc, look_snoc, if_neg (hm x (by simp))]
      exact ih (fun y hy => hm y (by simp [hy])) a
  conv => lhs; rw [e]
  refine key _ ?_ _
  intro x hx
  obtain ⟨i, hi, rfl⟩ := List.mem_iff_getElem.1 hx
  rw [List.getElem_drop]
  exact h _ _ (by omega)
theorem look_none (l : List Wr) (V S : Int) (h : ∀ x ∈ l, ¬ hits x V S) : look l V S = none := by
  induction l using snocRec with
  | h0 => rfl
  | h1 l x ih => rw [look_snoc, if_neg (h x (by simp))]; exact ih (fun y hy => h y (by simp [hy]))

/-- runs of ascending numbers: one number more -/
def runStep (out : List Ext) (x : Int) : List Ext :=
  match out.getLast? with
  | some (s, c) => if s + c = x then out.dropLast ++ [(s, c + 1)] else out ++ [(x, 1)]
  | none => [(x, 1)]
def runsL (xs : List Int) : List Ext := xs.foldl runStep []
theorem runsL_snoc (xs : List Int) (x : Int) : runsL (xs ++ [x]) = runStep (runsL xs) x := by simp [runsL]
/-- the places at which a list of marks says yes -/
def idxs (m : List Bool) : List Int := ((List.range m.length).filter fun i => m.getD i false).map Int.ofNat
theorem idxs_snoc (m : List Bool) (q : Bool) : idxs (m ++ [q]) = idxs m ++ (if q then [(m.length : Int)] else []) := by
  unfold idxs
  rw [List.length_append, List.length_singleton, List.range_succ, List.filter_append, List.map_append]
  congr 1
  · congr 1
    refine List.filter_congr fun i hi => ?_
    have := List.mem_range.1 hi
    simp [List.getElem?_append_left this]
  · cases q <;> simp
theorem run_end (m : List Bool) : (∃ s c, (runsL (idxs m)).getLast? = some (s, c) ∧ s + c = m.length) ↔ m.getLast? = some true := by
  induction m using snocRec with
  | h0 => simp [runsL, idxs]
  | h1 m q ih =>
    rw [idxs_snoc]
    cases q with
    | false =>
      have hle : ∀ (xs : List Int) (B : Int), (∀ x ∈ xs, x < B) → ∀ s c, (runsL xs).getLast? = some (s, c) → s + c ≤ B := by
        intro xs
        induction xs using snocRec with
        | h0 => intro B _ s c h; simp [runsL] at h
        | h1 xs x ihx =>
          intro B hB s c h
          have hx := hB x (by simp)
          rw [runsL_snoc, runStep] at h
          split at h
          · split at h
            · rename_i s' c' hg he
              simp at h
              obtain ⟨rfl, rfl⟩ := h
              omega
            · simp at h
              obtain ⟨rfl, rfl⟩ := h
              omega
          · simp at h
            obtain ⟨rfl, rfl⟩ := h
            omega
      constructor
      · rintro ⟨s, c, h1, h2⟩
        simp at h1 h2
        have := hle (idxs m) m.length (by
          intro x hx
          simp [idxs] at hx
          obtain ⟨i, ⟨hi, _⟩, rfl⟩ := hx
          omega) s c h1
        omega
      · intro h
        simp at h
    | true =>
      simp only [if_true, runsL_snoc, List.getLast?_concat, List.length_append, List.length_singleton, iff_true]
      unfold runStep
      split
      · split
        · rename_i s c hg he
          exact ⟨s, c + 1, by simp, by omega⟩
        · exact ⟨m.length, 1, by simp, by omega⟩
      · exact ⟨m.length, 1, by simp, by omega⟩

theorem runsL_bound (B : Int) (xs : List Int) (h : ∀ x ∈ xs, 0 ≤ x ∧ x < B) : (∀ e ∈ runsL xs, 0 ≤ e.1 ∧ 0 < e.2 ∧ e.1 + e.2 ≤ B) ∧ (runsL xs).length ≤ xs.length := by
  induction xs using snocRec with
  | h0 => simp [runsL]
  | h1 xs x ih =>
    obtain ⟨ih1, ih2⟩ := ih (fun y hy => h y (by simp [hy]))
    have hx := h x (by simp)
    rw [runsL_snoc, runStep]
    split
    · rename_i s c hg
      have hsc := ih1 (s, c) (List.mem_of_getLast? hg)
      simp only at hsc
      split
      · refine ⟨fun e he => ?_, ?_⟩
        · rcases List.mem_append.1 he with h' | h'
          · exact ih1 e ((List.dropLast_sublist _).subset h')
          · rw [List.mem_singleton.1 h']; simp only; omega
        · simp; omega
      · refine ⟨fun e he => ?_, by simp; omega⟩
        rcases List.mem_append.1 he with h' | h'
        · exact ih1 e h'
        · rw [List.mem_singleton.1 h']; simp only; omega
    · refine ⟨fun e he => ?_, by simp⟩
      rw [List.mem_singleton.1 he]; simp only; omega
theorem idxs_mem (m : List Bool) : ∀ x ∈ idxs m, 0 ≤ x ∧ x < m.length := by
  intro x hx
  simp [idxs] at hx
  obtain ⟨i, ⟨hi, _⟩, rfl⟩ := hx
  omega
theorem idxs_len (m : List Bool) : (idxs m).length ≤ m.length := by
  unfold idxs
  rw [List.length_map]
  exact Nat.le_trans (List.length_filter_le _ _) (by simp)
theorem runStep_more {out : List Ext} {s c x : Int} (h : out.getLast? = some (s, c)) (he : s + c = x) : runStep out x = out.set (out.length - 1) (s, c + 1) := by
  unfold runStep
  rw [h]
  simp only [he, if_true]
  obtain ⟨l, rfl⟩ := List.getLast?_eq_some_iff.1 h
  simp
theorem runStep_new {out : List Ext} {x : Int} (h : ∀ s c, out.getLast? = some (s, c) → s + c ≠ x) : runStep out x = out ++ [(x, 1)] := by
  unfold runStep
  split
  · rename_i s c hg
    rw [if_neg (h s c hg)]
  · rename_i hg
    rw [List.getLast?_eq_none_iff.1 hg]; rfl
/-- canonical lists: one place more -/
def canonStep (out : List Wr) (x : Pl × Sec) : List Wr :=
  match out.getLast? with
  | some (v, s, d) => if (v, s + d.length) = x.1 then out.dropLast ++ [(v, s, d ++ [x.2])] else out ++ [(x.1.1, x.1.2, [x.2])]
  | none => [(x.1.1, x.1.2, [x.2])]
def canonL (m : Eff) : List Wr := m.foldl canonStep []
theorem canonL_snoc (m : Eff) (x : Pl × Sec) : canonL (m ++ [x]) = canonStep (canonL m) x := by simp [canonL]
/-- the sectors of a volume that a list has an effect on -/
def secsOf (l : List Wr) (v : Int) : List Int := ((List.range 4096).filter fun (s : Nat) => (look l v s).isSome).map Int.ofNat
theorem secsOf_mem (l : List Wr) (v : Int) : ∀ x ∈ secsOf l v, 0 ≤ x ∧ x < 4096 := by
  intro x hx
  obtain ⟨i, hi, rfl⟩ := List.mem_map.1 hx
  have := List.mem_range.1 (List.mem_filter.1 hi).1
  exact ⟨Int.natCast_nonneg i, by show (i : Int) < 4096; omega⟩
theorem secsOf_len (l : List Wr) (v : Int) : (secsOf l v).length ≤ 4096 := by
  unfold secsOf
  rw [List.length_map]
  refine Nat.le_trans (List.length_filter_le _ _) (Nat.le_of_eq (List.length_range ..))
def assocV (l : List Wr) (v : Int) : Eff := (secsOf l v).map fun s => ((v, s), (look l v s).getD zsec)
def assoc (l : List Wr) : Eff := (List.range 8).flatMap fun (v : Nat) => assocV l v
/-- THE CANONICAL LIST -/
def foldS (l : List Wr) : List Wr := canonL (assoc l)
/-- the writes on some extents of a volume -/
def pickS (l : List Wr) (v : Int) (es : List Ext) : List Wr := es.map fun e => (v, e.1, (List.range e.2.toNat).map fun (k : Nat) => (look l v (e.1 + k)).getD zsec)

theorem canon_pick (v : Int) (f : Int → Sec) (xs : List Int) : canonL (xs.map fun s => ((v, s), f s)) = (runsL xs).map (fun e => (v, e.1, (List.range e.2.toNat).map fun (k : Nat) => f (e.1 + k))) ∧ ∀ e ∈ runsL xs, 0 < e.2 := by
  induction xs using snocRec with
  | h0 => simp [canonL, runsL]
  | h1 xs x ih =>
    obtain ⟨ih1, ih2⟩ := ih
    rw [List.map_append, List.map_singleton, canonL_snoc, runsL_snoc, ih1]
    unfold canonStep runStep
    rw [List.getLast?_map]
    rcases hg : (runsL xs).getLast? with _ | ⟨s, c⟩
    · simp [List.range_succ]
    · have hc : 0 < c := ih2 (s, c) (List.mem_of_getLast? hg)
      simp only [Option.map_some, List.length_map, List.length_range]
      have hcc : ((c.toNat : Nat) : Int) = c := by omega
      by_cases he : s + c = x
      · rw [if_pos (by rw [hcc, he]), if_pos he]
        refine ⟨?_, ?_⟩
        · rw [List.map_append, List.map_dropLast, List.map_singleton]
          congr 1
          have hs : (c + 1).toNat = c.toNat + 1 := by omega
          simp only [hs, List.range_succ, List.map_append, List.map_singleton, hcc, he]
        · intro e he'
          rcases List.mem_append.1 he' with h | h
          · exact ih2 e ((List.dropLast_sublist _).subset h)
          · rw [List.mem_singleton.1 h]; show 0 < c + 1; omega
      · rw [if_neg (by rw [hcc]; intro h; exact he (by injection h)), if_neg he]
        refine ⟨?_, ?_⟩
        · rw [List.map_append, List.map_singleton]
          simp [List.range_succ]
        · intro e he'
          rcases List.mem_append.1 he' with h | h
          · exact ih2 e h
          · rw [List.mem_singleton.1 h]; show (0 : Int) < 1; omega
theorem canonL_len (m : Eff) : (canonL m).length ≤ m.length ∧ ∀ x ∈ canonL m, x.2.2.length ≤ m.length := by
  induction m using snocRec with
  | h0 => simp [canonL]
  | h1 m z ih =>
    obtain ⟨ih1, ih2⟩ := ih
    rw [canonL_snoc, canonStep]
    split
    · rename_i v s d hg
      have hd := ih2 _ (List.mem_of_getLast? hg)
      simp only at hd
      split
      · refine ⟨by simp; omega, fun x hx => ?_⟩
        rcases List.mem_append.1 hx with h | h
        · have := ih2 x ((List.dropLast_sublist _).subset h); simp; omega
        · rw [List.mem_singleton.1 h]; simp; omega
      · refine ⟨by simp; omega, fun x hx => ?_⟩
        rcases List.mem_append.1 hx with h | h
        · have := ih2 x h; simp; omega
        · rw [List.mem_singleton.1 h]; simp
    · refine ⟨by simp, fun x hx => ?_⟩
      rw [List.mem_singleton.1 hx]; simp
theorem canonL_vols (m : Eff) : ∀ x ∈ canonL m, ∃ y ∈ m, y.1.1 = x.1 := by
  induction m using snocRec with
  | h0 => simp [canonL]
  | h1 m z ih =>
    intro x hx
    rw [canonL_snoc, canonStep] at hx
    split at hx
    · split at hx
      · rename_i v s d hg he
        rcases List.mem_append.1 hx with h | h
        · obtain ⟨y, hy, e⟩ := ih x ((List.dropLast_sublist _).subset h)
          exact ⟨y, by simp [hy], e⟩
        · rw [List.mem_singleton.1 h]
          exact ⟨z, by simp, by rw [← he]⟩
      · rcases List.mem_append.1 hx with h | h
        · obtain ⟨y, hy, e⟩ := ih x h
          exact ⟨y, by simp [hy], e⟩
        · rw [List.mem_singleton.1 h]
          exact ⟨z, by simp, rfl⟩
    · rw [List.mem_singleton.1 hx]
      exact ⟨z, by simp, rfl⟩
/-- lists of places of different volumes -/
theorem canonL_append (a b : Eff) (h : ∀ x ∈ a, ∀ y ∈ b, x.1.1 ≠ y.1.1) : canonL (a ++ b) = canonL a ++ canonL b := by
  induction b using snocRec with
  | h0 => simp [canonL]
  | h1 b z ih =>
    have ih := ih (fun x hx y hy => h x hx y (by simp [hy]))
    rw [← List.append_assoc, canonL_snoc, canonL_snoc, ih]
    unfold canonStep
    rw [List.getLast?_append]
    rcases hb : (canonL b).getLast? with _ | ⟨v, s, d⟩
    · have hb0 : canonL b = [] := List.getLast?_eq_none_iff.1 hb
      rw [hb0]
      simp only [Option.none_or, List.append_nil]
      rcases ha : (canonL a).getLast? with _ | ⟨v, s, d⟩
      · have ha0 : canonL a = [] := List.getLast?_eq_none_iff.1 ha
        simp [ha0]
      · obtain ⟨y, hy, e⟩ := canonL_vols a _ (List.mem_of_getLast? ha)
        have hne := h y hy z (by simp)
        simp only
        rw [if_neg]
        intro e2
        exact hne (e.trans (congrArg Prod.fst e2))
    · simp only [Option.some_or]
      split
      · rw [List.dropLast_append_of_ne_nil (by intro e; rw [e] at hb; simp at hb), List.append_assoc]
      · rw [List.append_assoc]
theorem foldS_eq (l : List Wr) : foldS l = (List.range 8).flatMap fun (v : Nat) => pickS l v (runsL (secsOf l v)) := by
  have key : ∀ n, canonL ((List.range n).flatMap fun (v : Nat) => assocV l v) = (List.range n).flatMap fun (v : Nat) => pickS l v (runsL (secsOf l v)) := by
    intro n
    induction n with
    | zero => simp [canonL]
    | succ n ih =>
      rw [List.range_succ, List.flatMap_append, List.flatMap_append, canonL_append, ih]
      · refine congrArg _ ?_
        simp only [List.flatMap_cons, List.flatMap_nil, List.append_nil]
        have h := (canon_pick n (fun s => (look l n s).getD zsec) (secsOf l n)).1
        unfold assocV pickS
        exact h
      · intro x hx y hy
        simp only [List.flatMap_cons, List.flatMap_nil, List.append_nil, List.mem_flatMap, List.mem_range, assocV, List.mem_map] at hx hy
        obtain ⟨v, hv, s, _, rfl⟩ := hx
        obtain ⟨s', _, rfl⟩ := hy
        show (v : Int) ≠ (n : Int)
        omega
  unfold foldS assoc
  exact key 8
end Go.Proofs.Ytfahbhjlkdcnpaa

/-
  Plain laws of canonical lists: places in order, the effect of a canonical list, that it passes the check. No program in sight.
-/
import Derived.Test.YtfahbhjlkdcnpaaChk
set_option linter.unusedVariables false
set_option linter.unusedSimpArgs false
set_option linter.unusedSectionVars false
set_option linter.unnecessarySimpa false
namespace Go.Proofs.Ytfahbhjlkdcnpaa

/-- places in order -/
def plLt (p q : Pl) : Prop := p.1 < q.1 ∨ (p.1 = q.1 ∧ p.2 < q.2)
def plOf (l : List Wr) : List Pl := (List.range 8).flatMap fun (v : Nat) => (secsOf l v).map fun s => ((v : Int), s)
theorem secsOf_sorted (l : List Wr) (v : Int) : (secsOf l v).Pairwise (· < ·) := by
  unfold secsOf
  rw [List.pairwise_map]
  exact (List.Pairwise.filter _ List.pairwise_lt_range).imp (fun h => by show (_ : Int) < _; exact Int.ofNat_lt.2 h)
theorem plOf_sorted (l : List Wr) : (plOf l).Pairwise plLt := by
  unfold plOf
  rw [List.pairwise_flatMap]
  refine ⟨fun v _ => ?_, ?_⟩
  · rw [List.pairwise_map]
    exact (secsOf_sorted l v).imp (fun h => Or.inr ⟨rfl, h⟩)
  · refine List.pairwise_lt_range.imp (fun {a b} hab x hx y hy => ?_)
    obtain ⟨s, _, rfl⟩ := List.mem_map.1 hx
    obtain ⟨t, _, rfl⟩ := List.mem_map.1 hy
    exact Or.inl (by simp only; omega)
theorem secsOf_iff (l : List Wr) (v s : Int) : s ∈ secsOf l v ↔ 0 ≤ s ∧ s < 4096 ∧ (look l v s).isSome = true := by
  unfold secsOf
  rw [List.mem_map]
  constructor
  · rintro ⟨i, hi, rfl⟩
    obtain ⟨h1, h2⟩ := List.mem_filter.1 hi
    have := List.mem_range.1 h1
    exact ⟨Int.natCast_nonneg i, by show (i : Int) < 4096; omega, h2⟩
  · rintro ⟨h1, h2, h3⟩
    refine ⟨s.toNat, List.mem_filter.2 ⟨List.mem_range.2 (by omega), ?_⟩, by show ((s.toNat : Nat) : Int) = s; omega⟩
    rw [show ((s.toNat : Nat) : Int) = s from by omega]
    exact h3
theorem plOf_iff (l : List Wr) (p : Pl) : p ∈ plOf l ↔ 0 ≤ p.1 ∧ p.1 < 8 ∧ 0 ≤ p.2 ∧ p.2 < 4096 ∧ (look l p.1 p.2).isSome = true := by
  unfold plOf
  rw [List.mem_flatMap]
  constructor
  · rintro ⟨v, hv, hp⟩
    obtain ⟨s, hs, rfl⟩ := List.mem_map.1 hp
    have h1 := List.mem_range.1 hv
    obtain ⟨h2, h3, h4⟩ := (secsOf_iff l v s).1 hs
    exact ⟨by simp only; omega, by simp only; omega, h2, h3, h4⟩
  · rintro ⟨h1, h2, h3, h4, h5⟩
    refine ⟨p.1.toNat, List.mem_range.2 (by omega), List.mem_map.2 ⟨p.2, ?_, ?_⟩⟩
    · rw [show ((p.1.toNat : Nat) : Int) = p.1 from by omega]
      exact (secsOf_iff l p.1 p.2).2 ⟨h3, h4, h5⟩
    · exact Prod.ext (by show ((p.1.toNat : Nat) : Int) = p.1; omega) rfl
theorem assoc_eq (l : List Wr) : assoc l = (plOf l).map fun p => (p, (look l p.1 p.2).getD zsec) := by
  unfold assoc plOf
  rw [List.map_flatMap]
  refine congrArg (fun f => List.flatMap f (List.range 8)) (funext fun v => ?_)
  unfold assocV
  rw [List.map_map]
  rfl

theorem foldS_congr {l m : List Wr} (h : ∀ V S, look l V S = look m V S) : foldS l = foldS m := by
  have e : look l = look m := funext fun V => funext fun S => h V S
  unfold foldS assoc assocV secsOf
  rw [e]
/-- the last effect of a list of effects on a place -/
def lastE (m : Eff) (p : Pl) : Option Sec := m.foldl (fun r x => if p = x.1 then some x.2 else r) none
theorem lastE_snoc (m : Eff) (x : Pl × Sec) (p : Pl) : lastE (m ++ [x]) p = if p = x.1 then some x.2 else lastE m p := by simp [lastE]
theorem hits_ext (v st V S : Int) (d : List Sec) (s : Sec) : hits (v, st, d ++ [s]) V S ↔ hits (v, st, d) V S ∨ (V, S) = (v, st + (d.length : Int)) := by
  unfold hits
  simp only [List.length_append, List.length_singleton, Prod.mk.injEq]
  omega
theorem look_canon (m : Eff) (V S : Int) : look (canonL m) V S = lastE m (V, S) := by
  induction m using snocRec with
  | h0 => rfl
  | h1 m x ih =>
    obtain ⟨⟨p1, p2⟩, s⟩ := x
    rw [canonL_snoc, lastE_snoc, ← ih]
    have hnew : ∀ L, look (L ++ [(p1, p2, [s])]) V S = if (V, S) = (p1, p2) then some s else look L V S := by
      intro L
      rw [look_snoc]
      by_cases h : (V, S) = (p1, p2)
      · injection h with h1 h2
        subst h1 h2
        rw [if_pos rfl, if_pos ⟨rfl, by simp; omega⟩]
        simp [datum]
      · rw [if_neg h, if_neg]
        intro hh
        obtain ⟨h1, h2, h3⟩ := hh
        simp at h1 h2 h3
        exact h (Prod.ext h1.symm (by simp only; omega))
    unfold canonStep
    split
    · rename_i v st d hg
      obtain ⟨init, hi⟩ := List.getLast?_eq_some_iff.1 hg
      rw [hi]
      split
      · rename_i he
        rw [List.dropLast_concat, look_snoc, look_snoc]
        injection he with e1 e2
        subst e1 e2
        by_cases h : (V, S) = (v, st + (d.length : Int))
        · rw [if_pos ((hits_ext v st V S d s).2 (Or.inr h)), if_pos h]
          injection h with h1 h2
          subst h1 h2
          have : (st + (d.length : Int) - st).toNat = d.length := by omega
          simp [datum, this]
        · rw [if_neg h]
          by_cases h2 : hits (v, st, d) V S
          · rw [if_pos ((hits_ext v st V S d s).2 (Or.inl h2)), if_pos h2]
            obtain ⟨_, h3, h4⟩ := h2
            simp only at h3 h4
            have : (S - st).toNat < d.length := by omega
            simp [datum, List.getElem?_append_left this]
          · rw [if_neg (fun hh => by rcases (hits_ext v st V S d s).1 hh with hh | hh; exact h2 hh; exact h hh), if_neg h2]
      · exact hnew _
    · rename_i hg
      have h0 := List.getLast?_eq_none_iff.1 hg
      rw [h0]
      exact hnew []
theorem lastE_assoc (l : List Wr) (p : Pl) : lastE (assoc l) p = if p ∈ plOf l then some ((look l p.1 p.2).getD zsec) else none := by
  rw [assoc_eq]
  generalize plOf l = ps
  induction ps using snocRec with
  | h0 => simp [lastE]
  | h1 ps q ih =>
    rw [List.map_append, List.map_singleton, lastE_snoc, ih]
    by_cases h : p = q
    · subst h; simp
    · simp [h]
theorem look_range {l : List Wr} (hl : ∀ x ∈ l, placedN x = 0) {V S : Int} (h : (look l V S).isSome = true) : 0 ≤ V ∧ V < 8 ∧ 0 ≤ S ∧ S < 4096 := by
  induction l using snocRec with
  | h0 => simp [look_nil] at h
  | h1 l x ih =>
    rw [look_snoc] at h
    split at h
    · rename_i hh
      obtain ⟨a, b, _, c, d⟩ := placed_ok (hl x (by simp))
      obtain ⟨h1, h2, h3⟩ := hh
      omega
    · exact ih (fun y hy => hl y (by simp [hy])) h
/-- A CANONICAL LIST HAS THE EFFECT OF THE LIST -/
theorem look_fold {l : List Wr} (hl : ∀ x ∈ l, placedN x = 0) (V S : Int) : look (foldS l) V S = look l V S := by
  unfold foldS
  rw [look_canon, lastE_assoc]
  cases h : look l V S with
  | none =>
    rw [if_neg]
    intro hp
    have := ((plOf_iff l (V, S)).1 hp).2.2.2.2
    simp only [h] at this
    cases this
  | some s =>
    have hr := look_range hl (V := V) (S := S) (by rw [h]; rfl)
    rw [if_pos ((plOf_iff l (V, S)).2 ⟨hr.1, hr.2.1, hr.2.2.1, hr.2.2.2, by simp only [h]; rfl⟩)]
    simp
theorem withPrev_snoc (L : List Wr) (x : Wr) : withPrev (L ++ [x]) = withPrev L ++ [(L.getLast?, x)] := by
  unfold withPrev
  induction L using snocRec with
  | h0 => rfl
  | h1 M y _ =>
    have e1 : (none :: List.map some (M ++ [y] ++ [x])) = (none :: M.map some) ++ [some y, some x] := by simp
    have e2 : (none :: List.map some (M ++ [y])) = (none :: M.map some) ++ [some y] := by simp
    have e3 : ((none :: M.map some) ++ [some y]).zip (M ++ [y]) = (none :: M.map some).zip (M ++ [y]) := by
      have := List.zip_append (l₁ := none :: M.map some) (r₁ := [some y]) (l₂ := M ++ [y]) (r₂ := ([] : List Wr)) (by simp)
      simpa using this
    rw [e1, e2, e3, List.zip_append (by simp), List.getLast?_concat]
    rfl
theorem chkN_zero_iff (f : Wr → Int) (L : List Wr) : chkN f L = 0 ↔ ∀ p ∈ withPrev L, stepErr f p = 0 := by
  constructor
  · intro h p hp
    rcases Decidable.em (stepErr f p = 0) with h0 | h0
    · exact h0
    · exfalso
      unfold chkN errOf at h
      cases hf : (withPrev L).find? (fun x => stepErr f x != 0) with
      | none => have := List.find?_eq_none.1 hf p hp; simp at this; exact h0 this
      | some q =>
        rw [hf] at h
        have h1 := List.find?_some hf
        simp only [Option.map_some, Option.getD_some] at h
        rw [h] at h1
        simp at h1
  · intro h
    exact errOf_zero h
theorem placed_mk {v s : Int} {d : List Sec} (h1 : 0 ≤ v) (h2 : v < 8) (h3 : 0 < d.length) (h4 : 0 ≤ s) (h5 : s + d.length ≤ 4096) : placedN (v, s, d) = 0 := by
  unfold placedN
  simp only
  rw [if_neg (by omega), if_neg (by omega), if_neg (by omega)]
theorem canon_ok (m : Eff) (hs : (m.map (·.1)).Pairwise plLt) (hr : ∀ x ∈ m, 0 ≤ x.1.1 ∧ x.1.1 < 8 ∧ 0 ≤ x.1.2 ∧ x.1.2 < 4096) :
    (∀ p ∈ withPrev (canonL m), stepErr placedN p = 0) ∧ (∀ v st d, (canonL m).getLast? = some (v, st, d) → 0 < d.length ∧ placedN (v, st, d) = 0 ∧ (m.map (·.1)).getLast? = some (v, st + d.length - 1)) := by
  induction m using snocRec with
  | h0 => simp [canonL, withPrev]
  | h1 m x ih =>
    obtain ⟨⟨p1, p2⟩, s⟩ := x
    rw [List.map_append, List.pairwise_append] at hs
    obtain ⟨ih1, ih2⟩ := ih hs.1 (fun y hy => hr y (by simp [hy]))
    obtain ⟨r1, r2, r3, r4⟩ := hr ((p1, p2), s) (by simp)
    simp only at r1 r2 r3 r4
    have hlt := fun q hq => hs.2.2 q hq (p1, p2) (by simp)
    rw [canonL_snoc, canonStep]
    split
    · rename_i v st d hg
      obtain ⟨hd, hpl, hlast⟩ := ih2 v st d hg
      obtain ⟨a1, a2, _, a4, a5⟩ := placed_ok hpl
      simp only at a1 a2 a4 a5
      obtain ⟨init, hi⟩ := List.getLast?_eq_some_iff.1 hg
      have hltp := hlt _ (List.mem_of_getLast? hlast)
      unfold plLt at hltp
      simp only at hltp
      split
      · rename_i he
        injection he with e1 e2
        have hp' : placedN (v, st, d ++ [s]) = 0 := placed_mk a1 a2 (by simp) a4 (by simp; omega)
        refine ⟨?_, ?_⟩
        · rw [hi, List.dropLast_concat, withPrev_snoc]
          rw [hi, withPrev_snoc] at ih1
          intro p hp
          rcases List.mem_append.1 hp with hp | hp
          · exact ih1 p (by simp [hp])
          · rw [List.mem_singleton.1 hp]
            have h0 := ih1 (init.getLast?, (v, st, d)) (by simp)
            unfold stepErr at h0 ⊢
            rw [if_neg (by rw [hpl]; simp)] at h0
            rw [if_neg (by rw [hp']; simp)]
            exact h0
        · intro v' st' d' hg'
          rw [List.getLast?_concat] at hg'
          injection hg' with hg'
          injection hg' with e3 e4
          injection e4 with e4 e5
          subst e3 e4 e5
          refine ⟨by simp, hp', ?_⟩
          rw [List.map_append, List.map_singleton, List.getLast?_concat, ← e1, ← e2]
          simp; omega
      · rename_i hne
        have hp' : placedN (p1, p2, [s]) = 0 := placed_mk r1 r2 (by simp) r3 (by simp; omega)
        refine ⟨?_, ?_⟩
        · rw [withPrev_snoc]
          intro p hp
          rcases List.mem_append.1 hp with hp | hp
          · exact ih1 p hp
          · rw [List.mem_singleton.1 hp, hg]
            unfold stepErr
            rw [if_neg (by rw [hp']; simp)]
            simp only
            rw [if_neg]
            intro hc
            have : (v, st + (d.length : Int)) ≠ (p1, p2) := hne
            have h3 : ¬ (v = p1 ∧ st + (d.length : Int) = p2) := fun h => this (Prod.ext h.1 h.2)
            omega
        · intro v' st' d' hg'
          rw [List.getLast?_concat] at hg'
          injection hg' with hg'
          injection hg' with e3 e4
          injection e4 with e4 e5
          subst e3 e4 e5
          refine ⟨by simp, hp', ?_⟩
          rw [List.map_append, List.map_singleton, List.getLast?_concat]
          simp
    · rename_i hg
      have h0 := List.getLast?_eq_none_iff.1 hg
      have hp' : placedN (p1, p2, [s]) = 0 := placed_mk r1 r2 (by simp) r3 (by simp; omega)
      refine ⟨?_, ?_⟩
      · intro p hp
        simp [withPrev] at hp
        subst hp
        unfold stepErr
        rw [if_neg (by rw [hp']; simp)]
      · intro v' st' d' hg'
        simp at hg'
        obtain ⟨e3, e4, e5⟩ := hg'
        subst e3 e4 e5
        refine ⟨by simp, hp', ?_⟩
        rw [List.map_append, List.map_singleton, List.getLast?_concat]
        simp
theorem assoc_places (l : List Wr) : (assoc l).map (·.1) = plOf l := by
  rw [assoc_eq, List.map_map]
  exact List.map_id' _
/-- A CANONICAL LIST PASSES THE CHECK -/
theorem chk_fold (l : List Wr) : chkN placedN (foldS l) = 0 := by
  rw [chkN_zero_iff]
  refine (canon_ok (assoc l) ?_ ?_).1
  · rw [assoc_places]; exact plOf_sorted l
  · intro x hx
    have : x.1 ∈ plOf l := by rw [← assoc_places]; exact List.mem_map.2 ⟨x, hx, rfl⟩
    have := (plOf_iff l x.1).1 this
    exact ⟨this.1, this.2.1, this.2.2.1, this.2.2.2.1⟩
theorem placed_fold (l : List Wr) : ∀ x ∈ foldS l, placedN x = 0 := chk_all (chk_fold l)
/-- canonical of canonical -/
theorem fold_fold {l : List Wr} (hl : ∀ x ∈ l, placedN x = 0) : foldS (foldS l) = foldS l := foldS_congr (look_fold hl)
theorem fold_append {a b : List Wr} (ha : ∀ x ∈ a, placedN x = 0) (hb : ∀ x ∈ b, placedN x = 0) : foldS (foldS a ++ foldS b) = foldS (a ++ b) :=
  foldS_congr fun V S => by rw [look_append, look_append, look_fold ha, look_fold hb]
theorem fold_append1 {a b : List Wr} (ha : ∀ x ∈ a, placedN x = 0) : foldS (foldS a ++ b) = foldS (a ++ b) :=
  foldS_congr fun V S => by rw [look_append, look_append, look_fold ha]
theorem fold_append2 {a b : List Wr} (hb : ∀ x ∈ b, placedN x = 0) : foldS (a ++ foldS b) = foldS (a ++ b) :=
  foldS_congr fun V S => by rw [look_append, look_append, look_fold hb]
theorem look_swap {x y : Wr} {V S : Int} (h : ¬ (hits x V S ∧ hits y V S)) : look [x, y] V S = look [y, x] V S := by
  have e : ∀ a b : Wr, look [a, b] V S = if hits b V S then some (datum b S) else if hits a V S then some (datum a S) else none := fun a b => rfl
  rw [e, e]
  by_cases h1 : hits x V S
  · by_cases h2 : hits y V S
    · exact absurd ⟨h1, h2⟩ h
    · rw [if_neg h2, if_pos h1, if_pos h1]
  · rw [if_neg h1]
    by_cases h2 : hits y V S <;> simp [h1, h2]
/-- neighbours that do not overlap may be exchanged -/
theorem fold_swap {pre post : List Wr} {x y : Wr} (h : ∀ V S, ¬ (hits x V S ∧ hits y V S)) : foldS (pre ++ [y, x] ++ post) = foldS (pre ++ [x, y] ++ post) :=
  foldS_congr fun V S => by rw [look_append, look_append, look_append, look_append, look_swap (h V S)]
end Go.Proofs.Ytfahbhjlkdcnpaa

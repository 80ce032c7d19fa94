/-
  Plain laws of canonical lists: places in order, the effect of a canonical list, that it passes the check. No program in sight.
  The plain law of Fold: the sorted effects of a list of placed writes are the reference's.
  The walk of Fold (the program).
-/
import Derived.Test.YtnkmklnlaepdeaaGreatPg
import Derived.Test.YtnkmklnlaepdeaaGreatPq
set_option linter.unusedVariables false
set_option linter.unusedSimpArgs false
set_option linter.unusedSectionVars false
set_option linter.unnecessarySimpa false
namespace Go.Proofs.YtnkmklnlaepdeaaGreat

/-- places in order -/
def plLt (p q : Pl) : Prop := p.1 < q.1 ∨ (p.1 = q.1 ∧ p.2 < q.2)
def plOf (l : List Wr) : List Pl := (List.range 8).flatMap fun (v : Nat) => (secsOf l v).map fun s => ((v : Int), s)
theorem secsOf_sorted (l : List Wr) (v : Int) : (secsOf l v).Pairwise (· < ·) := by
  unfold secsOf
  rw [List.pairwise_map]
  exact (List.Pairwise.filter _ List.pairwise_lt_range).imp (fun h => by show (_ : Int) < _; exact Int.ofNat_lt.2 h)
theorem plOf_sorted (l : List Wr) : (plOf l).Pairwise plLt := by
  unfold plOf
  rw [List.pairwise_flatMap]
  refine ⟨fun v _ => ?_, ?_⟩
  · rw [List.pairwise_map]
    exact (secsOf_sorted l v).imp (fun h => Or.inr ⟨rfl, h⟩)
  · refine List.pairwise_lt_range.imp (fun {a b} hab x hx y hy => ?_)
    obtain ⟨s, _, rfl⟩ := List.mem_map.1 hx
    obtain ⟨t, _, rfl⟩ := List.mem_map.1 hy
    exact Or.inl (by simp only; omega)
theorem secsOf_iff (l : List Wr) (v s : Int) : s ∈ secsOf l v ↔ 0 ≤ s ∧ s < 4096 ∧ (look l v s).isSome = true := by
  unfold secsOf
  rw [List.mem_map]
  constructor
  · rintro ⟨i, hi, rfl⟩
    obtain ⟨h1, h2⟩ := List.mem_filter.1 hi
    have := List.mem_range.1 h1
    exact ⟨Int.natCast_nonneg i, by show (i : Int) < 4096; omega, h2⟩
  · rintro ⟨h1, h2, h3⟩
    refine ⟨s.toNat, List.mem_filter.2 ⟨List.mem_range.2 (by omega), ?_⟩, by show ((s.toNat : Nat) : Int) = s; omega⟩
    rw [show ((s.toNat : Nat) : Int) = s from by omega]
    exact h3
theorem plOf_iff (l : List Wr) (p : Pl) : p ∈ plOf l ↔ 0 ≤ p.1 ∧ p.1 < 8 ∧ 0 ≤ p.2 ∧ p.2 < 4096 ∧ (look l p.1 p.2).isSome = true := by
  unfold plOf
  rw [List.mem_flatMap]
  constructor
  · rintro ⟨v, hv, hp⟩
    obtain ⟨s, hs, rfl⟩ := List.mem_map.1 hp
    have h1 := List.mem_range.1 hv
    obtain ⟨h2, h3, h4⟩ := (secsOf_iff l v s).1 hs
    exact ⟨by simp only; omega, by simp only; omega, h2, h3, h4⟩
  · rintro ⟨h1, h2, h3, h4, h5⟩
    refine ⟨p.1.toNat, List.mem_range.2 (by omega), List.mem_map.2 ⟨p.2, ?_, ?_⟩⟩
    · rw [show ((p.1.toNat : Nat) : Int) = p.1 from by omega]
      exact (secsOf_iff l p.1 p.2).2 ⟨h3, h4, h5⟩
    · exact Prod.ext (by show ((p.1.toNat : Nat) : Int) = p.1; omega) rfl
theorem assoc_eq (l : List Wr) : assoc l = (plOf l).map fun p => (p, (look l p.1 p.2).getD zsec) := by
  unfold assoc plOf
  rw [List.map_flatMap]
  refine congrArg (fun f => List.flatMap f (List.range 8)) (funext fun v => ?_)
  unfold assocV
  rw [List.map_map]
  rfl

theorem foldS_congr {l m : List Wr} (h : ∀ V S, look l V S = look m V S) : foldS l = foldS m := by
  have e : look l = look m := funext fun V => funext fun S => h V S
  unfold foldS assoc assocV secsOf
  rw [e]
/-- the last effect of a list of effects on a place -/
def lastE (m : Eff) (p : Pl) : Option Sec := m.foldl (fun r x => if p = x.1 then some x.2 else r) none
theorem lastE_snoc (m : Eff) (x : Pl × Sec) (p : Pl) : lastE (m ++ [x]) p = if p = x.1 then some x.2 else lastE m p := by simp [lastE]
theorem hits_ext (v st V S : Int) (d : List Sec) (s : Sec) : hits (v, st, d ++ [s]) V S ↔ hits (v, st, d) V S ∨ (V, S) = (v, st + (d.length : Int)) := by
  unfold hits
  simp only [List.length_append, List.length_singleton, Prod.mk.injEq]
  omega
theorem look_canon (m : Eff) (V S : Int) : look (canonL m) V S = lastE m (V, S) := by
  induction m using snocRec with
  | h0 => rfl
  | h1 m x ih =>
    obtain ⟨⟨p1, p2⟩, s⟩ := x
    rw [canonL_snoc, lastE_snoc, ← ih]
    have hnew : ∀ L, look (L ++ [(p1, p2, [s])]) V S = if (V, S) = (p1, p2) then some s else look L V S := by
      intro L
      rw [look_snoc]
      by_cases h : (V, S) = (p1, p2)
      · injection h with h1 h2
        subst h1 h2
        rw [if_pos rfl, if_pos ⟨rfl, by simp; omega⟩]
        simp [datum]
      · rw [if_neg h, if_neg]
        intro hh
        obtain ⟨h1, h2, h3⟩ := hh
        simp at h1 h2 h3
        exact h (Prod.ext h1.symm (by simp only; omega))
    unfold canonStep
    split
    · rename_i v st d hg
      obtain ⟨init, hi⟩ := List.getLast?_eq_some_iff.1 hg
      rw [hi]
      split
      · rename_i he
        rw [List.dropLast_concat, look_snoc, look_snoc]
        injection he with e1 e2
        subst e1 e2
        by_cases h : (V, S) = (v, st + (d.length : Int))
        · rw [if_pos ((hits_ext v st V S d s).2 (Or.inr h)), if_pos h]
          injection h with h1 h2
          subst h1 h2
          have : (st + (d.length : Int) - st).toNat = d.length := by omega
          simp [datum, this]
        · rw [if_neg h]
          by_cases h2 : hits (v, st, d) V S
          · rw [if_pos ((hits_ext v st V S d s).2 (Or.inl h2)), if_pos h2]
            obtain ⟨_, h3, h4⟩ := h2
            simp only at h3 h4
            have : (S - st).toNat < d.length := by omega
            simp [datum, List.getElem?_append_left this]
          · rw [if_neg (fun hh => by rcases (hits_ext v st V S d s).1 hh with hh | hh; exact h2 hh; exact h hh), if_neg h2]
      · exact hnew _
    · rename_i hg
      have h0 := List.getLast?_eq_none_iff.1 hg
      rw [h0]
      exact hnew []
theorem lastE_assoc (l : List Wr) (p : Pl) : lastE (assoc l) p = if p ∈ plOf l then some ((look l p.1 p.2).getD zsec) else none := by
  rw [assoc_eq]
  generalize plOf l = ps
  induction ps using snocRec with
  | h0 => simp [lastE]
  | h1 ps q ih =>
    rw [List.map_append, List.map_singleton, lastE_snoc, ih]
    by_cases h : p = q
    · subst h; simp
    · simp [h]
theorem look_range {l : List Wr} (hl : ∀ x ∈ l, placedN x = 0) {V S : Int} (h : (look l V S).isSome = true) : 0 ≤ V ∧ V < 8 ∧ 0 ≤ S ∧ S < 4096 := by
  induction l using snocRec with
  | h0 => simp [look_nil] at h
  | h1 l x ih =>
    rw [look_snoc] at h
    split at h
    · rename_i hh
      obtain ⟨a, b, _, c, d⟩ := placed_ok (hl x (by simp))
      obtain ⟨h1, h2, h3⟩ := hh
      omega
    · exact ih (fun y hy => hl y (by simp [hy])) h
/-- A CANONICAL LIST HAS THE EFFECT OF THE LIST -/
theorem look_fold {l : List Wr} (hl : ∀ x ∈ l, placedN x = 0) (V S : Int) : look (foldS l) V S = look l V S := by
  unfold foldS
  rw [look_canon, lastE_assoc]
  cases h : look l V S with
  | none =>
    rw [if_neg]
    intro hp
    have := ((plOf_iff l (V, S)).1 hp).2.2.2.2
    simp only [h] at this
    cases this
  | some s =>
    have hr := look_range hl (V := V) (S := S) (by rw [h]; rfl)
    rw [if_pos ((plOf_iff l (V, S)).2 ⟨hr.1, hr.2.1, hr.2.2.1, hr.2.2.2, by simp only [h]; rfl⟩)]
    simp
theorem withPrev_snoc (L : List Wr) (x : Wr) : withPrev (L ++ [x]) = withPrev L ++ [(L.getLast?, x)] := by
  unfold withPrev
  induction L using snocRec with
  | h0 => rfl
  | h1 M y _ =>
    have e1 : (none :: List.map some (M ++ [y] ++ [x])) = (none :: M.map some) ++ [some y, some x] := by simp
    have e2 : (none :: List.map some (M ++ [y])) = (none :: M.map some) ++ [some y] := by simp
    have e3 : ((none :: M.map some) ++ [some y]).zip (M ++ [y]) = (none :: M.map some).zip (M ++ [y]) := by
      have := List.zip_append (l₁ := none :: M.map some) (r₁ := [some y]) (l₂ := M ++ [y]) (r₂ := ([] : List Wr)) (by simp)
      simpa using this
    rw [e1, e2, e3, List.zip_append (by simp), List.getLast?_concat]
    rfl
theorem chkN_zero_iff (f : Wr → Int) (L : List Wr) : chkN f L = 0 ↔ ∀ p ∈ withPrev L, stepErr f p = 0 := by
  constructor
  · intro h p hp
    rcases Decidable.em (stepErr f p = 0) with h0 | h0
    · exact h0
    · exfalso
      unfold chkN errOf at h
      cases hf : (withPrev L).find? (fun x => stepErr f x != 0) with
      | none => have := List.find?_eq_none.1 hf p hp; simp at this; exact h0 this
      | some q =>
        rw [hf] at h
        have h1 := List.find?_some hf
        simp only [Option.map_some, Option.getD_some] at h
        rw [h] at h1
        simp at h1
  · intro h
    exact errOf_zero h
theorem placed_mk {v s : Int} {d : List Sec} (h1 : 0 ≤ v) (h2 : v < 8) (h3 : 0 < d.length) (h4 : 0 ≤ s) (h5 : s + d.length ≤ 4096) : placedN (v, s, d) = 0 := by
  unfold placedN
  simp only
  rw [if_neg (by omega), if_neg (by omega), if_neg (by omega)]
theorem canon_ok (m : Eff) (hs : (m.map (·.1)).Pairwise plLt) (hr : ∀ x ∈ m, 0 ≤ x.1.1 ∧ x.1.1 < 8 ∧ 0 ≤ x.1.2 ∧ x.1.2 < 4096) :
    (∀ p ∈ withPrev (canonL m), stepErr placedN p = 0) ∧ (∀ v st d, (canonL m).getLast? = some (v, st, d) → 0 < d.length ∧ placedN (v, st, d) = 0 ∧ (m.map (·.1)).getLast? = some (v, st + d.length - 1)) := by
  induction m using snocRec with
  | h0 => simp [canonL, withPrev]
  | h1 m x ih =>
    obtain ⟨⟨p1, p2⟩, s⟩ := x
    rw [List.map_append, List.pairwise_append] at hs
    obtain ⟨ih1, ih2⟩ := ih hs.1 (fun y hy => hr y (by simp [hy]))
    obtain ⟨r1, r2, r3, r4⟩ := hr ((p1, p2), s) (by simp)
    simp only at r1 r2 r3 r4
    have hlt := fun q hq => hs.2.2 q hq (p1, p2) (by simp)
    rw [canonL_snoc, canonStep]
    split
    · rename_i v st d hg
      obtain ⟨hd, hpl, hlast⟩ := ih2 v st d hg
      obtain ⟨a1, a2, _, a4, a5⟩ := placed_ok hpl
      simp only at a1 a2 a4 a5
      obtain ⟨init, hi⟩ := List.getLast?_eq_some_iff.1 hg
      have hltp := hlt _ (List.mem_of_getLast? hlast)
      unfold plLt at hltp
      simp only at hltp
      split
      · rename_i he
        injection he with e1 e2
        have hp' : placedN (v, st, d ++ [s]) = 0 := placed_mk a1 a2 (by simp) a4 (by simp; omega)
        refine ⟨?_, ?_⟩
        · rw [hi, List.dropLast_concat, withPrev_snoc]
          rw [hi, withPrev_snoc] at ih1
          intro p hp
          rcases List.mem_append.1 hp with hp | hp
          · exact ih1 p (by simp [hp])
          · rw [List.mem_singleton.1 hp]
            have h0 := ih1 (init.getLast?, (v, st, d)) (by simp)
            unfold stepErr at h0 ⊢
            rw [if_neg (by rw [hpl]; simp)] at h0
            rw [if_neg (by rw [hp']; simp)]
            exact h0
        · intro v' st' d' hg'
          rw [List.getLast?_concat] at hg'
          injection hg' with hg'
          injection hg' with e3 e4
          injection e4 with e4 e5
          subst e3 e4 e5
          refine ⟨by simp, hp', ?_⟩
          rw [List.map_append, List.map_singleton, List.getLast?_concat, ← e1, ← e2]
          simp; omega
      · rename_i hne
        have hp' : placedN (p1, p2, [s]) = 0 := placed_mk r1 r2 (by simp) r3 (by simp; omega)
        refine ⟨?_, ?_⟩
        · rw [withPrev_snoc]
          intro p hp
          rcases List.mem_append.1 hp with hp | hp
          · exact ih1 p hp
          · rw [List.mem_singleton.1 hp, hg]
            unfold stepErr
            rw [if_neg (by rw [hp']; simp)]
            simp only
            rw [if_neg]
            intro hc
            have : (v, st + (d.length : Int)) ≠ (p1, p2) := hne
            have h3 : ¬ (v = p1 ∧ st + (d.length : Int) = p2) := fun h => this (Prod.ext h.1 h.2)
            omega
        · intro v' st' d' hg'
          rw [List.getLast?_concat] at hg'
          injection hg' with hg'
          injection hg' with e3 e4
          injection e4 with e4 e5
          subst e3 e4 e5
          refine ⟨by simp, hp', ?_⟩
          rw [List.map_append, List.map_singleton, List.getLast?_concat]
          simp
    · rename_i hg
      have h0 := List.getLast?_eq_none_iff.1 hg
      have hp' : placedN (p1, p2, [s]) = 0 := placed_mk r1 r2 (by simp) r3 (by simp; omega)
      refine ⟨?_, ?_⟩
      · intro p hp
        simp [withPrev] at hp
        subst hp
        unfold stepErr
        rw [if_neg (by rw [hp']; simp)]
      · intro v' st' d' hg'
        simp at hg'
        obtain ⟨e3, e4, e5⟩ := hg'
        subst e3 e4 e5
        refine ⟨by simp, hp', ?_⟩
        rw [List.map_append, List.map_singleton, List.getLast?_concat]
        simp
theorem assoc_places (l : List Wr) : (assoc l).map (·.1) = plOf l := by
  rw [assoc_eq, List.map_map]
  exact List.map_id' _
/-- A CANONICAL LIST PASSES THE CHECK -/
theorem chk_fold (l : List Wr) : chkN placedN (foldS l) = 0 := by
  rw [chkN_zero_iff]
  refine (canon_ok (assoc l) ?_ ?_).1
  · rw [assoc_places]; exact plOf_sorted l
  · intro x hx
    have : x.1 ∈ plOf l := by rw [← assoc_places]; exact List.mem_map.2 ⟨x, hx, rfl⟩
    have := (plOf_iff l x.1).1 this
    exact ⟨this.1, this.2.1, this.2.2.1, this.2.2.2.1⟩
theorem placed_fold (l : List Wr) : ∀ x ∈ foldS l, placedN x = 0 := chk_all (chk_fold l)
/-- canonical of canonical -/
theorem fold_fold {l : List Wr} (hl : ∀ x ∈ l, placedN x = 0) : foldS (foldS l) = foldS l := foldS_congr (look_fold hl)
theorem fold_append {a b : List Wr} (ha : ∀ x ∈ a, placedN x = 0) (hb : ∀ x ∈ b, placedN x = 0) : foldS (foldS a ++ foldS b) = foldS (a ++ b) :=
  foldS_congr fun V S => by rw [look_append, look_append, look_fold ha, look_fold hb]
theorem fold_append1 {a b : List Wr} (ha : ∀ x ∈ a, placedN x = 0) : foldS (foldS a ++ b) = foldS (a ++ b) :=
  foldS_congr fun V S => by rw [look_append, look_append, look_fold ha]
theorem fold_append2 {a b : List Wr} (hb : ∀ x ∈ b, placedN x = 0) : foldS (a ++ foldS b) = foldS (a ++ b) :=
  foldS_congr fun V S => by rw [look_append, look_append, look_fold hb]
theorem look_swap {x y : Wr} {V S : Int} (h : ¬ (hits x V S ∧ hits y V S)) : look [x, y] V S = look [y, x] V S := by
  have e : ∀ a b : Wr, look [a, b] V S = if hits b V S then some (datum b S) else if hits a V S then some (datum a S) else none := fun a b => rfl
  rw [e, e]
  by_cases h1 : hits x V S
  · by_cases h2 : hits y V S
    · exact absurd ⟨h1, h2⟩ h
    · rw [if_neg h2, if_pos h1, if_pos h1]
  · rw [if_neg h1]
    by_cases h2 : hits y V S <;> simp [h1, h2]
/-- neighbours that do not overlap may be exchanged -/
theorem fold_swap {pre post : List Wr} {x y : Wr} (h : ∀ V S, ¬ (hits x V S ∧ hits y V S)) : foldS (pre ++ [y, x] ++ post) = foldS (pre ++ [x, y] ++ post) :=
  foldS_congr fun V S => by rw [look_append, look_append, look_append, look_append, look_swap (h V S)]
end Go.Proofs.YtnkmklnlaepdeaaGreat

namespace Go.Proofs.YtnkmklnlaepdeaaGreat

def optM (M : Eff) (p : Pl) : Option Sec := (M.find? fun x => x.1 == p).map (·.2)
theorem getM_opt (M : Eff) (p : Pl) : getM M p = (optM M p).getD zsec := rfl
theorem optM_put (M : Eff) (p q : Pl) (s : Sec) : optM (putE M p s) q = if q = p then some s else optM M q := by
  induction M with
  | nil =>
    by_cases h : q = p
    · subst h; simp [putE, optM]
    · have : (p == q) = false := by rw [beq_eq_false_iff_ne]; exact fun e => h e.symm
      simp [putE, optM, h, this]
  | cons x M ih =>
    unfold putE
    by_cases hx : x.1 = p
    · rw [if_pos hx]
      by_cases h : q = p
      · subst h; simp [optM]
      · have h1 : (p == q) = false := by rw [beq_eq_false_iff_ne]; exact fun e => h e.symm
        have h2 : (x.1 == q) = false := by rw [hx]; exact h1
        simp [optM, h1, h2, h]
    · rw [if_neg hx]
      by_cases hq : x.1 = q
      · have : q ≠ p := fun e => hx (hq.trans e)
        simp [optM, hq, this]
      · have h2 : (x.1 == q) = false := by rw [beq_eq_false_iff_ne]; exact hq
        have e1 : optM (x :: putE M p s) q = optM (putE M p s) q := by simp [optM, h2]
        have e2 : optM (x :: M) q = optM M q := by simp [optM, h2]
        rw [e1, e2, ih]
theorem keys_put (M : Eff) (p : Pl) (s : Sec) : ∀ y ∈ putE M p s, y.1 = p ∨ ∃ z ∈ M, z.1 = y.1 := by
  induction M with
  | nil => intro y hy; simp [putE] at hy; exact Or.inl (by rw [hy])
  | cons x M ih =>
    intro y hy
    unfold putE at hy
    split at hy
    · rcases List.mem_cons.1 hy with h | h
      · exact Or.inl (by rw [h])
      · exact Or.inr ⟨y, by simp [h], rfl⟩
    · rcases List.mem_cons.1 hy with h | h
      · exact Or.inr ⟨x, by simp, by rw [h]⟩
      · rcases ih y h with h | ⟨z, hz, e⟩
        · exact Or.inl h
        · exact Or.inr ⟨z, by simp [hz], e⟩
theorem optM_effW (M : Eff) (x : Wr) (q : Pl) (j : Nat) (hj : j ≤ x.2.2.length) : optM (effW M x j) q = if q.1 = x.1 ∧ x.2.1 ≤ q.2 ∧ q.2 < x.2.1 + j then some (datum x q.2) else optM M q := by
  induction j with
  | zero =>
    have : ¬ (q.1 = x.1 ∧ x.2.1 ≤ q.2 ∧ q.2 < x.2.1 + ((0 : Nat) : Int)) := by omega
    rw [if_neg this]; rfl
  | succ j ih =>
    rw [effW_succ, optM_put, ih (by omega)]
    by_cases h : q = (x.1, x.2.1 + (j : Int))
    · rw [if_pos h, if_pos (by rw [h]; exact ⟨rfl, by simp only; omega, by simp only; omega⟩)]
      rw [h]
      simp only [datum]
      rw [show (x.2.1 + (j : Int) - x.2.1).toNat = j from by omega]
    · rw [if_neg h]
      by_cases h2 : q.1 = x.1 ∧ x.2.1 ≤ q.2 ∧ q.2 < x.2.1 + j
      · rw [if_pos h2, if_pos (by omega)]
      · rw [if_neg h2, if_neg]
        intro h3
        have : q.2 = x.2.1 + (j : Int) := by omega
        exact h (Prod.ext h3.1 this)
theorem optM_eff (l : List Wr) (q : Pl) : optM (effM l) q = look l q.1 q.2 := by
  induction l using snocRec with
  | h0 => rfl
  | h1 l x ih =>
    rw [effM_snoc, look_snoc, optM_effW _ _ _ _ (Nat.le_refl _), ih]
    by_cases h : hits x q.1 q.2
    · rw [if_pos h, if_pos ⟨h.1.symm, h.2⟩]
    · rw [if_neg h, if_neg (fun h' => h ⟨h'.1.symm, h'.2⟩)]
theorem effW_ok (M : Eff) (x : Wr) (hx : placedN x = 0) (h : ∀ y ∈ M, 0 ≤ y.1.1 ∧ y.1.1 < 8 ∧ 0 ≤ y.1.2 ∧ y.1.2 < 4096) (j : Nat) (hj : j ≤ x.2.2.length) : ∀ y ∈ effW M x j, 0 ≤ y.1.1 ∧ y.1.1 < 8 ∧ 0 ≤ y.1.2 ∧ y.1.2 < 4096 := by
  obtain ⟨a, b, _, c, d⟩ := placed_ok hx
  induction j with
  | zero => exact h
  | succ j ih =>
    intro y hy
    rw [effW_succ] at hy
    rcases keys_put _ _ _ y hy with e | ⟨z, hz, e⟩
    · rw [e]; simp only; omega
    · rw [← e]; exact ih (by omega) z hz
theorem eff_ok (l : List Wr) (hl : ∀ x ∈ l, placedN x = 0) : ∀ y ∈ effM l, 0 ≤ y.1.1 ∧ y.1.1 < 8 ∧ 0 ≤ y.1.2 ∧ y.1.2 < 4096 := by
  induction l using snocRec with
  | h0 => simp [effM]
  | h1 l x ih =>
    rw [effM_snoc]
    exact effW_ok _ x (hl x (by simp)) (ih (fun y hy => hl y (by simp [hy]))) _ (Nat.le_refl _)
theorem optM_mem (M : Eff) (p : Pl) : (optM M p).isSome ↔ p ∈ M.map (·.1) := by
  unfold optM
  rw [Option.isSome_map, List.find?_isSome, List.mem_map]
  constructor
  · rintro ⟨x, hx, e⟩; exact ⟨x, hx, by simpa using e⟩
  · rintro ⟨x, hx, e⟩; exact ⟨x, hx, by simpa using e⟩
/-- a list of distinct numbers below n -/
theorem nodup_len : ∀ (n : Nat) (l : List Nat), l.Nodup → (∀ x ∈ l, x < n) → l.length ≤ n
  | 0, l, _, h => by
    cases l with
    | nil => simp
    | cons x l => exact absurd (h x (by simp)) (by omega)
  | n + 1, l, hn, h => by
    have h1 := nodup_len n (l.filter (· != n)) (List.filter_sublist.nodup hn) (fun x hx => by
      have := List.mem_filter.1 hx
      have h2 := h x this.1
      have h3 : x ≠ n := by simpa using this.2
      omega)
    have h2 : ∀ m : List Nat, m.Nodup → m.length ≤ (m.filter (· != n)).length + 1 := by
      intro m
      induction m with
      | nil => simp
      | cons x m ih =>
        intro hm
        rw [List.nodup_cons] at hm
        by_cases hx : x = n
        · have e : m.filter (· != n) = m := List.filter_eq_self.2 (fun y hy => by
            rw [bne_iff_ne]; intro e; exact hm.1 (by rw [hx, ← e]; exact hy))
          have : (x != n) = false := by simp [hx]
          rw [List.filter_cons_of_neg (by simp [hx]), e]; simp
        · rw [List.filter_cons_of_pos (by simpa using hx)]
          have := ih hm.2
          simp; omega
    have := h2 l hn
    omega
theorem keys_len (M : Eff) (hn : (M.map (·.1)).Nodup) (h : ∀ y ∈ M, 0 ≤ y.1.1 ∧ y.1.1 < 8 ∧ 0 ≤ y.1.2 ∧ y.1.2 < 4096) : M.length ≤ 32768 := by
  have h1 := nodup_len 32768 (M.map fun y => (y.1.1 * 4096 + y.1.2).toNat) (by
    rw [List.nodup_iff_pairwise_ne, List.pairwise_map] at hn ⊢
    refine (List.Pairwise.and_mem.1 hn).imp (fun {a b} hab e => ?_)
    obtain ⟨ha, hb, hne⟩ := hab
    have h1 := h a ha
    have h2 := h b hb
    exact hne (Prod.ext (by omega) (by omega))) (by
    intro x hx
    obtain ⟨y, hy, rfl⟩ := List.mem_map.1 hx
    have := h y hy
    omega)
  simpa using h1

theorem sortP_plOf (l : List Wr) (hn : ((effM l).map (·.1)).Nodup) (hl : ∀ x ∈ l, placedN x = 0) : sortP ((effM l).map (·.1)) = plOf l := by
  have ht : ∀ x y z : Pl, (!(Go.Proofs.ltOf befI) y x) = true → (!(Go.Proofs.ltOf befI) z y) = true → (!(Go.Proofs.ltOf befI) z x) = true := by
    intro x y z h1 h2
    rw [befI_lt] at *; simp at *; omega
  have hc : ∀ x y : Pl, ((!(Go.Proofs.ltOf befI) y x) || (!(Go.Proofs.ltOf befI) x y)) = true := by
    intro x y
    rw [befI_lt, befI_lt]; simp; omega
  refine List.Perm.eq_of_pairwise (le := fun x y => (!(Go.Proofs.ltOf befI) y x) = true) ?_ (List.pairwise_mergeSort ht hc _) ?_ ?_
  · intro x y _ _ h1 h2
    exact totPl x y (by simpa using h2) (by simpa using h1)
  · refine (plOf_sorted l).imp (fun {x y} h => ?_)
    rw [befI_lt]
    unfold plLt at h
    simp; omega
  · refine (List.mergeSort_perm _ _).trans ((List.perm_ext_iff_of_nodup hn ?_).2 (fun p => ?_))
    · rw [List.nodup_iff_pairwise_ne]
      refine (plOf_sorted l).imp (fun {x y} h e => ?_)
      subst e
      unfold plLt at h
      omega
    · rw [← optM_mem, optM_eff, plOf_iff]
      constructor
      · intro h
        have hm : p ∈ (effM l).map (·.1) := (optM_mem _ _).1 (by rw [optM_eff]; exact h)
        obtain ⟨y, hy, rfl⟩ := List.mem_map.1 hm
        obtain ⟨a, b, c, d⟩ := eff_ok l hl y hy
        exact ⟨a, b, c, d, h⟩
      · exact fun h => h.2.2.2.2
/-- THE PLAIN LAW OF FOLD -/
theorem sortedM_assoc (l : List Wr) (hn : ((effM l).map (·.1)).Nodup) (hl : ∀ x ∈ l, placedN x = 0) : sortedM (effM l) = assoc l := by
  rw [sortedM, sortP_plOf l hn hl, assoc_eq]
  refine List.map_congr_left fun p _ => ?_
  rw [getM_opt, optM_eff]
end Go.Proofs.YtnkmklnlaepdeaaGreat

namespace Go.Proofs.YtnkmklnlaepdeaaGreat
open Go.RowKit Go.ChangeMaps

theorem placed8 (v s : Int) (n : Nat) (D : Option Addr) (c : Nat) (w : World) (hn : n ≤ 9223372036854775807) (data : List Sec) (hd : data.length = n) (pn : Int) (hp : placedN (v, s, data) = pn) :
    Calls Tryz.prog 86 #[.agg #[.int .i64 v, .int .i64 s, .slice D n c]] w fun e w' => e = .returned (.int .i64 pn) ∧ Below w.heap.size w w' := by
  subst hp
  exact placed_any v s n D c w hn data hd

set_option maxHeartbeats 2000000 in
theorem fold_any (A : Option Addr) (c : Nat) (l : List Wr) (w : World) (h1 : SlAt encWr w (Bl w.heap.size) A l) (hs : l.length ≤ 9223372036854775807) :
    Calls Tryz.prog 71 #[.slice A l.length c] w (RetSlN encWr (foldL l) (errOf placedN l) w) := by
  have H1 : Hid (∀ w', Below w.heap.size w w' → SlAt encWr w' (Bl w'.heap.size) A l) := fun w' hb => h1.belowUp hb hb.size
  have H2 : Hid (∀ w', Below w.heap.size w w' → SlAt encWr w' (Bl w.heap.size) A l) := fun w' hb => h1.below hb
  clear h1
  go_enter Tryz.func71, Tryz.ntmps71
  go_wp2
  go_loopw [9] (fun i wr => ∃ k : Nat, k ≤ l.length ∧ i = .int .i64 k ∧ Below w.heap.size w wr ∧ Hid (∀ x ∈ l.take k, placedN x = 0)) (fun i _ => l.length - (intOf i).toNat)
  case atStart => exact ⟨0, by omega, rfl, Below.refl _ _, by simp [Hid]⟩
  case round =>
    obtain ⟨k, hk, rfl, hB, hz⟩ := hrel
    by_cases hlt : k < l.length
    · obtain ⟨b, off, D, dc, rfl, hb, g0, g1, g2, hD, hn1, hn2, hi1, hi2⟩ := (H2.out wr hB).wr hlt
      have hbl : b < w.heap.size := hb
      have hnn : (0 : Int) ≤ k := by omega
      have hki : (k : Int) < l.length := by omega
      unfold maxLen at hn2
      have hn3 : l[k].2.2.length ≤ 9223372036854775807 := by omega
      have hsz := hB.size
      obtain ⟨pn, hpn⟩ : ∃ pn, Hid (placedN l[k] = pn) := ⟨placedN l[k], Lib.hid rfl⟩
      by_cases hp0 : pn = 0
      · have hp1 : (pn != 0) = false := by simp [hp0]
        have HP := Lib.hid hp0; clear hp0
        go_wp2_with fail
        refine (placed8 _ _ _ _ _ _ hn3 l[k].2.2 rfl pn hpn.out).mono ?_
        rintro e w1 ⟨rfl, hb1⟩
        have hB1 : Below w.heap.size w w1 := (hB.alloc hsz _).trans (hb1.mono (by simp; omega))
        have HB1 := Lib.hid hB1; clear hB1
        clear g0 g1 g2
        go_wp2
        go_roundw
        case rel =>
          refine ⟨k + 1, hlt, by go_num, HB1.out, ?_⟩
          intro x hx
          rw [List.take_succ_eq_append_getElem hlt] at hx
          rcases List.mem_append.1 hx with hx | hx
          · exact hz.out x hx
          · rw [List.mem_singleton.1 hx, hpn.out, HP.out]
        case measure => simp [intOf]; omega
      · have hp1 : (pn != 0) = true := by simp [hp0]
        have HP := Lib.hid hp0; clear hp0
        go_wp2_with fail
        refine (placed8 _ _ _ _ _ _ hn3 l[k].2.2 rfl pn hpn.out).mono ?_
        rintro e w1 ⟨rfl, hb1⟩
        have hB1 : Below w.heap.size w w1 := (hB.alloc hsz _).trans (hb1.mono (by simp; omega))
        have HB1 := Lib.hid hB1; clear hB1
        clear g0 g1 g2
        go_wp2
        go_ret2
        have herr : errOf placedN l = pn := by
          rw [← hpn.out]
          exact errOf_at hlt hz.out (by rw [hpn.out]; exact HP.out)
        have hf : foldL l = [] := by rw [foldL, herr, if_neg HP.out]
        rw [hf, herr]
        exact ⟨none, 0, rfl, by simp, by simp, SlAt.nil_, HB1.out⟩
    · have hkk : k = l.length := by omega
      subst hkk
      have hall : ∀ x ∈ l, placedN x = 0 := by have := hz.out; rw [List.take_length] at this; exact this
      have herr : errOf placedN l = 0 := errOf_zero hall
      have hf : foldL l = foldS l := by rw [foldL, herr, if_pos rfl]
      have HF := Lib.hid hf
      have HE0 := Lib.hid herr
      have HALL := Lib.hid hall
      clear hz herr hf hall
      go_wp2_with fail
      refine (effect_any A c l wr (H1.out wr hB) hs HALL.out).mono ?_
      rintro e w1 ⟨b, rfl, hM, hbb, hb1⟩
      have hsz := hB.size
      have hsz1 := hb1.size
      have hkeys := hM.keys
      have hokM := eff_ok l HALL.out
      have HK := Lib.hid hkeys
      have hcan := Lib.hid (canonical_any b (effM l) w1 hM (Nat.le_trans (keys_len _ hkeys hokM) (by omega)) hokM)
      clear hkeys hokM hM
      go_wp2_with fail
      refine hcan.out.mono ?_
      rintro e w2 ⟨A2, c2, rfl, r1, r2, r3, hb2⟩
      have HR := Lib.hid (And.intro r1 (And.intro r2 r3))
      clear r1 r2 r3
      go_wp2
      go_ret2
      obtain ⟨r1, r2, r3⟩ := HR.out
      rw [HE0.out, HF.out, foldS]
      rw [sortedM_assoc l HK.out HALL.out] at r1 r3 ⊢
      exact ⟨A2, c2, rfl, r1, r2, r3.more (fun g h => h.mono (by omega) (Nat.le_refl _)), hB.trans ((hb1.mono hsz).trans (hb2.mono (by omega)))⟩
end Go.Proofs.YtnkmklnlaepdeaaGreat

/-
  The plain law of Restrict: the canonical list of the selected effects is the reference's pick.
  Plain words: the extents of a list of writes. No program in sight.
  The walk of the reference's Same at extents.
  The walks of the reference's Marks and Intersect; what they give, in the sweep's words.
  The walk of the reference's Restrict.
-/
import Derived.Test.YtnkmklnlaepdeaaSq
import Derived.Test.YtnkmklnlaepdeaaUs
import Derived.Test.YtnkmklnlaepdeaaMap
import Derived.Test.YtnkmklnlaepdeaaPg
import Derived.Test.YtnkmklnlaepdeaaTa
set_option linter.unusedVariables false
set_option linter.unusedSimpArgs false
set_option linter.unusedSectionVars false
set_option linter.unnecessarySimpa false
namespace Go.Proofs.Ytnkmklnlaepdeaa

theorem secsOf_below (l : List Wr) (v : Int) : secsOf l v = below (fun s => (look l v s).isSome) 4096 := rfl
/-- the sectors of a volume on which a list has an effect and that a set contains -/
def selS (l : List Wr) (v : Int) (keep : List Ext) : List Int := below (fun x => (look l v x).isSome && keep.any (inExt x)) 4096
theorem selS_ref (l : List Wr) (v : Int) (keep : List Ext) : below (fun x => (runsL (secsOf l v)).any (inExt x) && keep.any (inExt x)) 4096 = selS l v keep := by
  unfold selS
  have key : ∀ q, q ≤ 4096 → below (fun x => (runsL (secsOf l v)).any (inExt x) && keep.any (inExt x)) q = below (fun x => (look l v x).isSome && keep.any (inExt x)) q := by
    intro q hq
    unfold below
    refine congrArg _ (List.filter_congr fun x hx => ?_)
    have hx' := List.mem_range.1 hx
    have h := runs_any (fun s => (look l v s).isSome) 4096 (Nat.le_refl _) x
    rw [← secsOf_below] at h
    show ((runsL (secsOf l v)).any (inExt x) && keep.any (inExt x)) = ((look l v x).isSome && keep.any (inExt x))
    rw [h, decide_eq_true (by omega), Bool.true_and]
  exact key 4096 (Nat.le_refl _)
theorem selS_iff (l : List Wr) (v : Int) (keep : List Ext) (s : Int) : s ∈ selS l v keep ↔ 0 ≤ s ∧ s < 4096 ∧ (look l v s).isSome = true ∧ keep.any (inExt s) = true := by
  unfold selS below
  rw [List.mem_map]
  constructor
  · rintro ⟨i, hi, rfl⟩
    obtain ⟨h1, h2⟩ := List.mem_filter.1 hi
    have := List.mem_range.1 h1
    have h2' : ((look l v (i : Int)).isSome && keep.any (inExt (i : Int))) = true := h2
    rw [Bool.and_eq_true] at h2'
    exact ⟨Int.natCast_nonneg i, Int.ofNat_lt.2 this, h2'.1, h2'.2⟩
  · rintro ⟨h1, h2, h3, h4⟩
    have e : ((s.toNat : Nat) : Int) = s := by omega
    refine ⟨s.toNat, List.mem_filter.2 ⟨List.mem_range.2 (by omega), ?_⟩, by show ((s.toNat : Nat) : Int) = s; omega⟩
    show ((look l v ((s.toNat : Nat) : Int)).isSome && keep.any (inExt ((s.toNat : Nat) : Int))) = true
    rw [e, h3, h4]; rfl
theorem below_sorted (P : Int → Bool) (q : Nat) : (below P q).Pairwise (· < ·) := by
  unfold below
  rw [List.pairwise_map]
  exact (List.Pairwise.filter _ List.pairwise_lt_range).imp (fun h => by show (_ : Int) < _; exact Int.ofNat_lt.2 h)
/-- THE PLAIN LAW OF RESTRICT -/
theorem restrict_plain (l : List Wr) (v : Int) (keep : List Ext) (hn : ((effM l).map (·.1)).Nodup) (hl : ∀ x ∈ l, placedN x = 0) : canonL (sortedM (resM (effM l) v keep)) = pickS l v (runsL (selS l v keep)) := by
  have hopt : ∀ p, (optM (resM (effM l) v keep) p).isSome = true ↔ p ∈ (selS l v keep).map fun s => (v, s) := by
    intro p
    rw [optM_res hn, optM_eff, List.mem_map]
    constructor
    · intro h
      split at h
      · rename_i hs
        unfold selB at hs
        rw [Bool.and_eq_true] at hs
        have hv : p.1 = v := by simpa using hs.1
        have hr := look_range hl h
        exact ⟨p.2, (selS_iff l v keep p.2).2 ⟨hr.2.2.1, hr.2.2.2, by rw [← hv]; exact h, hs.2⟩, by rw [← hv]⟩
      · cases h
    · rintro ⟨s, hs, rfl⟩
      obtain ⟨_, _, h3, h4⟩ := (selS_iff l v keep s).1 hs
      have : selB v keep (v, s) = true := by unfold selB; simp [h4]
      rw [if_pos this]
      exact h3
  have ht : ∀ x y z : Pl, (!(Go.Proofs.ltOf befI) y x) = true → (!(Go.Proofs.ltOf befI) z y) = true → (!(Go.Proofs.ltOf befI) z x) = true := by
    intro x y z h1 h2
    rw [befI_lt] at *; simp at *; omega
  have hc : ∀ x y : Pl, ((!(Go.Proofs.ltOf befI) y x) || (!(Go.Proofs.ltOf befI) x y)) = true := by
    intro x y
    rw [befI_lt, befI_lt]; simp; omega
  have hsrt : ((selS l v keep).map fun s => ((v, s) : Pl)).Pairwise plLt := by
    rw [List.pairwise_map]
    exact (below_sorted _ 4096).imp (fun h => Or.inr ⟨rfl, h⟩)
  have hsort : sortP ((resM (effM l) v keep).map (·.1)) = (selS l v keep).map fun s => (v, s) := by
    refine List.Perm.eq_of_pairwise (le := fun x y => (!(Go.Proofs.ltOf befI) y x) = true) ?_ (List.pairwise_mergeSort ht hc _) ?_ ?_
    · intro x y _ _ h1 h2
      exact totPl x y (by simpa using h2) (by simpa using h1)
    · refine hsrt.imp (fun {x y} h => ?_)
      rw [befI_lt]
      unfold plLt at h
      simp; omega
    · refine (List.mergeSort_perm _ _).trans ((List.perm_ext_iff_of_nodup (resM_nodup hn v keep) ?_).2 (fun p => ?_))
      · rw [List.nodup_iff_pairwise_ne]
        refine hsrt.imp (fun {x y} h e => ?_)
        subst e
        unfold plLt at h
        omega
      · rw [← optM_mem, hopt]
  rw [sortedM, hsort, List.map_map]
  have h := (canon_pick v (fun s => (look l v s).getD zsec) (selS l v keep)).1
  unfold pickS
  rw [← h]
  refine congrArg _ (List.map_congr_left fun s hs => ?_)
  obtain ⟨_, _, _, h4⟩ := (selS_iff l v keep s).1 hs
  have hb : selB v keep (v, s) = true := by unfold selB; simp [h4]
  simp only [Function.comp]
  rw [getM_opt, optM_res hn, if_pos hb, optM_eff]
end Go.Proofs.Ytnkmklnlaepdeaa

namespace Go.Proofs.Ytnkmklnlaepdeaa

/-- the extents of the writes to a volume -/
def extL (l : List Wr) (v : Int) : List Ext := (l.filter fun x => x.1 == v).map fun x => (x.2.1, (x.2.2.length : Int))
theorem extL_snoc (l : List Wr) (x : Wr) (v : Int) : extL (l ++ [x]) v = extL l v ++ (if x.1 = v then [(x.2.1, (x.2.2.length : Int))] else []) := by
  unfold extL
  rw [List.filter_append, List.map_append]
  congr 1
  by_cases h : x.1 = v <;> simp [h]
theorem extL_len (l : List Wr) (v : Int) : (extL l v).length ≤ l.length := by
  unfold extL
  rw [List.length_map]
  exact List.length_filter_le _ _
theorem ext_any (l : List Wr) (v y : Int) (h0 : 0 ≤ y) (h1 : y < 4096) : (extL l v).any (inExt y) = (look l v y).isSome := by
  induction l using snocRec with
  | h0 => rfl
  | h1 l x ih =>
    rw [extL_snoc, List.any_append, ih, look_snoc]
    by_cases hh : hits x v y
    · rw [if_pos hh, if_pos hh.1]
      have : inExt y (x.2.1, (x.2.2.length : Int)) = true := by
        unfold inExt
        rw [decide_eq_true_eq]
        exact ⟨h0, h1, hh.2.1, hh.2.2⟩
      simp [this]
    · rw [if_neg hh]
      by_cases hv : x.1 = v
      · rw [if_pos hv]
        have : inExt y (x.2.1, (x.2.2.length : Int)) = false := by
          unfold inExt
          rw [decide_eq_false_iff_not]
          rintro ⟨_, _, a, b⟩
          exact hh ⟨hv, a, b⟩
        simp [this]
      · rw [if_neg hv]; simp
theorem extents_law (l : List Wr) (v : Int) : opL (· || ·) (extL l v) [] = runsL (secsOf l v) := by
  unfold opL
  rw [secsOf_below]
  refine congrArg _ (below_congr _ _ 4096 fun x hx => ?_)
  rw [ext_any l v x (by omega) (by omega)]
  simp
end Go.Proofs.Ytnkmklnlaepdeaa

namespace Go.Proofs.Ytnkmklnlaepdeaa
open Go.RowKit

end Go.Proofs.Ytnkmklnlaepdeaa

namespace Go.Proofs.Ytnkmklnlaepdeaa
open Go.RowKit

def marksE (l : List Ext) : List Bool := l.foldl addM noMarks
theorem marksE_snoc (l : List Ext) (e : Ext) : marksE (l ++ [e]) = addM (marksE l) e := by simp [marksE]
theorem marksE_len (l : List Ext) : (marksE l).length = 4096 := by
  induction l using snocRec with
  | h0 => exact noMarks_len
  | h1 l x ih => rw [marksE_snoc, addM_len, ih]
theorem marksE_at (l : List Ext) (i : Nat) (hi : i < 4096) : (marksE l).getD i false = l.any (inExt i) := by
  induction l using snocRec with
  | h0 =>
    have : (marksE []).getD i false = false := by
      exact rep_getD 4096 i
    rw [this]; rfl
  | h1 l e ih =>
    have hlen := marksE_len l
    have h1 : (addM (marksE l) e).getD i false = ((marksE l).getD i false || decide (e.1 ≤ i ∧ (i : Int) < e.1 + e.2)) := by
      simp [addM, hlen, hi]
    rw [marksE_snoc, h1, ih, List.any_append, List.any_cons, List.any_nil, Bool.or_false]
    refine congrArg (fun z => (l.any (inExt i) || z)) ?_
    unfold inExt
    rw [decide_eq_decide]
    omega
def RetRow (m : List Bool) (n : Nat) (w : World) (e : Ending) (w' : World) : Prop := ∃ b c, e = .returned (.slice (some ⟨b, 0, none⟩) n c) ∧ w.heap.size ≤ b ∧ BRow w' b m ∧ Below w.heap.size w w'
/-- the marks of one set turned by those of another, up to a place -/
def opTo (op : Bool → Bool → Bool) (m n : List Bool) (k : Nat) : List Bool := m.mapIdx fun i x => if i < k then op x (n.getD i false) else x
theorem opTo_len (op : Bool → Bool → Bool) (m n : List Bool) (k : Nat) : (opTo op m n k).length = m.length := by simp [opTo]
theorem opTo_zero (op : Bool → Bool → Bool) (m n : List Bool) : opTo op m n 0 = m := by
  refine List.ext_getElem (by simp [opTo]) fun i h1 h2 => ?_
  simp [opTo]
theorem opTo_at (op : Bool → Bool → Bool) (m n : List Bool) (k : Nat) (hk : k < m.length) : (opTo op m n k)[k]'(by rw [opTo_len]; exact hk) = m[k] := by simp [opTo]
theorem opTo_succ (op : Bool → Bool → Bool) (m n : List Bool) (k : Nat) (hk : k < m.length) : (opTo op m n k).set k (op m[k] (n.getD k false)) = opTo op m n (k + 1) := by
  refine List.ext_getElem (by simp [opTo]) fun i h1 h2 => ?_
  rw [List.getElem_set]
  by_cases e : k = i
  · subst e; simp [opTo]
  · rw [if_neg e]
    simp only [opTo, List.getElem_mapIdx]
    by_cases h : i < k
    · rw [if_pos h, if_pos (by omega)]
    · rw [if_neg h, if_neg (by omega)]
theorem idxs_opTo (op : Bool → Bool → Bool) (a b : List Ext) : idxs (opTo op (marksE a) (marksE b) 4096) = below (fun x => op (a.any (inExt x)) (b.any (inExt x))) 4096 := by
  have hl : (opTo op (marksE a) (marksE b) 4096).length = 4096 := by rw [opTo_len, marksE_len]
  unfold idxs below
  rw [hl]
  refine congrArg _ (List.filter_congr fun i hi => ?_)
  have hi' := List.mem_range.1 hi
  have hla := marksE_len a
  show _ = op (a.any (inExt i)) (b.any (inExt i))
  rw [← marksE_at a i hi', ← marksE_at b i hi']
  have e : (opTo op (marksE a) (marksE b) 4096).getD i false = op ((marksE a).getD i false) ((marksE b).getD i false) := by
    rw [List.getD_eq_getElem?_getD, List.getElem?_eq_getElem (by rw [hl]; exact hi')]
    rw [List.getD_eq_getElem?_getD (l := marksE a), List.getElem?_eq_getElem (by rw [hla]; exact hi')]
    simp only [Option.getD_some, opTo, List.getElem_mapIdx]
    rw [if_pos hi']
  exact e
end Go.Proofs.Ytnkmklnlaepdeaa

namespace Go.Proofs.Ytnkmklnlaepdeaa
open Go.RowKit

theorem keys_putE (M : Eff) (p : Pl) (s : Sec) : (putE M p s).map (·.1) = if p ∈ M.map (·.1) then M.map (·.1) else M.map (·.1) ++ [p] := by
  induction M with
  | nil => rfl
  | cons x M ih =>
    unfold putE
    by_cases hx : x.1 = p
    · rw [if_pos hx, if_pos (by simp [hx])]
      simp [hx]
    · rw [if_neg hx, List.map_cons, ih]
      have hx' : ¬ p = x.1 := fun e => hx e.symm
      by_cases h : p ∈ M.map (·.1)
      · rw [if_pos h, if_pos (by rw [List.map_cons]; exact List.mem_cons_of_mem _ h)]; rfl
      · rw [if_neg h, if_neg (by rw [List.map_cons, List.mem_cons]; exact fun hh => hh.elim hx' h)]; rfl
theorem nodup_putE {M : Eff} (h : (M.map (·.1)).Nodup) (p : Pl) (s : Sec) : ((putE M p s).map (·.1)).Nodup := by
  rw [keys_putE]
  split
  · exact h
  · rename_i hp
    rw [List.nodup_append]
    refine ⟨h, by simp, fun a ha b hb e => ?_⟩
    rw [List.mem_singleton] at hb
    subst hb e
    exact hp ha
theorem nodup_effW {M : Eff} (h : (M.map (·.1)).Nodup) (x : Wr) (j : Nat) : ((effW M x j).map (·.1)).Nodup := by
  induction j with
  | zero => exact h
  | succ j ih => rw [effW_succ]; exact nodup_putE ih _ _
theorem nodup_eff (l : List Wr) : ((effM l).map (·.1)).Nodup := by
  induction l using snocRec with
  | h0 => exact List.nodup_nil
  | h1 l x ih => rw [effM_snoc]; exact nodup_effW ih x _
end Go.Proofs.Ytnkmklnlaepdeaa

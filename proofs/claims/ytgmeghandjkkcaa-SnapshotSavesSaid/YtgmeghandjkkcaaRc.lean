/-
  The walk of the reference's Same at extents.
  The walks of the reference's Marks and Intersect; what they give, in the sweep's words.
  The walk of the reference's Restrict.
-/
import Derived.Test.YtgmeghandjkkcaaMap
import Derived.Test.YtgmeghandjkkcaaPg
import Derived.Test.YtgmeghandjkkcaaUs
import Derived.Test.YtgmeghandjkkcaaRe
import Derived.Test.YtgmeghandjkkcaaTa
set_option linter.unusedVariables false
set_option linter.unusedSimpArgs false
set_option linter.unusedSectionVars false
set_option linter.unnecessarySimpa false
namespace Go.Proofs.Ytgmeghandjkkcaa
open Go.RowKit

end Go.Proofs.Ytgmeghandjkkcaa

namespace Go.Proofs.Ytgmeghandjkkcaa
open Go.RowKit

def marksE (l : List Ext) : List Bool := l.foldl addM noMarks
theorem marksE_snoc (l : List Ext) (e : Ext) : marksE (l ++ [e]) = addM (marksE l) e := by simp [marksE]
theorem marksE_len (l : List Ext) : (marksE l).length = 4096 := by
  induction l using snocRec with
  | h0 => exact noMarks_len
  | h1 l x ih => rw [marksE_snoc, addM_len, ih]
theorem marksE_at (l : List Ext) (i : Nat) (hi : i < 4096) : (marksE l).getD i false = l.any (inExt i) := by
  induction l using snocRec with
  | h0 =>
    have : (marksE []).getD i false = false := by
      exact rep_getD 4096 i
    rw [this]; rfl
  | h1 l e ih =>
    have hlen := marksE_len l
    have h1 : (addM (marksE l) e).getD i false = ((marksE l).getD i false || decide (e.1 ≤ i ∧ (i : Int) < e.1 + e.2)) := by
      simp [addM, hlen, hi]
    rw [marksE_snoc, h1, ih, List.any_append, List.any_cons, List.any_nil, Bool.or_false]
    refine congrArg (fun z => (l.any (inExt i) || z)) ?_
    unfold inExt
    rw [decide_eq_decide]
    omega
def RetRow (m : List Bool) (n : Nat) (w : World) (e : Ending) (w' : World) : Prop := ∃ b c, e = .returned (.slice (some ⟨b, 0, none⟩) n c) ∧ w.heap.size ≤ b ∧ BRow w' b m ∧ Below w.heap.size w w'
/-- the marks of one set turned by those of another, up to a place -/
def opTo (op : Bool → Bool → Bool) (m n : List Bool) (k : Nat) : List Bool := m.mapIdx fun i x => if i < k then op x (n.getD i false) else x
theorem opTo_len (op : Bool → Bool → Bool) (m n : List Bool) (k : Nat) : (opTo op m n k).length = m.length := by simp [opTo]
theorem opTo_zero (op : Bool → Bool → Bool) (m n : List Bool) : opTo op m n 0 = m := by
  refine List.ext_getElem (by simp [opTo]) fun i h1 h2 => ?_
  simp [opTo]
theorem opTo_at (op : Bool → Bool → Bool) (m n : List Bool) (k : Nat) (hk : k < m.length) : (opTo op m n k)[k]'(by rw [opTo_len]; exact hk) = m[k] := by simp [opTo]
theorem opTo_succ (op : Bool → Bool → Bool) (m n : List Bool) (k : Nat) (hk : k < m.length) : (opTo op m n k).set k (op m[k] (n.getD k false)) = opTo op m n (k + 1) := by
  refine List.ext_getElem (by simp [opTo]) fun i h1 h2 => ?_
  rw [List.getElem_set]
  by_cases e : k = i
  · subst e; simp [opTo]
  · rw [if_neg e]
    simp only [opTo, List.getElem_mapIdx]
    by_cases h : i < k
    · rw [if_pos h, if_pos (by omega)]
    · rw [if_neg h, if_neg (by omega)]
theorem idxs_opTo (op : Bool → Bool → Bool) (a b : List Ext) : idxs (opTo op (marksE a) (marksE b) 4096) = below (fun x => op (a.any (inExt x)) (b.any (inExt x))) 4096 := by
  have hl : (opTo op (marksE a) (marksE b) 4096).length = 4096 := by rw [opTo_len, marksE_len]
  unfold idxs below
  rw [hl]
  refine congrArg _ (List.filter_congr fun i hi => ?_)
  have hi' := List.mem_range.1 hi
  have hla := marksE_len a
  show _ = op (a.any (inExt i)) (b.any (inExt i))
  rw [← marksE_at a i hi', ← marksE_at b i hi']
  have e : (opTo op (marksE a) (marksE b) 4096).getD i false = op ((marksE a).getD i false) ((marksE b).getD i false) := by
    rw [List.getD_eq_getElem?_getD, List.getElem?_eq_getElem (by rw [hl]; exact hi')]
    rw [List.getD_eq_getElem?_getD (l := marksE a), List.getElem?_eq_getElem (by rw [hla]; exact hi')]
    simp only [Option.getD_some, opTo, List.getElem_mapIdx]
    rw [if_pos hi']
  exact e
end Go.Proofs.Ytgmeghandjkkcaa

namespace Go.Proofs.Ytgmeghandjkkcaa
open Go.RowKit

theorem keys_putE (M : Eff) (p : Pl) (s : Sec) : (putE M p s).map (·.1) = if p ∈ M.map (·.1) then M.map (·.1) else M.map (·.1) ++ [p] := by
  induction M with
  | nil => rfl
  | cons x M ih =>
    unfold putE
    by_cases hx : x.1 = p
    · rw [if_pos hx, if_pos (by simp [hx])]
      simp [hx]
    · rw [if_neg hx, List.map_cons, ih]
      have hx' : ¬ p = x.1 := fun e => hx e.symm
      by_cases h : p ∈ M.map (·.1)
      · rw [if_pos h, if_pos (by rw [List.map_cons]; exact List.mem_cons_of_mem _ h)]; rfl
      · rw [if_neg h, if_neg (by rw [List.map_cons, List.mem_cons]; exact fun hh => hh.elim hx' h)]; rfl
theorem nodup_putE {M : Eff} (h : (M.map (·.1)).Nodup) (p : Pl) (s : Sec) : ((putE M p s).map (·.1)).Nodup := by
  rw [keys_putE]
  split
  · exact h
  · rename_i hp
    rw [List.nodup_append]
    refine ⟨h, by simp, fun a ha b hb e => ?_⟩
    rw [List.mem_singleton] at hb
    subst hb e
    exact hp ha
theorem nodup_effW {M : Eff} (h : (M.map (·.1)).Nodup) (x : Wr) (j : Nat) : ((effW M x j).map (·.1)).Nodup := by
  induction j with
  | zero => exact h
  | succ j ih => rw [effW_succ]; exact nodup_putE ih _ _
theorem nodup_eff (l : List Wr) : ((effM l).map (·.1)).Nodup := by
  induction l using snocRec with
  | h0 => exact List.nodup_nil
  | h1 l x ih => rw [effM_snoc]; exact nodup_effW ih x _
end Go.Proofs.Ytgmeghandjkkcaa

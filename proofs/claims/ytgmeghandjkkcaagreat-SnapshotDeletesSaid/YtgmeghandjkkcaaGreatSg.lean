/-
  The walk of Restrict (the program).
-/
import Derived.Test.YtgmeghandjkkcaaGreatSc
set_option linter.unusedVariables false
set_option linter.unusedSimpArgs false
set_option linter.unusedSectionVars false
set_option linter.unnecessarySimpa false
namespace Go.Proofs.YtgmeghandjkkcaaGreat
open Go.RowKit Go.ChangeMaps

def selB (v : Int) (keep : List Ext) (p : Pl) : Bool := p.1 == v && keep.any (inExt p.2)
def resM (M : Eff) (v : Int) (keep : List Ext) : Eff := M.filter fun x => selB v keep x.1
def restrictL (l : List Wr) (v : Int) (keep : List Ext) : List Wr := if chkN placedN l = 0 then canonL (sortedM (resM (effM l) v keep)) else []
theorem optM_of_mem {M : Eff} (hn : (M.map (·.1)).Nodup) {x : Pl × Sec} (hx : x ∈ M) : optM M x.1 = some x.2 := by
  have h := getM_mem hn (List.mem_map.2 ⟨x, hx, rfl⟩)
  have hs : (optM M x.1).isSome := (optM_mem M x.1).2 (List.mem_map.2 ⟨x, hx, rfl⟩)
  obtain ⟨s, hs⟩ := Option.isSome_iff_exists.1 hs
  unfold optM at hs ⊢
  cases hf : M.find? (fun y => y.1 == x.1) with
  | none => rw [hf] at hs; simp at hs
  | some y =>
    have hy1 := List.mem_of_find?_eq_some hf
    have hy2 : y.1 = x.1 := by simpa using List.find?_some hf
    have : y = x := by
      rw [List.nodup_iff_pairwise_ne, List.pairwise_map] at hn
      rcases Decidable.em (y = x) with e | e
      · exact e
      · exfalso
        obtain ⟨i, hi, hyi⟩ := List.mem_iff_getElem.1 hy1
        obtain ⟨j, hj, hxj⟩ := List.mem_iff_getElem.1 hx
        rcases Nat.lt_trichotomy i j with h1 | h1 | h1
        · exact List.pairwise_iff_getElem.1 hn i j hi hj h1 (by rw [hyi, hxj]; exact hy2)
        · subst h1; exact e (hyi.symm.trans hxj)
        · exact List.pairwise_iff_getElem.1 hn j i hj hi h1 (by rw [hyi, hxj]; exact hy2.symm)
    rw [this]; rfl
theorem resM_nodup {M : Eff} (hn : (M.map (·.1)).Nodup) (v : Int) (keep : List Ext) : ((resM M v keep).map (·.1)).Nodup := (List.filter_sublist.map _).nodup hn
theorem optM_res {M : Eff} (hn : (M.map (·.1)).Nodup) (v : Int) (keep : List Ext) (p : Pl) : optM (resM M v keep) p = if selB v keep p = true then optM M p else none := by
  by_cases h : (optM (resM M v keep) p).isSome
  · obtain ⟨x, hx, rfl⟩ := List.mem_map.1 ((optM_mem _ _).1 h)
    have hx2 := List.mem_filter.1 hx
    rw [optM_of_mem (resM_nodup hn v keep) hx, if_pos hx2.2, optM_of_mem hn hx2.1]
  · have h0 : optM (resM M v keep) p = none := by simpa using h
    rw [h0]
    split
    · rename_i hs
      rcases hm : optM M p with _ | s
      · rfl
      · exfalso
        obtain ⟨x, hx, rfl⟩ := List.mem_map.1 ((optM_mem M p).1 (by rw [hm]; rfl))
        exact h ((optM_mem _ _).2 (List.mem_map.2 ⟨x, List.mem_filter.2 ⟨hx, hs⟩, rfl⟩))
    · rfl
theorem sortedM_ext {M N : Eff} (hm : (M.map (·.1)).Nodup) (hn : (N.map (·.1)).Nodup) (h : ∀ p, optM M p = optM N p) : sortedM M = sortedM N := by
  have hp : (M.map (·.1)).Perm (N.map (·.1)) := (List.perm_ext_iff_of_nodup hm hn).2 (fun p => by rw [← optM_mem, ← optM_mem, h])
  rw [sortedM, sortedM, sortP_perm hp]
  exact List.map_congr_left fun p _ => by rw [getM_opt, getM_opt, h]
theorem entries_ok {w : World} {b : Nat} {M : Eff} (h : PMap w b M) : ∀ x ∈ M, OkSec x.2 := by
  obtain ⟨_, _, _, _, _, hok⟩ := h
  exact hok

theorem optStep {M todo todo' M2 done : Eff} {x : Pl × Sec} {v : Int} {keep : List Ext} (hn : (M.map (·.1)).Nodup) (hperm : M.Perm (done ++ todo)) (hpm : todo.Perm (x :: todo')) (hopt : ∀ p, optM M2 p = if p ∈ todo.map (·.1) then none else optM (resM M v keep) p) :
    x ∈ M ∧ (∃ done', M.Perm (done' ++ todo')) ∧ (selB v keep x.1 = false → ∀ p, optM M2 p = if p ∈ todo'.map (·.1) then none else optM (resM M v keep) p) ∧
      (selB v keep x.1 = true → ∀ p, optM (putE M2 x.1 x.2) p = if p ∈ todo'.map (·.1) then none else optM (resM M v keep) p) := by
  have hp2 : M.Perm (done ++ (x :: todo')) := hperm.trans (List.Perm.append_left done hpm)
  have hx : x ∈ M := hp2.mem_iff.2 (by simp)
  have hnd : ((done ++ (x :: todo')).map (·.1)).Nodup := (hp2.map (·.1)).nodup_iff.1 hn
  have hxt : x.1 ∉ todo'.map (·.1) := by
    rw [List.map_append, List.nodup_append] at hnd
    exact (List.nodup_cons.1 hnd.2.1).1
  have hmem : ∀ p, p ∈ todo.map (·.1) ↔ p = x.1 ∨ p ∈ todo'.map (·.1) := fun p => by
    rw [(hpm.map (·.1)).mem_iff]; simp
  have hr : optM (resM M v keep) x.1 = if selB v keep x.1 = true then some x.2 else none := by rw [optM_res hn, optM_of_mem hn hx]
  refine ⟨hx, ⟨done ++ [x], by simpa using hp2⟩, fun hs p => ?_, fun hs p => ?_⟩
  · rw [hopt p]
    by_cases h1 : p = x.1
    · subst h1
      rw [if_pos ((hmem _).2 (Or.inl rfl)), if_neg hxt, hr, hs]; simp
    · by_cases h2 : p ∈ todo'.map (·.1)
      · rw [if_pos ((hmem _).2 (Or.inr h2)), if_pos h2]
      · rw [if_neg (fun h => by rcases (hmem p).1 h with h | h; exact h1 h; exact h2 h), if_neg h2]
  · rw [optM_put]
    by_cases h1 : p = x.1
    · subst h1
      rw [if_pos rfl, if_neg hxt, hr, hs]; simp
    · rw [if_neg h1, hopt p]
      by_cases h2 : p ∈ todo'.map (·.1)
      · rw [if_pos ((hmem _).2 (Or.inr h2)), if_pos h2]
      · rw [if_neg (fun h => by rcases (hmem p).1 h with h | h; exact h1 h; exact h2 h), if_neg h2]
end Go.Proofs.YtgmeghandjkkcaaGreat

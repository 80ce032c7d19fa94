/-
  The walks of Clone, Equal at sectors, of EqualFunc and Same at images, copied, and of the reference's Few and Same.
-/
import Derived.Test.YtnkmklnlaepdeaaGreatIa1
import Derived.Test.YtnkmklnlaepdeaaGreatEs
set_option linter.unusedVariables false
set_option linter.unusedSimpArgs false
set_option linter.unusedSectionVars false
set_option linter.unnecessarySimpa false
namespace Go.Proofs.YtnkmklnlaepdeaaGreat
open Go.RowKit

theorem cloneSecs_any (A : Option Addr) (c n : Nat) (l : List _) (w : World) (hn : l.length = n) (h1 : SlAt encSec w (Bl w.heap.size) A l) (hl : n ≤ 1000000) :
    Calls Tryz.prog 45 #[.slice A n c] w fun e w' => ∃ A' c', e = .returned (.slice A' n c') ∧ n ≤ c' ∧ c' ≤ maxLen ∧ SlAt encSec w' (Nw w.heap.size w'.heap.size) A' l ∧ Below w.heap.size w w' := by
  cases A with
  | none =>
    have h0 : l = [] := by
      rcases Decidable.em (l.length = 0) with h | h
      · exact List.eq_nil_of_length_eq_zero h
      · obtain ⟨b, off, he, _⟩ := h1 (by intro e; rw [e] at h; exact h rfl)
        cases he
    subst h0
    subst hn
    have hE := fun W => Lib.run_eql_slice_nil (P := Tryz.prog) W 55 54 none 0 c 0 0 Tryz.underlying55
    go_enter Tryz.func45, Tryz.ntmps45
    go_wp2
    go_ret
    exact ⟨none, 0, rfl, by simp, by simp, SlAt.nil_, Below.refl _ _⟩
  | some ad =>
    have hO := Lib.hid (show Own encSec (w.alloc (.cells #[] 54)) w.heap.size 54 (Bl w.heap.size) (.slice (some ⟨w.heap.size, 0, none⟩) 0 0) [] from Own.make0 (cur := #[]) (Nat.le_refl _) (by unfold maxLen; omega) rfl (fun h => Nat.lt_irrefl _ h))
    have hsrc := Lib.hid (show SlAt encSec (w.alloc (.cells #[] 54)) (Bl w.heap.size) (some ad) l from h1.below (ext_alloc (Below.refl _ _)))
    clear h1
    have hE := fun W => Lib.run_eql_slice_nil (P := Tryz.prog) W 55 54 (some ad) n c 0 0 Tryz.underlying55
    go_enter Tryz.func45, Tryz.ntmps45
    go_wp2_with (at_builtin; refine Hid.out ?_)
    change wpList _ _ _ _ _ _
    refine wpList_appAll (E := encSec) tySecs rfl _ _ rfl rfl hO.out rfl hn.symm hsrc.out (fun g hg => by simp; have : g < w.heap.size := hg; omega) (by simp) (by unfold maxLen; simp; omega) (by simp; omega) ?_
    intro A5 c5 w5 hown5 hg5 hat5
    simp only [List.length_nil, Nat.zero_add, List.nil_append] at hown5
    have hB5 : Below w.heap.size w w5 := (ext_alloc (o := .cells #[] 54) (Below.refl w.heap.size w)).grown hg5 (by simp) (fun g hg => (hO.out.lt g hg).1)
    have hfin : Hid (n ≤ c5 ∧ c5 ≤ maxLen ∧ SlAt encSec w5 (Nw w.heap.size w5.heap.size) A5 l) := by
      obtain ⟨A', c', he, k1, k2, k3⟩ := (Own.flat hown5 (fun h => h)).rd (fun _ h => h.elim)
      simp only [List.cons.injEq, Value.slice.injEq, and_true] at he
      obtain ⟨rfl, e2, rfl⟩ := he
      exact ⟨by omega, k2, k3⟩
    clear hown5 hg5 hat5
    go_wp2
    go_ret
    exact ⟨A5, c5, rfl, hfin.out.1, hfin.out.2.1, hfin.out.2.2, hB5⟩
def fewI (im : List (List Sec)) : Bool := im.length ≤ 9 && (im.all fun v => v.length ≤ 24)
theorem fewImg_any (A : Option Addr) (c : Nat) (im : List (List Sec)) (w : World) (h1 : SlAt (encSl encSec) w (Bl w.heap.size) A im) (hs : im.length ≤ 9223372036854775807) :
    Calls Tryz.prog 11 #[.slice A im.length c] w fun e w' => e = .returned (.bool (fewI im)) ∧ w' = w := by
  by_cases c1 : 9 < im.length
  · go_enter Tryz.func11, Tryz.ntmps11
    go_wp2
    go_ret
    exact ⟨ret_bool (by rw [fewI, decide_eq_false (by omega)]; rfl), rfl⟩
  · go_enter Tryz.func11, Tryz.ntmps11
    go_wp2
    go_loopw [3] (fun i wr => wr = w ∧ ∃ k : Nat, k ≤ im.length ∧ i = .int .i64 k ∧ Hid (∀ x ∈ im.take k, x.length ≤ 24)) (fun i _ => im.length - (intOf i).toNat)
    case atStart => exact ⟨rfl, 0, by omega, rfl, by simp [Hid]⟩
    case round =>
      obtain ⟨rfl, k, hk, rfl, hp⟩ := hrel
      by_cases hlt : k < im.length
      · obtain ⟨b, off, D, dc, rfl, hb, g0, hD, hn1, hn2⟩ := h1.sl hlt
        have hnn : (0 : Int) ≤ k := by omega
        have hki : (k : Int) < im.length := by omega
        unfold maxLen at hn2
        by_cases d : 24 < im[k].length
        · have hd' : ((24 : Int) < (im[k].length : Int)) = True := by simp; omega
          have HDD := Lib.hid d; clear d
          go_wp2
          go_ret
          refine ⟨ret_bool ?_, rfl⟩
          rw [eq_comm, fewI, Bool.and_eq_false_iff]
          right
          rw [List.all_eq_false]
          exact ⟨im[k], List.getElem_mem hlt, by have := HDD.out; simpa using this⟩
        · have hd' : ((24 : Int) < (im[k].length : Int)) = False := by simp; omega
          have HDD := Lib.hid d; clear d
          go_wp2
          go_roundw
          case rel =>
            refine ⟨by trivial, k + 1, hlt, by go_num, ?_⟩
            intro x hx
            rw [List.take_succ_eq_append_getElem hlt] at hx
            rcases List.mem_append.1 hx with hx | hx
            · exact hp.out x hx
            · rw [List.mem_singleton.1 hx]; have := HDD.out; omega
          case measure => simp [intOf]; omega
      · have hkk : k = im.length := by omega
        have HK := Lib.hid hkk; clear hkk
        have hki : ¬ ((k : Int) < im.length) := by omega
        go_wp2
        go_ret
        refine ⟨ret_bool ?_, rfl⟩
        have h3 := hp.out
        rw [HK.out, List.take_length] at h3
        rw [fewI, decide_eq_true (by omega), List.all_eq_true.2 (fun x hx => by simpa using h3 x hx)]
        rfl
end Go.Proofs.YtnkmklnlaepdeaaGreat

/-
  The sort of places: slices.SortFunc with before, by the shelf's contract.
-/
import Derived.Test.YtfahbhjlkdcnpaaShelf
import Derived.Test.YtfahbhjlkdcnpaaQa
set_option linter.unusedVariables false
set_option linter.unusedSimpArgs false
set_option linter.unusedSectionVars false
set_option linter.unnecessarySimpa false
namespace Go.Proofs.Ytfahbhjlkdcnpaa
open Go.RowKit Go.Shelf Go.Lib Go.Sort

def plCells (x : Pl) : List Value := [.int .i64 x.1, .int .i64 x.2]
theorem befI_lt (x y : Pl) : ltOf befI x y = decide (x.1 < y.1 ∨ (x.1 = y.1 ∧ x.2 < y.2)) := by
  unfold ltOf befI orI cmpI
  rw [decide_eq_decide]
  split <;> split <;> (try split) <;> (try split) <;> omega
theorem swoPl : SWO (ltOf befI) where
  irrefl x := by rw [befI_lt]; simp
  trans x y z h1 h2 := by rw [befI_lt] at *; simp at *; omega
  ntrans x y z h1 h2 := by rw [befI_lt] at *; simp at *; omega
theorem totPl (x y : Pl) (h1 : ltOf befI x y = false) (h2 : ltOf befI y x = false) : x = y := by
  rw [befI_lt] at h1 h2
  simp at h1 h2
  exact Prod.ext (by omega) (by omega)

set_option maxHeartbeats 1000000 in
theorem before_grow (p q : Pl) (W : World) :
    Calls Try.prog 70 #[.agg #[.int .i64 p.1, .int .i64 p.2], .agg #[.int .i64 q.1, .int .i64 q.2]] W fun e w' => e = .returned (.int .i64 (befI p q)) ∧ ∃ n os', w' = grow (W.drewN n) os' := by
  obtain ⟨a, b⟩ := p
  obtain ⟨c, d⟩ := q
  go_enter Try.func70, Try.ntmps70
  go_wp2_with fail
  go_region_held3 (fun w' => w'.cell? ⟨W.heap.size, 0, none⟩ = some (.int .i64 a) ∧ w'.cell? ⟨W.heap.size, 1, none⟩ = some (.int .i64 b) ∧ w'.cell? ⟨W.heap.size + 1, 0, none⟩ = some (.int .i64 c) ∧ w'.cell? ⟨W.heap.size + 1, 1, none⟩ = some (.int .i64 d)) (go_keep)
    (first | (go_at_call 90; refine (compare_any _ _ _).mono ?_; rintro e w' ⟨rfl, rfl⟩) | (go_at_call 89; refine (or2_any (cmpI a c) (cmpI b d) _ _ _ ?_ ?_).mono ?_; go_simp; go_simp; rintro e w' ⟨rfl, rfl⟩))
  go_wp2
  go_ret
  exact ⟨ret_int rfl, 1, _, by rw [alloc_eq_grow, alloc_eq_grow, alloc_eq_grow, grow_grow, grow_grow]; rfl⟩
theorem cmpLaysPl (blk off size : Nat) (w : World) : CmpLays Try.prog 70 #[] plCells 2 befI blk off size w := fun _ _ _ _ x y => before_grow x y _
def sortP (ps : List Pl) : List Pl := ps.mergeSort fun x y => !(ltOf befI) y x
theorem get_flat2 (ps : List Pl) (i : Nat) (hi : i < ps.length) : (ps.toArray)[i]! = ps[i] := by simp [hi]
theorem heap_sortK {w : World} {g n : Nat} {os : Array Obj} (d : Array Pl) : w.grownBy (sortWorldK plCells 2 w g 0 n d os) (some g) := by
  refine ⟨rfl, rfl, rfl, by simp [sortWorldK, grow, putRowK, putRow, mapBlock, Sort.ahead], fun k hk hne => ?_⟩
  unfold sortWorldK putRowK
  rw [heap_grow_old _ _ (by simpa [putRow, mapBlock, Sort.ahead] using hk)]
  have : g ≠ k := fun e => hne (by rw [e])
  simp [putRow, mapBlock, Sort.ahead, Array.getElem?_modify, this]
/-- the sort of places that a call owns -/
theorem sortPl_any (A : Option Addr) (base c : Nat) (T : TypeId) (S : Nat → Prop) (ps : List Pl) (w : World) (h : Own encExt w base T S (.slice A ps.length c) ps) (hl : ps.length ≤ 4611686018427387000) (hok : ∀ p ∈ ps, I64 p.1 ∧ I64 p.2) :
    Calls Try.prog 69 #[.slice A ps.length c, .func (.func 70) #[] #[]] w fun e w' => (∃ v, e = .returned v) ∧ SlAt encExt w' (fun b => A = some ⟨b, 0, none⟩) A (sortP ps) ∧ w.grownBy w' (Value.slice A ps.length c).ownBlock := by
  by_cases h0 : ps = []
  · subst h0
    have hcon := AnyF.slices_SortFunc_none { Try.sortPl with } A c (.func (.func 70) #[] #[]) w
    change Calls Try.prog 69 _ _ _ at hcon
    refine hcon.mono fun e w' ⟨he, hw⟩ => ⟨⟨_, he⟩, ?_, ?_⟩
    · have : sortP [] = [] := by simp [sortP]
      rw [this]; exact SlAt.nil_
    · rw [hw]; exact World.grownBy.refl _ _
  · have hpos : 0 < ps.length := List.length_pos_iff.2 h0
    obtain ⟨g, _, rfl, _, hg, _⟩ := h.elem hpos
    have eg : ∀ args w, (callFunc 70 args).run Try.prog w = .ok (.enter 70 args) w := enters_of Try.func70 (by kernel_rfl) rfl
    have hH : HoldsK plCells 2 w g 0 ps.toArray := by
      intro t ht
      rw [size_flatK] at ht
      have ht' : t < ps.length * 2 := by simpa using ht
      have hi : t / 2 < ps.length := by omega
      obtain ⟨g', cs, he, _, _, _, hc, hf, hr⟩ := h.elem (i := t / 2) hi
      injection he with he
      injection he with he
      subst he
      obtain ⟨rfl, _, _⟩ := ext_cs hr
      refine ⟨?_, by simpa using hf (0 + t)⟩
      rw [get_flatK _ _ _ _ ht, get_flat2 ps _ hi]
      have hm : t % 2 = 0 ∨ t % 2 = 1 := by omega
      have e2 : encExt.size = 2 := rfl
      rcases hm with hm | hm
      · have := hc 0 _ rfl
        rw [e2, show t / 2 * 2 + 0 = 0 + t from by omega] at this
        rw [hm]; exact this
      · have := hc 1 _ rfl
        rw [e2, show t / 2 * 2 + 1 = 0 + t from by omega] at this
        rw [hm]; exact this
    have hcon := AnyQ.slices_SortFunc_total Try.sortPl 2 Try.isAgg85 Try.sizeOf85 plCells (fun _ => rfl) (fun x v hv => by simp [plCells] at hv; rcases hv with rfl | rfl <;> rfl) befI swoPl 70 #[] g 0 c ps.toArray w eg (cmpLaysPl g 0 ps.toArray.size w) hH hg (by simp; omega) totPl
    change Calls Try.prog 69 _ _ _ at hcon
    rw [List.size_toArray] at hcon
    refine hcon.mono fun e w' ⟨he, n, os, hw⟩ => ⟨⟨_, he⟩, ?_, ?_⟩
    · subst hw
      refine fun _ => ⟨g, 0, rfl, rfl, fun i x hx => ⟨plCells x, fun j u hu => ?_, ?_⟩⟩
      · have hs : (sortP ps).length = ps.length := List.length_mergeSort ..
        have hi : i < (sortP ps).length := (List.getElem?_eq_some_iff.1 hx).1
        have hp := holdsK_putRowK plCells 2 (Sort.ahead w n) g 0 ps.toArray (sortP ps).toArray (holdsK_ahead plCells 2 w n g 0 _ hH) (by simp [hs])
        have hp2 := holdsK_grow plCells 2 _ os g 0 _ (by simpa [putRowK, putRow, mapBlock, Sort.ahead] using hg) hp
        have hj : j < 2 := (List.getElem?_eq_some_iff.1 hu).1
        have := (HoldsK.cell hp2 (i := i) (c := j) (by simpa using hi) hj).1
        have e1 : (sortP ps).toArray[i]! = x := by rw [get_flat2 _ _ hi]; exact (List.getElem?_eq_some_iff.1 hx).2
        rw [e1] at this
        have e2 : (plCells x)[j]! = u := by
          obtain ⟨hj', hu'⟩ := List.getElem?_eq_some_iff.1 hu
          rw [getElem!_pos _ j hj']; exact hu'
        rw [e2] at this
        exact this
      · have hm : x ∈ ps := (List.mergeSort_perm ps _).mem_iff.1 (List.mem_of_getElem? hx)
        exact ext_mk (hok x hm).1 (hok x hm).2
    · subst hw
      exact heap_sortK _
end Go.Proofs.Ytfahbhjlkdcnpaa

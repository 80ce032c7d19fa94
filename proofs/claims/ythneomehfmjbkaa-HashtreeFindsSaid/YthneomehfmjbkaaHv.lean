/-
  Owned lists of digests: stores, copies; Root.
-/
import Derived.Test.YthneomehfmjbkaaHr
import Derived.Test.YthneomehfmjbkaaHu
import Derived.Laws.OwnMore
set_option linter.unusedVariables false
set_option linter.unusedSimpArgs false
set_option linter.unusedSectionVars false
set_option linter.unnecessarySimpa false
namespace Go.Proofs.Ythneomehfmjbkaa
open Go.RowKit Go.Shelf
attribute [local go_sem] Oper.semAt_some

def u64V (l : List Int) : List Value := l.map (Value.int .u64)
theorem All2_u64 {w : World} {S : Nat → Prop} : ∀ {css : List (List Value)} {l : List Int}, All2 (encU64.rd w S) css l → css.flatten = u64V l ∧ ∀ x ∈ l, U64 x
  | [], [], _ => ⟨rfl, fun _ h => by simp at h⟩
  | [], _ :: _, h => h.elim
  | _ :: _, [], h => h.elim
  | cs :: css, x :: l, h => by
    obtain ⟨h1, h2⟩ := h
    obtain ⟨i1, i2⟩ := All2_u64 h2
    obtain ⟨rfl, hx⟩ := h1
    refine ⟨by simp [u64V] at i1 ⊢; exact i1, fun y hy => ?_⟩
    rcases List.mem_cons.1 hy with rfl | hy
    · exact hx
    · exact i2 y hy
theorem u64_All2 {w : World} {S : Nat → Prop} : ∀ (l : List Int), (∀ x ∈ l, U64 x) → All2 (encU64.rd w S) (l.map fun x => [Value.int .u64 x]) l
  | [], _ => trivial
  | x :: l, h => ⟨⟨rfl, h x (by simp)⟩, u64_All2 l (fun y hy => h y (by simp [hy]))⟩
theorem u64_flat (l : List Int) : (l.map fun x => [Value.int .u64 x]).flatten = u64V l := by
  induction l with
  | nil => rfl
  | cons x l ih =>
    show Value.int .u64 x :: (l.map fun x => [Value.int .u64 x]).flatten = Value.int .u64 x :: u64V l
    rw [ih]
theorem SlAt.u64s {w : World} {S : Nat → Prop} {A : Option Addr} {l : List Int} (h : SlAt encU64 w S A l) : ∀ x ∈ l, U64 x := by
  intro x hx
  obtain ⟨k, hk, rfl⟩ := List.mem_iff_getElem.1 hx
  obtain ⟨_, _, _, _, _, h1, h2⟩ := h.u64 hk
  exact ⟨h1, h2⟩
/-- what one owns of digests -/
theorem ownU_iff {w : World} {base : Nat} {e : TypeId} {v : Value} {l : List Int} : Own encU64 w base e (fun _ => False) v l ↔ (w.ownsRow base e 1 v l.length (u64V l) ∧ ∀ x ∈ l, U64 x) := by
  constructor
  · rintro ⟨css, h1, h2, h3⟩
    obtain ⟨i1, i2⟩ := All2_u64 h2
    exact ⟨by rw [← i1]; exact h1, i2⟩
  · rintro ⟨h1, h2⟩
    exact ⟨_, by rw [u64_flat]; exact h1, u64_All2 l h2, fun _ _ h => h⟩
theorem Own.setU {w : World} {base g n c : Nat} {e : TypeId} {l : List Int} (h : Own encU64 w base e (fun _ => False) (.slice (some ⟨g, 0, none⟩) n c) l) (hn : l.length = n) (j : Nat) {x : Int} (hx : U64 x) :
    Own encU64 (w.setCell ⟨g, j, none⟩ (.int .u64 x)) base e (fun _ => False) (.slice (some ⟨g, 0, none⟩) n c) (l.set j x) := by
  obtain ⟨h1, h2⟩ := ownU_iff.1 h
  subst hn
  have h3 := (h1.stored j (.int .u64 x)).1
  refine ownU_iff.2 ⟨?_, fun y hy => ?_⟩
  · rw [List.length_set]
    have : u64V (l.set j x) = (u64V l).set j (.int .u64 x) := by simp [u64V]
    rw [this]; exact h3
  · rcases List.mem_or_eq_of_mem_set hy with hy | rfl
    · exact h2 y hy
    · exact hx
theorem Own.cellU {w : World} {base g n c : Nat} {e : TypeId} {l : List Int} (h : Own encU64 w base e (fun _ => False) (.slice (some ⟨g, 0, none⟩) n c) l) (hn : l.length = n) {j : Nat} (hj : j < l.length) :
    w.cell? ⟨g, j, none⟩ = some (.int .u64 l[j]) ∧ w.frozen? ⟨g, j, none⟩ = false := by
  obtain ⟨h1, h2⟩ := ownU_iff.1 h
  subst hn
  refine ⟨?_, h1.frozenAt j⟩
  rw [h1.cellAt j (by omega)]
  simp [u64V, hj]
set_option maxHeartbeats 4000000 in
theorem cloneU64_own (A : Option Addr) (c n : Nat) (l : List Int) (w : World) (hn : l.length = n) (h0 : 1 ≤ n) (h1 : SlAt encU64 w (Bl w.heap.size) A l) (hl : n ≤ 1000000) :
    Calls Try.prog 45 #[.slice A n c] w fun e w' => ∃ g c', e = .returned (.slice (some ⟨g, 0, none⟩) n c') ∧ n ≤ c' ∧ c' ≤ maxLen ∧ Own encU64 w' w.heap.size 58 (fun _ => False) (.slice (some ⟨g, 0, none⟩) n c') l ∧ Below w.heap.size w w' := by
  obtain ⟨b, off, rfl, _⟩ := h1.some_ (by intro e; rw [e] at hn; simp at hn; omega)
  have hO := Lib.hid (show Own encU64 (w.alloc (.cells #[] 58)) w.heap.size 58 (Bl w.heap.size) (.slice (some ⟨w.heap.size, 0, none⟩) 0 0) [] from Own.make0 (cur := #[]) (Nat.le_refl _) (by unfold maxLen; omega) rfl (fun h => Nat.lt_irrefl _ h))
  have hsrc := Lib.hid (show SlAt encU64 (w.alloc (.cells #[] 58)) (Bl w.heap.size) (some ⟨b, off, none⟩) l from h1.below (ext_alloc (Below.refl _ _)))
  clear h1
  have hE := fun W => Lib.run_eql_slice_nil (P := Try.prog) W 60 58 (some ⟨b, off, none⟩) n c 0 0 Try.underlying60
  go_enter Try.func45, Try.ntmps45
  go_wp2_with (at_builtin; refine Hid.out ?_)
  change wpList _ _ _ _ _ _
  refine wpList_appAll (E := encU64) tyU64s rfl _ _ rfl rfl hO.out rfl hn.symm hsrc.out (fun g hg => by simp; have : g < w.heap.size := hg; omega) (by simp) (by unfold maxLen; simp; omega) (by simp; omega) ?_
  intro A5 c5 w5 hown5 hg5 hat5
  simp only [List.length_nil, Nat.zero_add, List.nil_append] at hown5
  have hB5 : Below w.heap.size w w5 := (ext_alloc (o := .cells #[] 58) (Below.refl w.heap.size w)).grown hg5 (by simp) (fun g hg => (hO.out.lt g hg).1)
  have hfin : Hid (∃ g, A5 = some ⟨g, 0, none⟩ ∧ n ≤ c5 ∧ c5 ≤ maxLen ∧ Own encU64 w5 w.heap.size 58 (fun _ => False) (.slice (some ⟨g, 0, none⟩) n c5) l) := by
    have hf := Own.flat hown5 (fun h => h)
    obtain ⟨i1, i2⟩ := ownU_iff.1 hf
    rcases i1.2 with ⟨h', hz⟩ | ⟨g', cap', cur, h', _, _, hnc, hcm, _⟩
    · omega
    · simp only [Value.slice.injEq] at h'
      obtain ⟨rfl, h6, rfl⟩ := h'
      exact ⟨g', rfl, by omega, hcm, hf⟩
  clear hown5 hg5 hat5
  go_wp2
  go_ret
  obtain ⟨g, rfl, k1, k2, k3⟩ := hfin.out
  exact ⟨g, c5, rfl, k1, k2, k3, hB5⟩
set_option maxHeartbeats 4000000 in
theorem root_any (s lf : Int) (A : Option Addr) (c n : Nat) (l : List (List Int)) (r : Int) (w : World) (hn : l.length = n) (hr : rootT (s, lf, l) = r) (h1 : SlAt (encSl encU64) w (Bl w.heap.size) A l) (hs : n ≤ 100000) (hc : n ≤ c ∧ c ≤ maxLen) (hI : I64 s ∧ I64 lf) :
    Calls Try.prog 27 #[.agg #[.int .i64 s, .int .i64 lf, .slice A n c]] w fun e w' => e = .returned (.int .u64 r) ∧ Below w.heap.size w w' := by
  subst hn
  have HR := Lib.hid hr; clear hr
  have H1 : Hid (∀ w', Below w.heap.size w w' → SlAt (encSl encU64) w' (Bl w.heap.size) A l) := fun w' hb => h1.below hb
  clear h1
  obtain ⟨W0, hW0⟩ : ∃ W0, w.alloc (.cells #[.int .i64 s, .int .i64 lf, .slice A l.length c] 26) = W0 := ⟨_, rfl⟩
  have hB0 : Below w.heap.size w W0 := by rw [← hW0]; exact ext_alloc (Below.refl _ _)
  have hrow : W0.heap[w.heap.size]? = some (.cells #[.int .i64 s, .int .i64 lf, .slice A l.length c] 26 (0, 0)) := by rw [← hW0]; exact heap_alloc_new _ _
  obtain ⟨r0, r1, r2, rf⟩ := blk3 hrow
  have hb1 : w.heap.size < W0.heap.size := (Array.getElem?_eq_some_iff.1 hrow).1
  obtain ⟨x, hx⟩ : ∃ x, Hid (checkT (s, lf, l) = x) := ⟨_, rfl⟩
  have HCK := Lib.hid (check_any s lf A c l.length l x W0 rfl hx.out ((H1.out _ hB0).more (Bl.mono hB0.size)) hs hc hI)
  clear hrow rf
  go_enter Try.func27, Try.ntmps27
  go_wp2_with fail
  refine HCK.out.mono ?_
  rintro e w1 ⟨rfl, hB1⟩
  have q2 : w1.cell? ⟨w.heap.size, 2, none⟩ = some (.slice A l.length c) := (hB1.cell (p := ⟨w.heap.size, 2, none⟩) hb1).trans r2
  have hB2 : Below w.heap.size w w1 := hB0.trans (hB1.mono hB0.size)
  clear r0 r1 r2 HCK hB1
  by_cases hx0 : x = 0
  · have hx0' : (x != 0) = false := by simp [hx0]
    have hck : checkT (s, lf, l) = 0 := by rw [hx.out, hx0]
    obtain ⟨n', m', -, -, ht⟩ := checkT_TOk hck
    have hl0 := ht.ne
    have hk1 : l.length - 1 < l.length := by omega
    have ha := ht.at_ (l.length - 1) hk1
    have hk2 : (l[l.length - 1]'hk1).length = 1 := by rw [ha.1]; exact ha.2.1.2 (by omega)
    have hrt := Lib.hid (rootT_ok hck hl0 (by rw [hk2]; decide))
    obtain ⟨b, off, D', dc', rfl, hb', g0', hD', hd1', hd2'⟩ := (H1.out _ hB2).sl hk1
    obtain ⟨y, hy⟩ : ∃ y, Hid (y = l[l.length - 1]'hk1) := ⟨_, rfl⟩
    have hyl : y.length = 1 := by rw [hy.out]; exact hk2
    have hrt2 : Hid (rootT (s, lf, l) = y[0]'(by omega)) := by
      rw [Hid, hrt.out]
      have := hy.out
      subst this
      rfl
    rw [← hy.out] at g0' hD'
    obtain ⟨b2, off2, rfl, hb2, k0, ku⟩ := hD'.u64 (k := 0) (by omega)
    simp only [Nat.add_zero] at k0
    rw [hyl] at g0'
    have hkl : (l.length : Int) - 1 < l.length := by omega
    have hkn : (0 : Int) ≤ (l.length : Int) - 1 := by omega
    clear hck ht ha hk2 hrt hd1' hd2' hD'
    go_wp2_with fail
    go_ret
    rw [← HR.out, hrt2.out]
    exact ⟨rfl, hB2⟩
  · have hx0' : (x != 0) = true := by simp [hx0]
    have hrt : Hid (rootT (s, lf, l) = 0) := by rw [Hid, rootT, if_pos (by rw [hx.out]; exact hx0)]
    clear hx0
    go_wp2_with fail
    go_ret
    rw [← HR.out, hrt.out]
    exact ⟨rfl, hB2⟩
set_option maxHeartbeats 4000000 in
theorem refRoot_any (s lf : Int) (A : Option Addr) (c n : Nat) (l : List (List Int)) (r : Int) (w : World) (hn : l.length = n) (hr : rootT (s, lf, l) = r) (h1 : SlAt (encSl encU64) w (Bl w.heap.size) A l) (hs : n ≤ 100000) (hc : n ≤ c ∧ c ≤ maxLen) (hI : I64 s ∧ I64 lf) :
    Calls Try.prog 28 #[.agg #[.int .i64 s, .int .i64 lf, .slice A n c]] w fun e w' => e = .returned (.int .u64 r) ∧ Below w.heap.size w w' := by
  subst hn
  have HR := Lib.hid hr; clear hr
  have H1 : Hid (∀ w', Below w.heap.size w w' → SlAt (encSl encU64) w' (Bl w.heap.size) A l) := fun w' hb => h1.below hb
  clear h1
  obtain ⟨W0, hW0⟩ : ∃ W0, w.alloc (.cells #[.int .i64 s, .int .i64 lf, .slice A l.length c] 26) = W0 := ⟨_, rfl⟩
  have hB0 : Below w.heap.size w W0 := by rw [← hW0]; exact ext_alloc (Below.refl _ _)
  have hrow : W0.heap[w.heap.size]? = some (.cells #[.int .i64 s, .int .i64 lf, .slice A l.length c] 26 (0, 0)) := by rw [← hW0]; exact heap_alloc_new _ _
  obtain ⟨r0, r1, r2, rf⟩ := blk3 hrow
  have hb1 : w.heap.size < W0.heap.size := (Array.getElem?_eq_some_iff.1 hrow).1
  obtain ⟨x, hx⟩ : ∃ x, Hid (checkT (s, lf, l) = x) := ⟨_, rfl⟩
  have HCK := Lib.hid (refCheck_any s lf A c l.length l x W0 rfl hx.out ((H1.out _ hB0).more (Bl.mono hB0.size)) hs hc hI)
  clear hrow rf
  go_enter Try.func28, Try.ntmps28
  go_wp2_with fail
  refine HCK.out.mono ?_
  rintro e w1 ⟨rfl, hB1⟩
  have q2 : w1.cell? ⟨w.heap.size, 2, none⟩ = some (.slice A l.length c) := (hB1.cell (p := ⟨w.heap.size, 2, none⟩) hb1).trans r2
  have hB2 : Below w.heap.size w w1 := hB0.trans (hB1.mono hB0.size)
  clear r0 r1 r2 HCK hB1
  by_cases hx0 : x = 0
  · have hx0' : (x != 0) = false := by simp [hx0]
    have hck : checkT (s, lf, l) = 0 := by rw [hx.out, hx0]
    obtain ⟨n', m', -, -, ht⟩ := checkT_TOk hck
    have hl0 := ht.ne
    have hk1 : l.length - 1 < l.length := by omega
    have ha := ht.at_ (l.length - 1) hk1
    have hk2 : (l[l.length - 1]'hk1).length = 1 := by rw [ha.1]; exact ha.2.1.2 (by omega)
    have hrt := Lib.hid (rootT_ok hck hl0 (by rw [hk2]; decide))
    obtain ⟨b, off, D', dc', rfl, hb', g0', hD', hd1', hd2'⟩ := (H1.out _ hB2).sl hk1
    obtain ⟨y, hy⟩ : ∃ y, Hid (y = l[l.length - 1]'hk1) := ⟨_, rfl⟩
    have hyl : y.length = 1 := by rw [hy.out]; exact hk2
    have hrt2 : Hid (rootT (s, lf, l) = y[0]'(by omega)) := by
      rw [Hid, hrt.out]
      have := hy.out
      subst this
      rfl
    rw [← hy.out] at g0' hD'
    obtain ⟨b2, off2, rfl, hb2, k0, ku⟩ := hD'.u64 (k := 0) (by omega)
    simp only [Nat.add_zero] at k0
    rw [hyl] at g0'
    have hkl : (l.length : Int) - 1 < l.length := by omega
    have hkn : (0 : Int) ≤ (l.length : Int) - 1 := by omega
    clear hck ht ha hk2 hrt hd1' hd2' hD'
    go_wp2_with fail
    go_ret
    rw [← HR.out, hrt2.out]
    exact ⟨rfl, hB2⟩
  · have hx0' : (x != 0) = true := by simp [hx0]
    have hrt : Hid (rootT (s, lf, l) = 0) := by rw [Hid, rootT, if_pos (by rw [hx.out]; exact hx0)]
    clear hx0
    go_wp2_with fail
    go_ret
    rw [← HR.out, hrt.out]
    exact ⟨rfl, hB2⟩
end Go.Proofs.Ythneomehfmjbkaa

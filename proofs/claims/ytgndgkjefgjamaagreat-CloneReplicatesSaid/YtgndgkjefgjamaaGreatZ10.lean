/-
  Deleting one element of an owned slice: the elements behind it moved down, the last one cleared. No program in sight.; The law's write: a list of one write.; The reference's Check of snapshots.; The reference's New and Cost; Few and Same of snapshots.
-/
import Derived.Laws.IdiomCopy
import Derived.Lib.SliceRun
import Derived.Deep.RegionLaw
import Derived.BigQuiet
import Derived.Deep.DeepCutAuto
import Derived.Test.YtgndgkjefgjamaaGreatZ01
import Derived.Test.YtgndgkjefgjamaaGreatZ02
import Derived.Test.YtgndgkjefgjamaaGreatZ03
import Derived.Test.YtgndgkjefgjamaaGreatZ04
import Derived.Test.YtgndgkjefgjamaaGreatZ05
import Derived.Test.YtgndgkjefgjamaaGreatZ06
import Derived.Test.YtgndgkjefgjamaaGreatZ07
import Derived.Test.YtgndgkjefgjamaaGreatZ08
import Derived.Test.YtgndgkjefgjamaaGreatZ09
set_option linter.unusedVariables false
set_option linter.unusedSimpArgs false
set_option linter.unusedSectionVars false
set_option linter.unnecessarySimpa false
namespace Go.Proofs.YtgndgkjefgjamaaGreat
open Go.RowKit Go.Shelf

section
variable {P : Program}
/-- clear of one element of some cells -/
theorem run_clear1 (w : World) (t e ty : TypeId) (z : Value) (cs : Array Value) (ht : P.underlying t = some (.slice e)) (hv : ∀ w, (zeroValue e).run P w = .ok z w) (hz : z.cells = cs) (h1 : ∀ v ∈ cs.toList, v.oneCell' = true) (b o c : Nat)
    (hc : ∀ j, j < cs.size → (w.cell? ⟨b, o + j, none⟩).isSome = true) (hf : ∀ j, j < cs.size → w.frozen? ⟨b, o + j, none⟩ = false) :
    (Builtin.clear_ #[t] ty #[.slice (some ⟨b, o, none⟩) 1 c]).run P w = .ok (.tuple #[]) (w.setCells b o cs.toList) := by
  have hzc : (Builtin.zeroCells z.cells 1).toList = cs.toList := by
    rw [hz]
    apply List.ext_getElem
    · simp [Builtin.zeroCells]
    · intro i h1 h2
      have h3 : i < cs.size := by simpa using h2
      simp [Builtin.zeroCells, Nat.mod_eq_of_lt h3, h3]
  have hst := run_storeCells_cells (P := P) b o cs.toList 0 w (by simpa using hc) (by simpa using hf) h1
  simp only [Nat.add_zero] at hst
  simp [Builtin.clear_, run_underlying ht, hv, hzc, hst]
end
/-- cells written into a row -/
def putL (cur : List Value) (o : Nat) (vs : List Value) : List Value := cur.take o ++ vs ++ cur.drop (o + vs.length)
theorem putL_len {cur : List Value} {o : Nat} {vs : List Value} (h : o + vs.length ≤ cur.length) : (putL cur o vs).length = cur.length := by
  simp [putL]; omega
theorem row_setCells {b : Nat} {T : TypeId} {fr : Nat × Nat} : ∀ (vs : List Value) (o : Nat) (w : World) (cur : Array Value), w.heap[b]? = some (.cells cur T fr) → o + vs.length ≤ cur.size → (w.setCells b o vs).heap[b]? = some (.cells (putL cur.toList o vs).toArray T fr)
  | [], o, w, cur, h, hs => by
    rw [World.setCells, h]
    simp [putL]
  | v :: vs, o, w, cur, h, hs => by
    have hs' : o + (vs.length + 1) ≤ cur.size := hs
    have h1 : (w.setCell ⟨b, o, none⟩ v).heap[b]? = some (.cells (cur.setIfInBounds o v) T fr) := by
      simp [World.setCell, Array.getElem?_modify, h]
    have h2 := row_setCells vs (o + 1) _ _ h1 (by simp; omega)
    rw [World.setCells, h2]
    congr 2
    simp only [putL, Array.toList_setIfInBounds]
    rw [List.take_set, List.drop_set]
    congr 1
    rw [if_pos (by omega), List.take_add_one, List.set_append]
    have : ¬ o < (cur.toList.take o).length := by simp; omega
    have hl : (cur.toList.take o).length = o := by simp; omega
    rw [if_neg this, hl, List.getElem?_eq_getElem (by simp; omega)]
    simp [Nat.add_assoc, Nat.add_comm 1]
theorem flat_take {q : Nat} : ∀ {css : List (List Value)} (k : Nat), (∀ cs ∈ css, cs.length = q) → (css.take k).flatten = css.flatten.take (k * q)
  | [], k, _ => by simp
  | cs :: css, 0, _ => by simp
  | cs :: css, k + 1, h => by
    have h1 := h cs (by simp)
    rw [List.take_succ_cons, List.flatten_cons, List.flatten_cons, flat_take k (fun x hx => h x (by simp [hx])), List.take_append, h1, Nat.add_mul, Nat.one_mul]
    rw [List.take_of_length_le (l := cs) (by omega)]
    congr 2
    omega
theorem flat_drop {q : Nat} : ∀ {css : List (List Value)} (k : Nat), (∀ cs ∈ css, cs.length = q) → (css.drop k).flatten = css.flatten.drop (k * q)
  | [], k, _ => by simp
  | cs :: css, 0, _ => by simp
  | cs :: css, k + 1, h => by
    have h1 := h cs (by simp)
    rw [List.drop_succ_cons, List.flatten_cons, flat_drop k (fun x hx => h x (by simp [hx])), List.drop_append, h1, Nat.add_mul, Nat.one_mul]
    rw [List.drop_of_length_le (l := cs) (by omega)]
    simp only [List.nil_append]
    congr 1
    omega
theorem heap_setCells_ne {g b : Nat} (hb : b ≠ g) : ∀ (vs : List Value) (o : Nat) (w : World), (w.setCells g o vs).heap[b]? = w.heap[b]?
  | [], _, _ => rfl
  | v :: vs, o, w => by rw [World.setCells, heap_setCells_ne hb vs (o + 1)]; exact Below.heap_setCell _ _ _ _ hb
theorem All2.erase {α β : Type} {R : α → β → Prop} : ∀ {xs : List α} {ys : List β} (i : Nat), All2 R xs ys → All2 R (xs.eraseIdx i) (ys.eraseIdx i)
  | [], [], _, h => h
  | a :: xs, b :: ys, 0, h => h.2
  | a :: xs, b :: ys, i + 1, h => ⟨h.1, All2.erase i h.2⟩
/-- what a deletion in place needs and leaves -/
theorem Own.delete {α : Type} {E : Enc α} {w : World} {base g c : Nat} {e : TypeId} {S : Nat → Prop} {l : List α} (h : Own E w base e S (.slice (some ⟨g, 0, none⟩) l.length c) l) (i r : Nat) (hr : l.length = i + 1 + r) :
    g < w.heap.size ∧ base ≤ g ∧ ∃ vs : List Value, vs.length = r * E.size ∧ (∀ j u, vs[j]? = some u → w.cell? ⟨g, (i + 1) * E.size + j, none⟩ = some u) ∧ (∀ u ∈ vs, u.oneCell' = true) ∧
      (∀ j, j < vs.length → (w.cell? ⟨g, i * E.size + j, none⟩).isSome = true ∧ w.frozen? ⟨g, i * E.size + j, none⟩ = false) ∧
      ∀ zs : List Value, zs.length = E.size →
        (∀ j, j < zs.length → ((w.setCells g (i * E.size) vs).cell? ⟨g, (i + r) * E.size + j, none⟩).isSome = true ∧ (w.setCells g (i * E.size) vs).frozen? ⟨g, (i + r) * E.size + j, none⟩ = false) ∧
        Own E ((w.setCells g (i * E.size) vs).setCells g ((i + r) * E.size) zs) base e S (.slice (some ⟨g, 0, none⟩) (i + r) c) (l.eraseIdx i) := by
  obtain ⟨css, ⟨hx, hrow⟩, h2, h3⟩ := h
  have hsz := All2.sizes h2
  have hg3 : ¬ S g := h3 g rfl
  rcases hrow with ⟨hv, _⟩ | ⟨g', cap, cur, hv, hb, hh, hcap, hmax, hcs, htk⟩
  · cases hv
  · simp only [Value.slice.injEq, Option.some.injEq, Addr.mk.injEq, and_true, true_and] at hv
    obtain ⟨rfl, rfl⟩ := hv
    obtain ⟨q, hq⟩ : ∃ q, E.size = q := ⟨_, rfl⟩
    rw [hq] at hx hcs htk hsz ⊢
    obtain ⟨a, ha⟩ : ∃ a, i * q = a := ⟨_, rfl⟩
    obtain ⟨b, hbq⟩ : ∃ b, r * q = b := ⟨_, rfl⟩
    have e1 : (i + 1) * q = a + q := by rw [Nat.add_mul, ha, Nat.one_mul]
    have e2 : (i + r) * q = a + b := by rw [Nat.add_mul, ha, hbq]
    have e3 : l.length * q = a + q + b := by rw [hr, Nat.add_mul, e1, hbq]
    have e4 : a + q + b ≤ c * q := by rw [← e3]; exact Nat.mul_le_mul_right q hcap
    rw [e3] at htk hx
    rw [e1, e2, ha]
    have hlt := (Array.getElem?_eq_some_iff.1 hh).1
    have hcell : ∀ j, w.cell? ⟨g, j, none⟩ = cur[j]? := fun j => cell_of_row _ _ j _ _ _ hh
    have hfz : ∀ j, w.frozen? ⟨g, j, none⟩ = false := fun j => by simp [World.frozen?, hh]
    have hF : css.flatten.length = a + q + b := hx
    have hFc : ∀ j, j < a + q + b → css.flatten[j]? = cur[j]? := fun j hj => by
      rw [← htk, List.getElem?_take, if_pos hj, Array.getElem?_toList]
    obtain ⟨VS, hVS⟩ : ∃ VS, (css.drop (i + 1)).flatten = VS := ⟨_, rfl⟩
    have hVl : VS.length = b := by rw [← hVS, flat_drop (q := q) _ hsz, e1, List.length_drop, hF]; omega
    refine ⟨hlt, hb, VS, ?_, ?_, ?_, ?_, ?_⟩
    · rw [hVl, hbq]
    · intro j u hu
      rw [← hVS, flat_drop (q := q) _ hsz, e1, List.getElem?_drop] at hu
      have : a + q + j < a + q + b := by rw [← hF]; exact (List.getElem?_eq_some_iff.1 hu).1
      rw [hFc _ this] at hu
      rw [hcell]; exact hu
    · intro u hu
      rw [← hVS] at hu
      obtain ⟨cs, hc, hu⟩ := List.mem_flatten.1 hu
      obtain ⟨k, hk, rfl⟩ := List.mem_iff_getElem.1 (List.mem_of_mem_drop hc)
      obtain ⟨a', h4, h5⟩ := All2.get h2 (i := k) (List.getElem?_eq_getElem (by rw [← h2.length]; exact hk))
      rw [List.getElem?_eq_getElem hk] at h4
      cases h4
      exact E.one h5 u hu
    · intro j hj
      rw [hVl] at hj
      exact ⟨by rw [hcell, Array.getElem?_eq_getElem (by omega)]; rfl, hfz _⟩
    · intro zs hz
      have hvl := hVl
      have r1 := row_setCells VS a w cur hh (by omega)
      have hpl : (putL cur.toList a VS).length = c * q := by rw [putL_len (by simp; omega)]; simp [hcs]
      have r2 := row_setCells zs (a + b) _ _ r1 (by simp [hpl]; omega)
      have hel : (l.eraseIdx i).length = i + r := by rw [List.length_eraseIdx, if_pos (by omega)]; omega
      have hfl : (css.eraseIdx i).flatten = css.flatten.take a ++ VS := by
        rw [List.eraseIdx_eq_take_drop_succ, List.flatten_append, flat_take (q := q) _ hsz, ha, hVS]
      refine ⟨fun j hj => ⟨?_, ?_⟩, css.eraseIdx i, ⟨?_, Or.inr ⟨g, c, _, by rw [hel], hb, r2, by omega, hmax, ?_, ?_⟩⟩, ?_, h3⟩
      · rw [cell_of_row _ _ _ _ _ _ r1]
        rw [Array.getElem?_eq_getElem (by simp [hpl]; omega)]; rfl
      · simp [World.frozen?, r1]
      · rw [hfl, hel, hq, e2, List.length_append, hvl, List.length_take, hF]; omega
      · rw [hq]
        simp only [List.size_toArray]
        rw [putL_len (by simp [hpl]; omega)]
        simpa using hpl
      · rw [hfl, hel, hq, e2]
        have h1 : (putL cur.toList a VS).take (a + b) = css.flatten.take a ++ VS := by
          have h0 : css.flatten.take a = cur.toList.take a := by rw [← htk, List.take_take, Nat.min_eq_left (by omega)]
          rw [h0]
          unfold putL
          rw [List.take_append_of_le_length (by simp [hvl]; omega), List.take_of_length_le (by simp [hvl]; omega)]
        rw [← h1]
        simp only [putL, List.toList_toArray]
        rw [List.append_assoc, List.take_append_of_le_length (by simp [hvl]; omega), List.take_take, Nat.min_self]
      · refine (All2.erase i h2).mono (fun cs x hr' => Enc.blk hr' (fun b' hb' => ?_))
        have hne : b' ≠ g := fun e => hg3 (by rw [← e]; exact hb')
        rw [heap_setCells_ne hne, heap_setCells_ne hne]
end Go.Proofs.YtgndgkjefgjamaaGreat

namespace Go.Proofs.YtgndgkjefgjamaaGreat
open Go.RowKit Go.Shelf
attribute [local go_sem] Oper.semAt_some

theorem grown_setCell36 (w : World) (b i : Nat) (v : Value) : w.grownBy (w.setCell ⟨b, i, none⟩ v) (some b) :=
  ⟨rfl, rfl, rfl, by simp [World.setCell], fun k _ hne => Below.heap_setCell _ _ _ _ (fun e => hne (by rw [show k = b from e]))⟩
theorem grown_trans36 {a b c : World} {r : Option Nat} (h : a.grownBy b r) (k : b.grownBy c r) : a.grownBy c r :=
  ⟨k.os.trans h.os, k.tape.trans h.tape, k.output.trans h.output, Nat.le_trans h.size k.size, fun i hi hn => (k.block i (Nat.lt_of_lt_of_le hi h.size) hn).trans (h.block i hi hn)⟩
theorem grown_setCells (g : Nat) : ∀ (vs : List Value) (o : Nat) (w : World), w.grownBy (w.setCells g o vs) (some g)
  | [], _, _ => ⟨rfl, rfl, rfl, Nat.le_refl _, fun _ _ _ => rfl⟩
  | v :: vs, o, w => grown_trans36 (grown_setCell36 w g o v) (grown_setCells g vs (o + 1) _)
theorem grown_drew36 (w : World) (r : Option Nat) : w.grownBy w.drew r := ⟨rfl, rfl, rfl, Nat.le_refl _, fun _ _ _ => rfl⟩
set_option maxRecDepth 100000 in
set_option maxHeartbeats 4000000 in
theorem deleteS_any (g i r m c base : Nat) (S : Nat → Prop) (l : List Snp) (w : World) (hm : l.length = m) (hr : m = i + 1 + r) (h : Own encSnp w base 158 S (.slice (some ⟨g, 0, none⟩) m c) l) (hmx : m ≤ 9223372036854775806) :
    Calls Tryz.prog 129 #[.slice (some ⟨g, 0, none⟩) m c, .int .i64 i, .int .i64 ((i : Int) + 1)] w fun e w' => e = .returned (.slice (some ⟨g, 0, none⟩) (i + r) c) ∧ Own encSnp w' base 158 S (.slice (some ⟨g, 0, none⟩) (i + r) c) (l.eraseIdx i) ∧ w.grownBy w' (some g) := by
  subst hm
  have hcap : l.length ≤ c := by
    obtain ⟨_, ⟨_, hrow⟩, _⟩ := h
    rcases hrow with ⟨hv, _⟩ | ⟨_, _, _, hv, _, _, h1, _⟩
    · cases hv
    · simp only [Value.slice.injEq] at hv
      omega
  obtain ⟨hg, hbase, vs, v1, v2, v3, v4, v5⟩ := Own.delete (w := w.drew) (h.blk (fun _ _ => rfl)) i r hr
  simp only [show encSnp.size = 3 from rfl] at v1 v2 v4 v5
  have V5 := Lib.hid v5
  clear v5 h
  obtain ⟨m, hm⟩ : ∃ m, l.length = m := ⟨_, rfl⟩
  rw [hm] at hr hmx hcap ⊢
  have HM := Lib.hid hm
  clear hm
  have hi0 : (0 : Int) ≤ i := by omega
  have hne : ((i : Int) == (i : Int) + 1) = false := by simp; omega
  have him : (i : Int) + 1 ≤ m := by omega
  obtain ⟨zs, hz⟩ : ∃ zs : List Value, Hid (zs = [.int .i64 0, .int .i64 0, .slice none 0 0]) := ⟨_, rfl⟩
  obtain ⟨k5, k6⟩ := V5.out zs (by rw [hz.out]; rfl)
  have K6 := Lib.hid k6
  clear k6 V5
  obtain ⟨Ad, hA, hsrc⟩ : ∃ A : Addr, (if c = i + 1 then some (⟨g, 0, none⟩ : Addr) else some ⟨g, (i + 1) * 3, none⟩) = some A ∧ Hid (∀ j u, vs[j]? = some u → w.drew.cell? (A.add j) = some u) := by
    by_cases h : c = i + 1
    · refine ⟨⟨g, 0, none⟩, by simp [h], fun t u hu => ?_⟩
      have h0 : vs.length = 0 := by rw [v1]; omega
      rw [List.length_eq_zero_iff.1 h0] at hu
      simp at hu
    · exact ⟨⟨g, (i + 1) * 3, none⟩, by simp [h], fun t u hu => by rw [Addr.add_lit]; exact v2 t u hu⟩
  have s1 := Lib.hid v1; have s2 := Lib.hid v3
  have s3 : Hid (∀ t, t < vs.length → (w.drew.cell? ⟨g, 0 + i * 3 + t, none⟩).isSome = true ∧ w.drew.frozen? ⟨g, 0 + i * 3 + t, none⟩ = false) := by rw [Nat.zero_add]; exact v4
  obtain ⟨W1, hW1⟩ : ∃ W1, W1 = w.drew.setCells g (0 + i * 3) vs := ⟨_, rfl⟩
  have hW : Hid (W1 = w.drew.setCells g (0 + i * 3) vs) := hW1
  rw [Nat.zero_add] at hW1
  rw [← hW1] at k5 K6
  have hcl : ∀ ty, (Builtin.clear_ #[24] ty #[.slice (some ⟨g, (i + r) * 3, none⟩) 1 (c - (i + r))]).run Tryz.prog W1 = .ok (.tuple #[]) (W1.setCells g ((i + r) * 3) zs) := fun ty => by
    rw [hz.out]
    exact run_clear1 W1 24 158 ty (.agg #[.int .i64 0, .int .i64 0, .slice none 0 0]) #[.int .i64 0, .int .i64 0, .slice none 0 0] Tryz.underlying24 (fun w => by kernel_rfl) (by kernel_rfl) (by intro v hv; simp at hv; rcases hv with rfl | rfl | rfl <;> rfl) g ((i + r) * 3) _ (fun j hj => (k5 j (by rw [hz.out]; simpa using hj)).1) (fun j hj => (k5 j (by rw [hz.out]; simpa using hj)).2)
  clear k5 v1 v2 v3 v4 hW1
  obtain ⟨i0, hi0', hz1⟩ : ∃ i0, Tryz.prog.info? 158 = some i0 ∧ i0.size = 3 := ⟨_, rfl, rfl⟩
  have hck : c ≠ i + r := by omega
  have hb3 : (0 : Int) ≤ (i : Int) + (r : Int) := by omega
  have hb4 : (i : Int) + (r : Int) ≤ (i : Int) + 1 + (r : Int) := by omega
  have hb5 : (i : Int) + 1 + (r : Int) ≤ (c : Int) := by omega
  have hn1 : i + 1 + r - (i + r) = 1 := by omega
  have hmo : Tryz.prog.follows .mixedOrders = true := by kernel_rfl
  have hb1 : (0 : Int) ≤ (i : Int) + 1 := by omega
  have hb2 : (i : Int) + 1 ≤ (i : Int) + 1 + (r : Int) := by omega
  have hic : i ≤ c := by omega
  have hjc : i + 1 ≤ c := by omega
  go_enter Tryz.func129, Tryz.ntmps129
  go_upto_region 5 with (fail)
  go_region_law_o (refine step_append_room rfl (.tmp 22) (.tmp 25) 24 rfl 158 i0 3 Tryz.underlying24 hi0' hz1 g 0 i c (by simp [Act.eval, Act.put]) Ad r (c - (i + 1)) vs (by simp [Act.eval, Act.put]; done) s1.out hsrc.out s2.out (by omega) s3.out ?_; rw [← hW.out])
  go_wp2
  go_ret
  rw [hW.out] at K6 ⊢
  exact ⟨rfl, K6.out, grown_trans36 (grown_trans36 (grown_drew36 w _) (grown_setCells g vs (0 + i * 3) w.drew)) (grown_setCells g zs _ _)⟩
end Go.Proofs.YtgndgkjefgjamaaGreat

namespace Go.Proofs.YtgndgkjefgjamaaGreat
open Go.RowKit Go.Shelf
attribute [local go_sem] Oper.semAt_some

theorem delL_zero (l : List Snp) : delL l 0 = l.eraseIdx 0 := by cases l <;> rfl
theorem delL_succ {l : List Snp} {j : Nat} (h : j + 1 < l.length) : delL l (j + 1) = (l.set j ((l[j]).1, (l[j]).2.1, foldL ((l[j + 1]).2.2 ++ (l[j]).2.2))).eraseIdx (j + 1) := by
  have hl : (l.take (j + 1)).length = j + 1 := by simp; omega
  have e := setLast_set (l := l.take (j + 1)) (by omega) (fun d => foldL ((l[j + 1]).2.2 ++ d))
  have e0 : (l.take (j + 1))[(l.take (j + 1)).length - 1]'(by omega) = l[j] := by simp [hl]
  rw [e0, hl, Nat.add_sub_cancel] at e
  have e1 : l.getD (j + 1) (0, 0, []) = l[j + 1] := by rw [List.getD_eq_getElem?_getD, List.getElem?_eq_getElem h]; rfl
  unfold delL
  simp only
  rw [e1, e, List.eraseIdx_eq_take_drop_succ, List.take_set, List.drop_set_of_lt (by omega)]
/-- what slices.Delete leaves of the items, beside the variables -/
def DelRet (g k c lo : Nat) (X : Nat → Prop) (l : List Snp) (w : World) (e : Ending) (w' : World) : Prop :=
  e = .returned (.slice (some ⟨g, 0, none⟩) (l.length - 1) c) ∧ OwnX X encSnp w' lo 158 (.slice (some ⟨g, 0, none⟩) (l.length - 1) c) (l.eraseIdx k) ∧ w.grownBy w' (some g)
theorem deleteX (g k m c lo : Nat) (X : Nat → Prop) (l : List Snp) (w : World) (ii jj : Int) (hii : ii = k) (hjj : jj = (k : Int) + 1) (hm : l.length = m) (hk : k < m) (h : OwnX X encSnp w lo 158 (.slice (some ⟨g, 0, none⟩) m c) l) (hmx : m ≤ 9223372036854775806) :
    Calls Tryz.prog 129 #[.slice (some ⟨g, 0, none⟩) m c, .int .i64 ii, .int .i64 jj] w (DelRet g k c lo X l w) := by
  subst hii hjj
  refine (deleteS_any g k (m - (k + 1)) m c lo _ l w hm (by omega) h.1 hmx).mono ?_
  rintro e w' ⟨rfl, h1, h2⟩
  have e1 : k + (m - (k + 1)) = l.length - 1 := by omega
  rw [e1] at h1 ⊢
  exact ⟨rfl, ⟨h1.more (fun b hb => ⟨hb.1.mono (Nat.le_refl _) h2.size, hb.2.1, hb.2.2⟩) (fun b hb hS => hS.2.2 hb), fun b hb => h.2 b hb⟩, h2⟩
set_option maxHeartbeats 4000000 in
set_option maxRecDepth 100000 in
theorem snDelete_any (A A2 : Option Addr) (c c2 n m : Nat) (im : Img) (l : List Snp) (num : Int) (w : World) (hn : im.length = n) (hm : l.length = m) (h1 : SlAt (encSl encSec) w (Bl w.heap.size) A im) (h2 : SlAt encSnp w (Bl w.heap.size) A2 l) (hL : SnLim im l) (hsv : ∀ x ∈ l, x.2.2.length ≤ 50000) :
    Calls Tryz.prog 77 #[.agg #[.slice A n c, .slice A2 m c2], .int .i64 num] w (SnRetE (sDelete (im, l) num) (findE (im, l) num) w) := by
  subst hn hm
  have H1 : Hid (∀ w', Below w.heap.size w w' → SlAt (encSl encSec) w' (Bl w.heap.size) A im) := fun w' hb => h1.below hb
  have H2 : Hid (∀ w', Below w.heap.size w w' → SlAt encSnp w' (Bl w.heap.size) A2 l) := fun w' hb => h2.below hb
  have HLM := Lib.hid hL
  have HSV := Lib.hid hsv
  have hl1 := hL.ims
  have hl2 := hL.its
  clear h1 h2 hL hsv
  obtain ⟨n0, hn0⟩ : ∃ n0, w.heap.size = n0 := ⟨_, rfl⟩
  obtain ⟨W0, hW0⟩ : ∃ W0, (w.alloc (.cells #[.slice A im.length c, .slice A2 l.length c2] 26)).alloc (.cells #[.slice none 0 0, .slice none 0 0] 26) = W0 := ⟨_, rfl⟩
  have hB0 : Below n0 w W0 := by rw [← hW0, ← hn0]; exact ext_alloc (ext_alloc (Below.refl _ _))
  have hs0 : n0 + 1 < W0.heap.size := by rw [← hW0, ← hn0]; simp
  have hr0 : W0.heap[n0]? = some (.cells #[.slice A im.length c, .slice A2 l.length c2] 26 (0, 0)) := by rw [← hW0, ← hn0]; exact (Below.heap_alloc _ _ _ (by simp)).trans (heap_alloc_new _ _)
  have hrz0 : W0.heap[n0 + 1]? = some (.cells #[.slice none 0 0, .slice none 0 0] 26 (0, 0)) := by rw [← hW0, ← hn0]; exact heap_new2 _ _ _
  have hBL : Hid (∀ (W : World) g, Below n0 w W → Bl w.heap.size g → Bl W.heap.size g) := fun W g hb hg => by have := hb.size; have h5 : g < w.heap.size := hg; show g < W.heap.size; omega
  have HCC : Hid (∀ W, Below W0.heap.size W0 W → W.cell? ⟨n0, 0, none⟩ = some (.slice A im.length c) ∧ W.cell? ⟨n0, 1, none⟩ = some (.slice A2 l.length c2)) := fun W hb => by
    obtain ⟨a, b, _⟩ := blk2 ((hb.block n0 (by omega)).trans hr0)
    exact ⟨a, b⟩
  have HRZ : Hid (∀ W, Below W0.heap.size W0 W → W.heap[n0 + 1]? = some (.cells #[.slice none 0 0, .slice none 0 0] 26 (0, 0))) := fun W hb => (hb.block (n0 + 1) hs0).trans hrz0
  obtain ⟨r, hr⟩ : ∃ r, Hid (findE (im, l) num = r) := ⟨_, rfl⟩
  obtain ⟨k, hk⟩ : ∃ k, Hid (findN (im, l) num = k) := ⟨_, rfl⟩
  have HCK := Lib.hid (snFind_any A A2 c c2 im.length l.length im l num W0 rfl rfl ((H1.out W0 (by rw [hn0]; exact hB0)).more (fun g hg => hBL.out W0 g hB0 hg)) ((H2.out W0 (by rw [hn0]; exact hB0)).more (fun g hg => hBL.out W0 g hB0 hg)) hl1 (by omega))
  rw [hr.out, hk.out] at HCK
  obtain ⟨c0, c1⟩ := HCC.out W0 (Below.refl _ _)
  clear hr0 hrz0
  go_enter Tryz.func77, Tryz.ntmps77
  go_wp2_with fail
  refine HCK.out.mono ?_
  rintro e w1 ⟨rfl, hb1⟩
  have hbw1 : Below n0 w w1 := hB0.trans (hb1.mono (by omega))
  have hz1 := hb1.size
  have hrz1 := HRZ.out w1 hb1
  clear HCK hW0 c0 c1
  by_cases hx0 : r = 0
  case neg =>
    have hx0' : (r != 0) = true := by simp [hx0]
    have hne : r ≠ 0 := hx0
    clear hx0
    have hE : Hid (findE (im, l) num = r) := hr.out
    have hS : Hid (sDelete (im, l) num = zSns) := by rw [Hid, sDelete, if_neg (by rw [hE.out]; exact hne)]
    obtain ⟨q0, q1, qf⟩ := blk2 hrz1
    clear hne
    go_wp2_with fail
    have hz := blk2_set hrz1 (.slice none 0 0) (.slice none 0 0)
    have hbe := ((hbw1.setCell (p := ⟨n0 + 1, 0, none⟩) (by show n0 ≤ n0 + 1; omega) (.slice none 0 0)).setCell (p := ⟨n0 + 1, 1, none⟩) (by show n0 ≤ n0 + 1; omega) (.slice none 0 0))
    have hse := (SnRet.zero (w := (w1.setCell ⟨n0 + 1, 0, none⟩ (.slice none 0 0)).setCell ⟨n0 + 1, 1, none⟩ (.slice none 0 0)) (lo := n0) (by simp [World.setCell]; omega))
    change bodyPost _ _ _ _ _ ((w1.setCell ⟨(n0 + 1), 0, none⟩ (.slice none 0 0)).setCell ⟨(n0 + 1), 1, none⟩ (.slice none 0 0))
    generalize (w1.setCell ⟨(n0 + 1), 0, none⟩ (.slice none 0 0)).setCell ⟨(n0 + 1), 1, none⟩ (.slice none 0 0) = W3 at hz hbe hse ⊢
    obtain ⟨z0, z1, _⟩ := blk2 hz
    refine bodyPost_ret (v := .tuple #[.agg #[(.slice none 0 0), (.slice none 0 0)], .int .i64 r]) ?_ rfl ?_
    · simp [results, Tryz.results77, Tryz.f77, go_sem, z0, z1]
    rw [hE.out, hS.out]
    exact ⟨none, 0, none, 0, n0, rfl, by rw [hn0]; exact hse, by rw [hn0]; exact hbe⟩
  have hx0' : (r != 0) = false := by simp [hx0]
  have hE : Hid (findE (im, l) num = 0) := by rw [Hid, hr.out, hx0]
  obtain ⟨_, hkl⟩ := findE_ok hE.out
  rw [hk.out] at hkl
  have hS : Hid (sDelete (im, l) num = (im, delL l k)) := by rw [Hid, sDelete, if_pos hE.out, hk.out]
  clear hx0 hr
  have HCP := Lib.hid (copied36_any A A2 c c2 im.length l.length im l w1 rfl rfl ((H1.out w1 (by rw [hn0]; exact hbw1)).more (fun g hg => hBL.out w1 g hbw1 hg)) ((H2.out w1 (by rw [hn0]; exact hbw1)).more (fun g hg => hBL.out w1 g hbw1 hg)) HLM.out)
  obtain ⟨c0, c1⟩ := HCC.out w1 hb1
  go_wp2_with fail
  refine HCP.out.mono ?_
  rintro e w3 ⟨B, vc, D, dc, mid, rfl, hsn, hb3⟩
  clear HCP c0 c1 hrz1
  go_upto_region 5 with (fail)
  obtain ⟨ob, hob⟩ : ∃ ob, w3.heap.size = ob := ⟨_, rfl⟩
  obtain ⟨w4, hw4⟩ : ∃ w4, w3.alloc (.cells #[.slice B im.length vc, .slice D l.length dc] 26) = w4 := ⟨_, rfl⟩
  rw [hw4, hob]
  have hb4 : Below w3.heap.size w3 w4 := by rw [← hw4]; exact ext_alloc (Below.refl _ _)
  have hr4 : w4.heap[ob]? = some (.cells #[.slice B im.length vc, .slice D l.length dc] 26 (0, 0)) := by rw [← hw4, ← hob]; exact heap_alloc_new _ _
  have hs4 : ob < w4.heap.size := (Array.getElem?_eq_some_iff.1 hr4).1
  have hz3 := hb3.size
  obtain ⟨k1, k2, k3, k4, k5, k6⟩ := hsn
  have hO4 : Hid (OwnX (fun g => g = ob) encSnp w4 mid 158 (.slice D l.length dc) l) := (k6.var (X' := fun g => g = ob) (fun g hg => Or.inr (by omega))).below hb4
  have hb04 : Below W0.heap.size W0 w4 := ext_trans (ext_trans hb1 hb3) hb4
  have hbw4 : Below n0 w w4 := hB0.trans (hb04.mono (by omega))
  have HA4 : Hid (SlAt (encSl encSec) w4 (Nw w1.heap.size mid) B im) := k5.blk (w' := w4) (fun g hg => hb4.block g (by have := hg.2; omega))
  have hvc : Hid (im.length ≤ vc ∧ vc ≤ maxLen) := ⟨k1, k2⟩
  have hmz : mid ≤ ob := by omega
  have hmid : w1.heap.size ≤ mid := k3
  clear k1 k2 k3 k5 k6 hw4 hb3 hb4
  obtain ⟨g, _, rfl, hg1, hg2, _⟩ := hO4.out.1.elem (i := k) hkl
  have hgob : Hid (g ≠ ob) := fun e => hO4.out.2 g rfl e
  obtain ⟨o0, o1, _⟩ := blk2 hr4
  cases k with
  | zero =>
    have hLS : Hid (delL l 0 = l.eraseIdx 0) := delL_zero l
    clear o0 o1
    have HDL := Lib.hid (deleteX g 0 l.length dc mid (fun g => g = ob) l w4 0 1 rfl rfl rfl hkl hO4.out (by omega))
    obtain ⟨o0, o1, of⟩ := blk2 hr4
    go_wp2_with fail
    refine HDL.out.mono ?_
    rintro e w7 ⟨rfl, hox, hg7⟩
    rw [show l.length = l.length from rfl] at hox ⊢
    have hz7 := hg7.size
    have hW := (hbw4).size
    have hro7 : w7.heap[ob]? = some (.cells #[.slice B im.length vc, .slice (some ⟨g, 0, none⟩) l.length dc] 26 (0, 0)) := (hg7.block ob (Array.getElem?_eq_some_iff.1 hr4).1 (fun e => by injection e with e; exact hgob.out e.symm)).trans hr4
    have hobz := (Array.getElem?_eq_some_iff.1 hr4).1
    have hrz7 : w7.heap[n0 + 1]? = some (.cells #[.slice none 0 0, .slice none 0 0] 26 (0, 0)) := (hg7.block (n0 + 1) (by omega) (fun e => by injection e with e; omega)).trans (HRZ.out w4 hb04)
    have hA7 : Hid (SlAt (encSl encSec) w7 (Nw w1.heap.size mid) B im) := (HA4.out).blk (fun b hb => hg7.block b (by have := hb.2; omega) (fun e => by injection e with e; have := hb.2; omega))
    have hB7 : Below n0 w w7 := (hbw4).grown hg7 (by omega) (fun b e => by injection e with e; omega)
    have hro8 := blk2_1 hro7 (.slice (some ⟨g, 0, none⟩) (l.length - 1) dc)
    have hrz8 := (heap_setCell_other w7 ⟨ob, 1, none⟩ (n0 + 1) (.slice (some ⟨g, 0, none⟩) (l.length - 1) dc) (by show n0 + 1 ≠ ob; omega)).trans hrz7
    have hO8 := Lib.hid (hox.set (p := ⟨ob, 1, none⟩) rfl (.slice (some ⟨g, 0, none⟩) (l.length - 1) dc))
    have hA8 : Hid (SlAt (encSl encSec) (w7.setCell ⟨ob, 1, none⟩ (.slice (some ⟨g, 0, none⟩) (l.length - 1) dc)) (Nw w1.heap.size mid) B im) := hA7.out.blk (fun g hg => heap_setCell_other _ _ _ _ (by have := hg.2; show g ≠ ob; omega))
    have hB8 : Below n0 w (w7.setCell ⟨ob, 1, none⟩ (.slice (some ⟨g, 0, none⟩) (l.length - 1) dc)) := hB7.setCell (p := ⟨ob, 1, none⟩) (by show n0 ≤ ob; omega) _
    have hz8 : mid ≤ (w7.setCell ⟨ob, 1, none⟩ (.slice (some ⟨g, 0, none⟩) (l.length - 1) dc)).heap.size := by simp [World.setCell]; omega
    clear o0 o1 of HDL hox hg7 hA7
    obtain ⟨o0, o1, of⟩ := blk2 hro7
    go_upto_region 10 with (fail)
    generalize w7.setCell ⟨ob, 1, none⟩ (.slice (some ⟨g, 0, none⟩) (l.length - 1) dc) = w8 at hro8 hrz8 hO8 hA8 hB8 hz8 ⊢
    clear o0 o1 of hro7 hrz7 hB7
    obtain ⟨o0, o1, _⟩ := blk2 hro8
    obtain ⟨q0, q1, qf⟩ := blk2 hrz8
    go_wp2_with fail
    have hz := blk2_set hrz8 (.slice B im.length vc) (.slice (some ⟨g, 0, none⟩) (l.length - 1) dc)
    have hbe := ((hB8.setCell (p := ⟨n0 + 1, 0, none⟩) (by show n0 ≤ n0 + 1; omega) (.slice B im.length vc)).setCell (p := ⟨n0 + 1, 1, none⟩) (by show n0 ≤ n0 + 1; omega) (.slice (some ⟨g, 0, none⟩) (l.length - 1) dc))
    have hse := (((show SnRet im (l.eraseIdx 0) B vc (some ⟨g, 0, none⟩) dc mid w1.heap.size w8 from ⟨hvc.out.1, hvc.out.2, by omega, hz8, hA8.out, by have := hO8.out.var (X' := fun _ => False) (fun g hg => hg.elim); rw [List.length_eraseIdx, if_pos (by rw [show l.length = l.length from rfl]; exact hkl), show l.length = l.length from rfl]; exact this⟩).set (p := ⟨n0 + 1, 0, none⟩) (by show n0 + 1 < w1.heap.size; omega) (.slice B im.length vc)).set (p := ⟨n0 + 1, 1, none⟩) (by show n0 + 1 < w1.heap.size; omega) (.slice (some ⟨g, 0, none⟩) (l.length - 1) dc))
    change bodyPost _ _ _ _ _ ((w8.setCell ⟨(n0 + 1), 0, none⟩ (.slice B im.length vc)).setCell ⟨(n0 + 1), 1, none⟩ (.slice (some ⟨g, 0, none⟩) (l.length - 1) dc))
    generalize (w8.setCell ⟨(n0 + 1), 0, none⟩ (.slice B im.length vc)).setCell ⟨(n0 + 1), 1, none⟩ (.slice (some ⟨g, 0, none⟩) (l.length - 1) dc) = W3 at hz hbe hse ⊢
    obtain ⟨z0, z1, _⟩ := blk2 hz
    refine bodyPost_ret (v := .tuple #[.agg #[(.slice B im.length vc), (.slice (some ⟨g, 0, none⟩) (l.length - 1) dc)], .int .i64 0]) ?_ rfl ?_
    · simp [results, Tryz.results77, Tryz.f77, go_sem, z0, z1]
    rw [hE.out, hS.out, hLS.out]
    exact ⟨B, vc, some ⟨g, 0, none⟩, dc, mid, by rw [List.length_eraseIdx, if_pos (by rw [show l.length = l.length from rfl]; exact hkl), show l.length = l.length from rfl], hse.low (by omega), by rw [hn0]; exact hbe⟩
  | succ j =>
    have hjl : j < l.length := by omega
    obtain ⟨ga, cs, ea, _, _, _, hcell, hfz, hrd⟩ := hO4.out.1.elem (i := j) hjl
    simp only [Option.some.injEq, Addr.mk.injEq, and_true] at ea
    subst ea
    obtain ⟨gb, cs2, eb, _, _, _, hcell2, _, hrd2⟩ := hO4.out.1.elem (i := j + 1) hkl
    simp only [Option.some.injEq, Addr.mk.injEq, and_true] at eb
    subst eb
    have hdel := delL_succ hkl
    have hv1 := HSV.out l[j] (List.getElem_mem hjl)
    have hv2 := HSV.out l[j + 1] (List.getElem_mem hkl)
    obtain ⟨x, hx⟩ : ∃ x, l[j] = x := ⟨_, rfl⟩
    obtain ⟨y, hy⟩ : ∃ y, l[j + 1] = y := ⟨_, rfl⟩
    rw [hx] at hrd hdel hv1
    rw [hy] at hrd2 hdel hv2
    obtain ⟨num1, tm1, sv1⟩ := x
    obtain ⟨num2, tm2, sv2⟩ := y
    obtain ⟨Dx, dx, rfl, i1, i2, j1, j2, j3⟩ := snp_cs hrd
    obtain ⟨Dy, dy, rfl, _, _, l1, l2, l3⟩ := snp_cs hrd2
    simp only at i1 i2 j1 j2 j3 l1 l2 l3 hdel hv1 hv2
    have d0 := hcell 0 _ rfl
    have d1 := hcell 1 _ rfl
    have d2 := hcell 2 _ rfl
    have t2 := hcell2 2 _ rfl
    simp only [show encSnp.size = 3 from rfl, Nat.add_zero] at d0 d1 d2 t2
    have HDEL := Lib.hid hdel
    have HI := Lib.hid (And.intro i1 i2)
    clear hcell hcell2 hrd hrd2 hdel hx hy i1 i2
    go_upto_region 7 with (fail)
    obtain ⟨ib, hib⟩ : ∃ ib, w4.heap.size = ib := ⟨_, rfl⟩
    obtain ⟨w5, hw5⟩ : ∃ w5, w4.alloc (.cells #[.int .i64 num1, .int .i64 tm1, .slice Dx sv1.length dx] 190) = w5 := ⟨_, rfl⟩
    rw [hw5, hib]
    have hb5 : Below w4.heap.size w4 w5 := by rw [← hw5]; exact ext_alloc (Below.refl _ _)
    have hr5 : w5.heap[ib]? = some (.cells #[.int .i64 num1, .int .i64 tm1, .slice Dx sv1.length dx] 190 (0, 0)) := by rw [← hw5, ← hib]; exact heap_alloc_new _ _
    have hs5 : ib < w5.heap.size := (Array.getElem?_eq_some_iff.1 hr5).1
    have hb05 : Below W0.heap.size W0 w5 := ext_trans hb04 hb5
    have hbw5 : Below n0 w w5 := hB0.trans (hb05.mono (by omega))
    have hj3 : Hid (SlAt encWr w5 (Bl w5.heap.size) Dx sv1) := (j3.blk (w' := w5) (fun g hg => hb5.block g hg.1.2)).more (fun g hg => by have := hg.1.2; show g < w5.heap.size; omega)
    have hl3 : Hid (SlAt encWr w5 (Bl w5.heap.size) Dy sv2) := (l3.blk (w' := w5) (fun g hg => hb5.block g hg.1.2)).more (fun g hg => by have := hg.1.2; show g < w5.heap.size; omega)
    have hsv7 := save_any ib num1 tm1 Dy Dx dy dx sv2.length sv2 sv1 w5 rfl hr5 hl3.out hj3.out ⟨l1, l2⟩ ⟨j1, j2⟩ (by omega)
    obtain ⟨rr, hrr⟩ : ∃ rr, foldL (sv2 ++ sv1) = rr := ⟨_, rfl⟩
    rw [hrr] at hsv7 HDEL
    have HSV7 := Lib.hid hsv7
    have HDD := Lib.hid (And.intro d0 (And.intro d1 d2))
    have hro5 := (hb5.block ob (by omega)).trans hr4
    have u2 : w5.cell? ⟨g, (j + 1) * 3 + 2, none⟩ = some (.slice Dy sv2.length dy) := (World.cell?_of_block (a := ⟨g, (j + 1) * 3 + 2, none⟩) (hb5.block g hg2)).trans (by simpa using t2)
    clear hsv7 o0 o1 d0 d1 d2 t2 j3 l3 hw5 hrr
    obtain ⟨o0, o1, _⟩ := blk2 hro5
    go_wp2_with fail
    refine HSV7.out.mono ?_
    rintro e w7 ⟨A8, c8, rfl, hr7, ⟨u1, u2', u3⟩, hg7⟩
    have hz7 := hg7.size
    have hz5 := hb5.size
    have hk7 : ∀ b, b < ib → w7.heap[b]? = w4.heap[b]? := fun b hb => (hg7.block b (by omega) (fun e => by injection e with e; omega)).trans (hb5.block b (by omega))
    have hro7 := (hk7 ob (by omega)).trans hr4
    have hO7 : Hid (OwnX (fun g => g = ob) encSnp w7 mid 158 (.slice (some ⟨g, 0, none⟩) l.length dc) l) := hO4.out.keep (by omega) (fun b _ hb _ => hk7 b (by omega))
    have hO8 : Hid (OwnX (fun g => g = ob) encSnp (st3 w7 g j (.int .i64 num1) (.int .i64 tm1) (.slice A8 rr.length c8)) mid 158 (.slice (some ⟨g, 0, none⟩) l.length dc) (l.set j (num1, tm1, rr))) :=
      hO7.out.storeS hjl HI.out.1 HI.out.2 u1 u2' (u3.more (fun b hb => ⟨⟨by have := hb.1; omega, hb.2⟩, by have := hb.1; omega, by have := hb.1; omega⟩))
    have hB7 : Below n0 w w7 := hbw5.trans ⟨hg7.os, hg7.tape, hg7.output, hz7, fun b hb => hg7.block b (by omega) (fun e => by injection e with e; omega)⟩
    have hB07 : Below W0.heap.size W0 w7 := hb05.trans ⟨hg7.os, hg7.tape, hg7.output, hz7, fun b hb => hg7.block b (by have := hb04.size; omega) (fun e => by have := hb04.size; injection e with e; omega)⟩
    have hA7 : Hid (SlAt (encSl encSec) (st3 w7 g j (.int .i64 num1) (.int .i64 tm1) (.slice A8 rr.length c8)) (Nw w1.heap.size mid) B im) := HA4.out.blk (fun b hb => (st3_other (by have := hb.2; omega)).trans (hk7 b (by have := hb.2; omega)))
    have hfz7 : ∀ j, w7.frozen? ⟨g, j, none⟩ = false := fun j => (World.frozen?_of_block (a := ⟨g, j, none⟩) (hk7 g (by omega))).trans (hfz j)
    have hB8 : Below n0 w (st3 w7 g j (.int .i64 num1) (.int .i64 tm1) (.slice A8 rr.length c8)) := ((hB7.setCell (p := ⟨g, j * 3, none⟩) (by show n0 ≤ g; omega) _).setCell (p := ⟨g, j * 3 + 1, none⟩) (by show n0 ≤ g; omega) _).setCell (p := ⟨g, j * 3 + 2, none⟩) (by show n0 ≤ g; omega) _
    have hB08 : Below W0.heap.size W0 (st3 w7 g j (.int .i64 num1) (.int .i64 tm1) (.slice A8 rr.length c8)) := ((hB07.setCell (p := ⟨g, j * 3, none⟩) (by show W0.heap.size ≤ g; omega) _).setCell (p := ⟨g, j * 3 + 1, none⟩) (by show W0.heap.size ≤ g; omega) _).setCell (p := ⟨g, j * 3 + 2, none⟩) (by show W0.heap.size ≤ g; omega) _
    have hro8 : (st3 w7 g j (.int .i64 num1) (.int .i64 tm1) (.slice A8 rr.length c8)).heap[ob]? = some (.cells #[.slice B im.length vc, .slice (some ⟨g, 0, none⟩) l.length dc] 26 (0, 0)) := (st3_other (fun e => hgob.out e.symm)).trans hro7
    clear o0 o1
    obtain ⟨o0, o1, _⟩ := blk2 hro7
    obtain ⟨x0, x1, x2, _⟩ := blk3 hr7
    have f0 := hfz7 (j * 3)
    have f1 := hfz7 (j * 3 + 1)
    have f2 := hfz7 (j * 3 + 2)
    have hkg := hk7 g (by omega)
    have d0 := (World.cell?_of_block (a := ⟨g, j * 3, none⟩) hkg).trans HDD.out.1
    have d1 := (World.cell?_of_block (a := ⟨g, j * 3 + 1, none⟩) hkg).trans HDD.out.2.1
    have d2 := (World.cell?_of_block (a := ⟨g, j * 3 + 2, none⟩) hkg).trans HDD.out.2.2
    clear HSV7 u3 hg7 hfz hfz7 hro7 hkg u2
    go_upto_region 9 with (fail)
    change Code.wp _ _ _ _ (st3 w7 g j (.int .i64 num1) (.int .i64 tm1) (.slice A8 rr.length c8))
    generalize st3 w7 g j (.int .i64 num1) (.int .i64 tm1) (.slice A8 rr.length c8) = w8 at hO8 hA7 hB8 hB08 hro8 ⊢
    clear o0 o1 x0 x1 x2 f0 f1 f2 d0 d1 d2
    obtain ⟨LS, hLSd⟩ : ∃ LS, Hid (l.set j (num1, tm1, rr) = LS) := ⟨_, rfl⟩
    have hLSl : Hid (LS.length = l.length) := by rw [← hLSd.out, Hid, List.length_set]
    rw [hLSd.out] at hO8 HDEL
    have hLS : Hid (delL l (j + 1) = LS.eraseIdx (j + 1)) := HDEL
    clear HDEL hLSd
    have hjj : ((j + 1 : Nat) : Int) = (j : Int) + 1 := by omega
    have HDL := Lib.hid (deleteX g (j + 1) l.length dc mid (fun g => g = ob) LS w8 ((j : Int) + 1) ((j : Int) + 1 + 1) (by omega) (by omega) hLSl.out hkl hO8.out (by omega))
    obtain ⟨o0, o1, of⟩ := blk2 hro8
    go_wp2_with fail
    refine HDL.out.mono ?_
    rintro e w7 ⟨rfl, hox, hg7⟩
    rw [show LS.length = l.length from hLSl.out] at hox ⊢
    have hz7 := hg7.size
    have hW := (hB8).size
    have hro7 : w7.heap[ob]? = some (.cells #[.slice B im.length vc, .slice (some ⟨g, 0, none⟩) l.length dc] 26 (0, 0)) := (hg7.block ob (Array.getElem?_eq_some_iff.1 hro8).1 (fun e => by injection e with e; exact hgob.out e.symm)).trans hro8
    have hobz := (Array.getElem?_eq_some_iff.1 hro8).1
    have hrz7 : w7.heap[n0 + 1]? = some (.cells #[.slice none 0 0, .slice none 0 0] 26 (0, 0)) := (hg7.block (n0 + 1) (by omega) (fun e => by injection e with e; omega)).trans (HRZ.out w8 hB08)
    have hA7 : Hid (SlAt (encSl encSec) w7 (Nw w1.heap.size mid) B im) := (hA7.out).blk (fun b hb => hg7.block b (by have := hb.2; omega) (fun e => by injection e with e; have := hb.2; omega))
    have hB7 : Below n0 w w7 := (hB8).grown hg7 (by omega) (fun b e => by injection e with e; omega)
    have hro8 := blk2_1 hro7 (.slice (some ⟨g, 0, none⟩) (l.length - 1) dc)
    have hrz8 := (heap_setCell_other w7 ⟨ob, 1, none⟩ (n0 + 1) (.slice (some ⟨g, 0, none⟩) (l.length - 1) dc) (by show n0 + 1 ≠ ob; omega)).trans hrz7
    have hO8 := Lib.hid (hox.set (p := ⟨ob, 1, none⟩) rfl (.slice (some ⟨g, 0, none⟩) (l.length - 1) dc))
    have hA8 : Hid (SlAt (encSl encSec) (w7.setCell ⟨ob, 1, none⟩ (.slice (some ⟨g, 0, none⟩) (l.length - 1) dc)) (Nw w1.heap.size mid) B im) := hA7.out.blk (fun g hg => heap_setCell_other _ _ _ _ (by have := hg.2; show g ≠ ob; omega))
    have hB8 : Below n0 w (w7.setCell ⟨ob, 1, none⟩ (.slice (some ⟨g, 0, none⟩) (l.length - 1) dc)) := hB7.setCell (p := ⟨ob, 1, none⟩) (by show n0 ≤ ob; omega) _
    have hz8 : mid ≤ (w7.setCell ⟨ob, 1, none⟩ (.slice (some ⟨g, 0, none⟩) (l.length - 1) dc)).heap.size := by simp [World.setCell]; omega
    clear o0 o1 of HDL hox hg7 hA7
    obtain ⟨o0, o1, of⟩ := blk2 hro7
    go_upto_region 10 with (fail)
    generalize w7.setCell ⟨ob, 1, none⟩ (.slice (some ⟨g, 0, none⟩) (l.length - 1) dc) = w8 at hro8 hrz8 hO8 hA8 hB8 hz8 ⊢
    clear o0 o1 of hro7 hrz7 hB7
    obtain ⟨o0, o1, _⟩ := blk2 hro8
    obtain ⟨q0, q1, qf⟩ := blk2 hrz8
    go_wp2_with fail
    have hz := blk2_set hrz8 (.slice B im.length vc) (.slice (some ⟨g, 0, none⟩) (l.length - 1) dc)
    have hbe := ((hB8.setCell (p := ⟨n0 + 1, 0, none⟩) (by show n0 ≤ n0 + 1; omega) (.slice B im.length vc)).setCell (p := ⟨n0 + 1, 1, none⟩) (by show n0 ≤ n0 + 1; omega) (.slice (some ⟨g, 0, none⟩) (l.length - 1) dc))
    have hse := (((show SnRet im (LS.eraseIdx (j + 1)) B vc (some ⟨g, 0, none⟩) dc mid w1.heap.size w8 from ⟨hvc.out.1, hvc.out.2, by omega, hz8, hA8.out, by have := hO8.out.var (X' := fun _ => False) (fun g hg => hg.elim); rw [List.length_eraseIdx, if_pos (by rw [show LS.length = l.length from hLSl.out]; exact hkl), show LS.length = l.length from hLSl.out]; exact this⟩).set (p := ⟨n0 + 1, 0, none⟩) (by show n0 + 1 < w1.heap.size; omega) (.slice B im.length vc)).set (p := ⟨n0 + 1, 1, none⟩) (by show n0 + 1 < w1.heap.size; omega) (.slice (some ⟨g, 0, none⟩) (l.length - 1) dc))
    change bodyPost _ _ _ _ _ ((w8.setCell ⟨(n0 + 1), 0, none⟩ (.slice B im.length vc)).setCell ⟨(n0 + 1), 1, none⟩ (.slice (some ⟨g, 0, none⟩) (l.length - 1) dc))
    generalize (w8.setCell ⟨(n0 + 1), 0, none⟩ (.slice B im.length vc)).setCell ⟨(n0 + 1), 1, none⟩ (.slice (some ⟨g, 0, none⟩) (l.length - 1) dc) = W3 at hz hbe hse ⊢
    obtain ⟨z0, z1, _⟩ := blk2 hz
    refine bodyPost_ret (v := .tuple #[.agg #[(.slice B im.length vc), (.slice (some ⟨g, 0, none⟩) (l.length - 1) dc)], .int .i64 0]) ?_ rfl ?_
    · simp [results, Tryz.results77, Tryz.f77, go_sem, z0, z1]
    rw [hE.out, hS.out, hLS.out]
    exact ⟨B, vc, some ⟨g, 0, none⟩, dc, mid, by rw [List.length_eraseIdx, if_pos (by rw [show LS.length = l.length from hLSl.out]; exact hkl), show LS.length = l.length from hLSl.out], hse.low (by omega), by rw [hn0]; exact hbe⟩
end Go.Proofs.YtgndgkjefgjamaaGreat
namespace Go.Proofs.YtgndgkjefgjamaaGreat
open Go.RowKit Go.Shelf
attribute [local go_sem] Oper.semAt_some

def sB (k : Int) : Sec := [k, 0, 0, 0, 0, 0, 0, 0]
theorem sB_ok {k : Int} (h : 0 ≤ k ∧ k < 256) : OkSec (sB k) := by
  refine ⟨rfl, fun x hx => ?_⟩
  simp [sB] at hx
  omega
end Go.Proofs.YtgndgkjefgjamaaGreat

namespace Go.Proofs.YtgndgkjefgjamaaGreat
open Go.RowKit Go.Shelf
attribute [local go_sem] Oper.semAt_some

set_option maxHeartbeats 2000000 in
theorem refSizesOf_any (A : Option Addr) (c n : Nat) (l : Img) (w : World) (hn : l.length = n) (h1 : SlAt (encSl encSec) w (Bl w.heap.size) A l) (hl : n ≤ 1000000) :
    Calls Tryz.prog 60 #[.slice A n c] w (RetSl encInt (lens l) w) := by
  subst hn
  have H1 : Hid (∀ w', Below w.heap.size w w' → SlAt (encSl encSec) w' (Bl w.heap.size) A l) := fun w' hb => h1.below hb
  clear h1
  go_enter Tryz.func60, Tryz.ntmps60
  go_wp2
  go_loopw [3, 4] (fun v i wr => ∃ (k : Nat) (B : Option Addr) (vc : Nat) (out : List Int), k ≤ l.length ∧ i = .int .i64 k ∧ v = .slice B out.length vc ∧ Below w.heap.size w wr ∧ Hid (out = lens (l.take k)) ∧ Hid (OwnW encInt wr w.heap.size w.heap.size 3 (.slice B out.length vc) out)) (fun _ i _ => l.length - (intOf i).toNat)
  case atStart => exact ⟨0, none, 0, [], by omega, rfl, rfl, Below.refl _ _, by simp [Hid, lens], Own.nil_⟩
  case round =>
    obtain ⟨k, B, vc, out, hk, rfl, rfl, hB, hout, hown⟩ := hrel
    by_cases hlt : k < l.length
    · have hnn : (0 : Int) ≤ k := by omega
      have hki : (k : Int) < l.length := by omega
      have hol : out.length ≤ k := by rw [hout.out]; simp [lens]; omega
      have hszr := hB.size
      obtain ⟨b, off, D, dc, rfl, hb, g0, hD, hn1, hn2⟩ := (H1.out wr hB).sl hlt
      have hn3 := hn2
      unfold maxLen at hn3
      have hst : Hid (lens (l.take (k + 1)) = lens (l.take k) ++ [(l[k].length : Int)]) := by rw [Hid, List.take_succ_eq_append_getElem hlt, lens, List.map_append]; rfl
      obtain ⟨q, hq⟩ : ∃ q, l[k].length = q := ⟨_, rfl⟩
      rw [hq] at g0 hn1 hst
      have hlt1 : ∀ g, (Value.slice B out.length vc).ownBlock = some g → g < wr.heap.size := fun g hg => (hown.out.lt g hg).2
      have HLT1 := Lib.hid hlt1; clear hlt1 hq
      have HO2 := Lib.hid (Own.alloc hown.out (fun _ h => h.1.2) (.cells #[.int .i64 (q : Int)] 3))
      have HRD : Hid (encInt.rd (wr.alloc (.cells #[.int .i64 (q : Int)] 3)) (fun b => Nw w.heap.size wr.heap.size b ∧ (Value.slice B out.length vc).ownBlock ≠ some b) [.int .i64 (q : Int)] (q : Int)) := ⟨rfl, by unfold I64; omega⟩
      go_wp2_with (at_builtin; refine Hid.out ?_)
      change wpList _ _ _ _ _ _
      refine wpList_app1 (E := encInt) tyInts rfl _ _ rfl rfl HO2.out (q : Int) [.int .i64 (q : Int)] rfl HRD.out (heap_alloc_new _ _) (fun _ h => by simp; have := h.1.2; omega) (by simp; omega) (by unfold maxLen; omega) (by omega) ?_
      intro A' c' w5 hown5 hg5 hat5
      have hok5 := Lib.hid (OwnW.app (hown5.more (S' := fun b => Nw w.heap.size (wr.alloc (.cells #[.int .i64 (q : Int)] 3)).heap.size b ∧ (Value.slice B out.length vc).ownBlock ≠ some b) (fun b hb => ⟨hb.1.mono (Nat.le_refl _) (by simp), hb.2⟩) (OwnW_new hown5 hat5 HLT1.out (by simp))) hg5 hat5)
      have hB5 := Lib.hid ((ext_alloc (o := .cells #[.int .i64 (q : Int)] 3) hB).grown hg5 (by simp; omega) (fun g h => (hown.out.lt g h).1))
      clear hown5 hg5 hat5 HO2 HRD
      go_wp2
      go_roundw
      case rel =>
        refine ⟨k + 1, A', c', out ++ [(q : Int)], hlt, by go_num, by simp, hB5.out, ?_, ?_⟩
        · rw [Hid, hst.out, hout.out]
        · have := hok5.out; simpa [Hid] using this
      case measure => simp [intOf]; omega
    · have hkk : k = l.length := by omega
      subst hkk
      go_wp2
      go_ret
      have e := hout.out
      rw [List.take_length] at e
      rw [← e]
      obtain ⟨_, p1, p2, p3⟩ := hown.out.parts
      exact ⟨B, vc, rfl, p1, p2, p3, hB⟩
theorem refCheck07_any (A : Option Addr) (c n : Nat) (l : Img) (w : World) (hn : l.length = n) (h1 : SlAt (encSl encSec) w (Bl w.heap.size) A l) (hl : n ≤ 1000000) (r : Int) (hr : sizesN (lens l) = r) :
    Calls Tryz.prog 110 #[.slice A n c] w fun e w' => e = .returned (.int .i64 r) ∧ Below w.heap.size w w' := by
  have HS := Lib.hid (refSizesOf_any A c n l w hn h1 hl)
  have hl2 : (lens l).length = n := by rw [lens_len, hn]
  have HR := Lib.hid hr
  clear h1 hr
  go_enter Tryz.func110, Tryz.ntmps110
  go_wp2_with fail
  refine HS.out.mono ?_
  rintro e w1 ⟨B, vc, rfl, p1, p2, p3, hb⟩
  have HZ := sizes_any B vc _ (lens l) w1 p3 (by rw [hl2]; omega)
  rw [hl2, HR.out] at HZ
  clear p3
  go_wp2_with fail
  refine HZ.mono ?_
  rintro e w2 ⟨rfl, rfl⟩
  go_wp2
  go_ret
  exact ⟨rfl, hb⟩
end Go.Proofs.YtgndgkjefgjamaaGreat

namespace Go.Proofs.YtgndgkjefgjamaaGreat
open Go.RowKit Go.Shelf
attribute [local go_sem] Oper.semAt_some

end Go.Proofs.YtgndgkjefgjamaaGreat

namespace Go.Proofs.YtgndgkjefgjamaaGreat
open Go.RowKit Go.Shelf
attribute [local go_sem] Oper.semAt_some

set_option maxHeartbeats 400000 in
theorem sameVol_any (A A' : Option Addr) (c c' : Nat) (S S' : Nat → Prop) (ss ts : List Sec) (w : World) (h1 : SlAt encSec w S A ss) (h2 : SlAt encSec w S' A' ts) (hs : ss.length ≤ 9223372036854775807) (ht : ts.length ≤ 9223372036854775807) :
    Calls Tryz.prog 71 #[.slice A ss.length c, .slice A' ts.length c'] w fun e w' => e = .returned (.bool (ss == ts)) ∧ Drew w w' := by
  by_cases hl : ss.length = ts.length
  · have hl' : (((ss.length : Nat) : Int) != (ts.length : Int)) = false := by simp [hl]
    have HL := Lib.hid hl; clear hl
    go_enter Tryz.func71, Tryz.ntmps71
    go_wp2
    go_loopw [5] (fun i wr => ∃ k : Nat, k ≤ ss.length ∧ i = .int .i64 k ∧ Drew w wr ∧ Hid (ss.take k = ts.take k)) (fun i _ => ss.length - (intOf i).toNat)
    case atStart => exact ⟨0, by omega, rfl, Drew.refl _, by simp [Hid]⟩
    case round =>
      obtain ⟨k, hk, rfl, hd, hp⟩ := hrel
      replace h1 := h1.drew hd
      replace h2 := h2.drew hd
      by_cases hlt : k < ss.length
      · have hlt2 : k < ts.length := by have := HL.out; omega
        obtain ⟨b, off, x0, x1, x2, x3, x4, x5, x6, x7, rfl, hb, hx, _, g0, g1, g2, g3, g4, g5, g6, g7⟩ := h1.sec hlt
        obtain ⟨b', off', y0, y1, y2, y3, y4, y5, y6, y7, rfl, hb', hy, _, k0, k1, k2, k3, k4, k5, k6, k7⟩ := h2.sec hlt2
        have HX := Lib.hid hx; clear hx
        have HY := Lib.hid hy; clear hy
        have hnn : (0 : Int) ≤ k := by omega
        have hki : (k : Int) < ss.length := by omega
        have hki2 : (k : Int) < ts.length := by omega
        have hq := fun W => run_eq_sec W x0 x1 x2 x3 x4 x5 x6 x7 y0 y1 y2 y3 y4 y5 y6 y7
        generalize hqq : ([x0, x1, x2, x3, x4, x5, x6, x7] == [y0, y1, y2, y3, y4, y5, y6, y7]) = q at hq
        have HQ := Lib.hid hqq; clear hqq
        go_wp2
        go_quiet (fail)
        cases q with
        | true =>
          go_wp2
          go_roundw
          case rel => exact ⟨k + 1, hlt, by go_num, hd.step _, take_succ_eq _ _ _ hlt hlt2 hp (by rw [HX.out, HY.out]; exact eq_of_beq HQ.out)⟩
          case measure => simp [intOf]; omega
        | false =>
          go_wp2
          go_ret
          refine ⟨ret_bool ?_, hd.step _⟩
          rw [eq_comm, beq_eq_false_iff_ne]
          intro e
          subst e
          rw [HX.out] at HY
          have := HY.out
          rw [this] at HQ
          simp [Hid] at HQ
      · have : k = ss.length := by omega
        subst this
        go_wp2
        go_ret
        refine ⟨ret_bool ?_, hd⟩
        have := hp.out
        rw [List.take_length, List.take_of_length_le (by rw [HL.out]; omega)] at this
        simp [this]
  · have hl' : (((ss.length : Nat) : Int) != (ts.length : Int)) = true := by simp; omega
    have HL := Lib.hid hl; clear hl
    go_enter Tryz.func71, Tryz.ntmps71
    go_wp2
    go_ret
    refine ⟨ret_bool ?_, Drew.refl _⟩
    rw [eq_comm, beq_eq_false_iff_ne]
    intro e
    exact HL.out (by rw [e])

theorem ne_at07 {l m : Img} {k : Nat} (h1 : k < l.length) (h2 : k < m.length) (h : l[k] ≠ m[k]) : (l == m) = false := by
  rw [beq_eq_false_iff_ne]; intro e; subst e; exact h rfl
set_option maxHeartbeats 1000000 in
theorem sameImg07_any (A A' : Option Addr) (c c' : Nat) (S S' : Nat → Prop) (l m : Img) (w : World) (h1 : SlAt (encSl encSec) w S A l) (h2 : SlAt (encSl encSec) w S' A' m) (hs : l.length ≤ 9223372036854775807) (_ht : m.length ≤ 9223372036854775807) :
    Calls Tryz.prog 23 #[.slice A l.length c, .slice A' m.length c'] w fun e w' => e = .returned (.bool (l == m)) ∧ Drew w w' := by
  by_cases hl : l.length = m.length
  · have hl' : (((l.length : Nat) : Int) != (m.length : Int)) = false := by simp [hl]
    have HL := Lib.hid hl; clear hl
    go_enter Tryz.func23, Tryz.ntmps23
    go_wp2
    go_loopw [5] (fun i wr => ∃ k : Nat, k ≤ l.length ∧ i = .int .i64 k ∧ Drew w wr ∧ Hid (l.take k = m.take k)) (fun i _ => l.length - (intOf i).toNat)
    case atStart => exact ⟨0, by omega, rfl, Drew.refl _, by simp [Hid]⟩
    case round =>
      obtain ⟨k, hk, rfl, hd, hp⟩ := hrel
      replace h1 := h1.drew hd
      replace h2 := h2.drew hd
      by_cases hlt : k < l.length
      · have hlt2 : k < m.length := by have := HL.out; omega
        obtain ⟨b, off, D, dc, rfl, hb, g0, hD, hn1, hn2⟩ := h1.sl hlt
        obtain ⟨b', off', D', dc', rfl, hb', k0, hD', hn3, hn4⟩ := h2.sl hlt2
        have hnn : (0 : Int) ≤ k := by omega
        have hki : (k : Int) < l.length := by omega
        have hki2 : (k : Int) < m.length := by omega
        have hc := fun n => sameVol_any D D' dc dc' S S' l[k] m[k] (wr.drewN n) hD hD' (by unfold maxLen at hn2; omega) (by unfold maxLen at hn4; omega)
        have HC := Lib.hid hc; clear hc hn1 hn2 hn3 hn4
        have HP := Lib.hid hp; clear hp
        generalize hq : (l[k] == m[k]) = q at HC
        have HQ := Lib.hid hq; clear hq
        go_wp2
        go_quiet ((go_at_call 71; exact Calls.quiet_of (HC.out _)))
        cases q with
        | true =>
          go_wp2
          go_roundw
          case rel => exact ⟨k + 1, hlt, by go_num, hd.step _, take_succ_eq _ _ _ hlt hlt2 HP.out (eq_of_beq HQ.out)⟩
          case measure => simp [intOf]; omega
        | false =>
          go_wp2
          go_ret
          refine ⟨ret_bool (ne_at07 hlt hlt2 ?_).symm, hd.step _⟩
          intro e
          have := HQ.out
          rw [e] at this
          simp at this
      · have : k = l.length := by omega
        subst this
        go_wp2
        go_ret
        refine ⟨ret_bool ?_, hd⟩
        have := hp.out
        rw [HL.out] at this
        rw [List.take_length, ← HL.out, List.take_length] at this
        simp [this]
  · have hl' : (((l.length : Nat) : Int) != (m.length : Int)) = true := by simp; omega
    have HL := Lib.hid hl; clear hl
    go_enter Tryz.func23, Tryz.ntmps23
    go_wp2
    go_ret
    refine ⟨ret_bool ?_, Drew.refl _⟩
    rw [eq_comm, beq_eq_false_iff_ne]
    intro e
    exact HL.out (by rw [e])
end Go.Proofs.YtgndgkjefgjamaaGreat
namespace Go.Proofs.YtgndgkjefgjamaaGreat
open Go.RowKit Go.Shelf
attribute [local go_sem] Oper.semAt_some

set_option maxRecDepth 100000 in
set_option maxHeartbeats 4000000 in
theorem refSnCheck_any (A A2 : Option Addr) (c c2 n m : Nat) (im : Img) (l : List Snp) (r : Int) (w : World) (hn : im.length = n) (hm : l.length = m) (hr : snE (im, l) = r) (h1 : SlAt (encSl encSec) w (Bl w.heap.size) A im) (h2 : SlAt encSnp w (Bl w.heap.size) A2 l) (hl1 : n ≤ 100000) (hl2 : m ≤ 9223372036854775807) :
    Calls Tryz.prog 54 #[.agg #[.slice A n c, .slice A2 m c2]] w fun e w' => e = .returned (.int .i64 r) ∧ Below w.heap.size w w' := by
  subst hn hm
  have HR := Lib.hid hr; clear hr
  have H1 : Hid (∀ w', Below w.heap.size w w' → SlAt (encSl encSec) w' (Bl w.heap.size) A im) := fun w' hb => h1.below hb
  have H2 : Hid (∀ w', Below w.heap.size w w' → SlAt encSnp w' (Bl w.heap.size) A2 l) := fun w' hb => h2.below hb
  clear h1 h2
  obtain ⟨n0, hn0⟩ : ∃ n0, w.heap.size = n0 := ⟨_, rfl⟩
  obtain ⟨W0, hW0⟩ : ∃ W0, w.alloc (.cells #[.slice A im.length c, .slice A2 l.length c2] 26) = W0 := ⟨_, rfl⟩
  have hB0 : Below n0 w W0 := by rw [← hW0, ← hn0]; exact ext_alloc (Below.refl _ _)
  have hr0 : W0.heap[n0]? = some (.cells #[.slice A im.length c, .slice A2 l.length c2] 26 (0, 0)) := by rw [← hW0, ← hn0]; exact heap_alloc_new _ _
  have hs0 : n0 < W0.heap.size := (Array.getElem?_eq_some_iff.1 hr0).1
  have hBL : Hid (∀ (W : World), Below n0 w W → ∀ g, Bl w.heap.size g → Bl W.heap.size g) := fun W hb g hg => by have h := hb.size; have : g < w.heap.size := hg; show g < W.heap.size; omega
  have HCC : Hid (∀ W, Below W0.heap.size W0 W → W.cell? ⟨n0, 0, none⟩ = some (.slice A im.length c) ∧ W.cell? ⟨n0, 1, none⟩ = some (.slice A2 l.length c2)) := fun W hb => by
    obtain ⟨a, b, _⟩ := blk2 ((hb.block n0 (by omega)).trans hr0)
    exact ⟨a, b⟩
  obtain ⟨z, hz⟩ : ∃ z, Hid (sizesN (lens im) = z) := ⟨_, rfl⟩
  have HCK := Lib.hid (refCheck07_any A c im.length im W0 rfl ((H1.out W0 (by rw [hn0]; exact hB0)).more (hBL.out W0 hB0)) (by omega) z hz.out)
  obtain ⟨c0, c1⟩ := HCC.out W0 (Below.refl _ _)
  clear hr0
  go_enter Tryz.func54, Tryz.ntmps54
  go_wp2_with fail
  refine HCK.out.mono ?_
  rintro e w1 ⟨rfl, hb1⟩
  have hbw1 : Below n0 w w1 := hB0.trans (hb1.mono (by omega))
  clear HCK hW0 c0 c1
  by_cases hx0 : z = 0
  case neg =>
    have hx0' : (z != 0) = true := by simp [hx0]
    have hE : Hid (r = z) := by rw [Hid, ← HR.out, snE, if_pos (by simp only; rw [hz.out]; exact hx0), hz.out]
    clear hx0
    go_wp2_with fail
    go_ret
    rw [hE.out]
    exact ⟨rfl, by rw [hn0]; exact hbw1⟩
  have hx0' : (z != 0) = false := by simp [hx0]
  have HOK : Hid (sizesN (lens im) = 0) := by rw [Hid, hz.out, hx0]
  clear hx0 hz
  obtain ⟨c0, c1⟩ := HCC.out w1 hb1
  by_cases hx1 : 1024 < l.length
  · have hE : Hid (r = 6) := by rw [Hid, ← HR.out, snE, if_neg (by simp only; rw [HOK.out]; simp), if_pos hx1]
    have hx1' : (1024 : Int) < l.length := by omega
    clear hx1
    go_wp2_with fail
    go_ret
    rw [hE.out]
    exact ⟨rfl, by rw [hn0]; exact hbw1⟩
  have hE : Hid (r = snpsE (lens im) (-1) 0 l) := by rw [Hid, ← HR.out, snE, if_neg (by simp only; rw [HOK.out]; simp), if_neg hx1]
  have hx1' : ¬ (1024 : Int) < l.length := by omega
  go_wp2_with fail
  clear c0 c1 hx1'
  go_loopw [4] (fun i wr => ∃ k : Nat, k ≤ l.length ∧ i = .int .i64 k ∧ Below W0.heap.size W0 wr ∧ Hid (snpsE (lens im) (-1) 0 (l.take k) = 0)) (fun i _ => l.length - (intOf i).toNat)
  case atStart => exact ⟨0, by omega, rfl, hb1, by simp [Hid, snpsE]⟩
  case round =>
    obtain ⟨k, hk, rfl, hB, hp⟩ := hrel
    obtain ⟨c0, c1⟩ := HCC.out wr hB
    have hbw : Below n0 w wr := hB0.trans (hB.mono (by omega))
    by_cases hlt : k < l.length
    · obtain ⟨b, off, D, dc, rfl, hb, g0, g1, g2, hD, hd1, hd2, hi1, hi2⟩ := (H2.out wr (by rw [hn0]; exact hbw)).snp hlt
      have hki : (k : Int) < l.length := by omega
      have hnn : (0 : Int) ≤ k := by omega
      have hszr := hB.size
      have hstep : Hid (snpsE (lens im) (-1) 0 (l.take (k + 1)) = snpE (lens im) (lastN (l.take k)) (lastT (l.take k)) l[k]) := snpsE_step hp.out hlt
      have hbad : Hid (∀ v, snpE (lens im) (lastN (l.take k)) (lastT (l.take k)) l[k] = v → v ≠ 0 → r = v) := fun v h1 h2 => by rw [hE.out, snpsE_bad (k := k) (by rw [hstep.out, h1]; exact h2), hstep.out, h1]
      have hpre : Hid (∀ j, k = j + 1 → ∃ (hj : j < l.length), lastN (l.take k) = l[j].1 ∧ lastT (l.take k) = l[j].2.1 ∧ wr.cell? ⟨b, off + j * 3, none⟩ = some (.int .i64 l[j].1) ∧ wr.cell? ⟨b, off + j * 3 + 1, none⟩ = some (.int .i64 l[j].2.1)) := fun j hj => by
        subst hj
        obtain ⟨b', off', D', dc', e', _, k0, k1, _⟩ := (H2.out wr (by rw [hn0]; exact hbw)).snp (k := j) (by omega)
        simp only [Option.some.injEq, Addr.mk.injEq, and_true] at e'
        obtain ⟨rfl, rfl⟩ := e'
        exact ⟨by omega, (lastN_take (by omega)).1, (lastN_take (by omega)).2, k0, k1⟩
      obtain ⟨x, hx⟩ : ∃ x, l[k] = x := ⟨_, rfl⟩
      rw [hx] at g0 g1 g2 hD hd1 hi1 hi2 hstep hbad
      obtain ⟨num, tm, sv⟩ := x
      simp only at g0 g1 g2 hD hd1 hi1 hi2
      clear hx
      obtain ⟨W5, hW5⟩ : ∃ W5, wr.alloc (.cells #[.int .i64 num, .int .i64 tm, .slice D sv.length dc] 158) = W5 := ⟨_, rfl⟩
      have hb5 : Below wr.heap.size wr W5 := by rw [← hW5]; exact ext_alloc (Below.refl _ _)
      have hr5 : W5.heap[wr.heap.size]? = some (.cells #[.int .i64 num, .int .i64 tm, .slice D sv.length dc] 158 (0, 0)) := by rw [← hW5]; exact heap_alloc_new _ _
      have hb05 : Below W0.heap.size W0 W5 := ext_trans hB hb5
      have HW5 := Lib.hid hW5
      clear hW5
      go_upto_region 10 with (fail)
      rw [HW5.out]
      have hbw5 : Below n0 w W5 := hB0.trans (hb05.mono (by omega))
      clear c0 c1 g0 g1 g2
      obtain ⟨c0, c1⟩ := HCC.out W5 hb05
      obtain ⟨x0, x1, x2, _⟩ := blk3 hr5
      by_cases e1 : num < 0
      · have hq : Hid (r = 2) := hbad.out 2 (by unfold snpE; rw [if_pos (by simp [inT]; omega)]) (by decide)
        go_wp2_with fail
        go_ret
        rw [hq.out]
        exact ⟨rfl, by first | exact hbw5 | (rw [hn0]; exact hbw5)⟩
      by_cases e2 : 1073741824 < num
      · have hq : Hid (r = 2) := hbad.out 2 (by unfold snpE; rw [if_pos (by simp [inT]; omega)]) (by decide)
        go_wp2_with fail
        go_ret
        rw [hq.out]
        exact ⟨rfl, by first | exact hbw5 | (rw [hn0]; exact hbw5)⟩
      have e1' : decide (num < 0) = false := decide_eq_false e1
      have e2' : decide (1073741824 < num) = false := decide_eq_false e2
      cases k with
      | zero =>
        have hd : decide ((0 : Int) < ((0 : Nat) : Int)) = false := by decide
        go_upto_region 12 with (fail)
        go_quiet (fail)
        have hl0 : lastN (l.take 0) = -1 ∧ lastT (l.take 0) = 0 := by simp [lastN, lastT]
        rw [hl0.1, hl0.2] at hstep hbad
        have hn1 : inT num = true := by simp [inT]; omega
        generalize hWq : W5.drewN _ = W6
        have hb6 : Below n0 w W6 := by rw [← hWq]; exact ⟨hbw5.os, hbw5.tape, hbw5.output, hbw5.size, hbw5.block⟩
        have hb06 : Below W0.heap.size W0 W6 := by rw [← hWq]; exact ⟨hb05.os, hb05.tape, hb05.output, hb05.size, hb05.block⟩
        have z1 : W6.cell? ⟨wr.heap.size, 1, none⟩ = some (.int .i64 tm) := by rw [← hWq]; exact x1
        have z2 : W6.cell? ⟨wr.heap.size, 2, none⟩ = some (.slice D sv.length dc) := by rw [← hWq]; exact x2
        by_cases t1 : tm < 0
        · have t1' : decide (tm < 0) = true := decide_eq_true t1
          have hq : Hid (r = 24) := hbad.out 24 (by unfold snpE; rw [if_neg (by simp [hn1]), if_neg (by simp only; omega), if_pos (Or.inl (by simp [inT]; omega))]) (by decide)
          go_upto_region 14 with (fail)
          go_quiet (fail)
          go_wp2_with fail
          go_ret
          rw [hq.out]
          exact ⟨rfl, ⟨hb6.os, hb6.tape, hb6.output, hb6.size, fun k hk => hb6.block k (by omega)⟩⟩
        have t1' : decide (tm < 0) = false := decide_eq_false t1
        by_cases t2 : 1073741824 < tm
        · have t2' : decide (1073741824 < tm) = true := decide_eq_true t2
          have hq : Hid (r = 24) := hbad.out 24 (by unfold snpE; rw [if_neg (by simp [hn1]), if_neg (by simp only; omega), if_pos (Or.inl (by simp [inT]; omega))]) (by decide)
          go_upto_region 14 with (fail)
          go_quiet (fail)
          go_wp2_with fail
          go_ret
          rw [hq.out]
          exact ⟨rfl, ⟨hb6.os, hb6.tape, hb6.output, hb6.size, fun k hk => hb6.block k (by omega)⟩⟩
        have t2' : decide (1073741824 < tm) = false := decide_eq_false t2
        have hn2 : inT tm = true := by simp [inT]; omega
        have hfin : Hid (snpE (lens im) (-1) 0 (num, tm, sv) = chkS sv (lens im)) := by rw [Hid]; unfold snpE; rw [if_neg (by simp [hn1]), if_neg (by simp only; omega), if_neg (by simp [hn2]; omega)]
        go_upto_region 14 with (fail)
        go_quiet (fail)
        generalize hWr : W6.drewN _ = W7
        have hb7 : Below n0 w W7 := by rw [← hWr]; exact ⟨hb6.os, hb6.tape, hb6.output, hb6.size, fun k hk => hb6.block k (by omega)⟩
        have hb07 : Below W0.heap.size W0 W7.drew := by rw [← hWr]; exact ⟨hb06.os, hb06.tape, hb06.output, hb06.size, hb06.block⟩
        have v2 : W7.drew.cell? ⟨wr.heap.size, 2, none⟩ = some (.slice D sv.length dc) := by rw [← hWr]; exact z2
        obtain ⟨d0, d1⟩ := HCC.out W7.drew hb07
        have hb7d : Below n0 w W7.drew := hb7.drew
        have HSZ := Lib.hid (refSizesOf_any A c im.length im W7.drew rfl ((H1.out W7.drew (by rw [hn0]; exact hb7d)).more (hBL.out W7.drew hb7d)) (by omega))
        clear z1 z2 c0 c1 x0 x1 x2
        have hib7 : wr.heap.size < W7.drew.heap.size := by rw [← hWr, ← hWq]; exact (Array.getElem?_eq_some_iff.1 hr5).1
        have HSV : Hid (∀ W, Below W7.drew.heap.size W7.drew W → SlAt encWr W (Bl W.heap.size) D sv) := fun W hb => (hD.blk (w' := W) (fun g hg => ((hb.block g (by have : g < w.heap.size := hg; have := hb7d.size; omega)).trans ((hb7d.block g (by have : g < w.heap.size := hg; omega)).trans ((hbw.block g (by have : g < w.heap.size := hg; omega)).symm))))).more (fun g hg => by have : g < w.heap.size := hg; have h1 := hb7d.size; have h2 := hb.size; show g < W.heap.size; omega)
        have hll : (lens im).length = im.length := lens_len im
        obtain ⟨q, hq⟩ : ∃ q, Hid (chkS sv (lens im) = q) := ⟨_, rfl⟩
        have hsvl : sv.length ≤ 9223372036854775807 := by unfold maxLen at hd2; omega
        go_upto_region 16 with (fail)
        go_region_law (first | (go_simp; go_at_call 59; refine HCH.out.mono ?_; rintro e w9 ⟨rfl, hb9⟩) | (go_simp; go_at_call 60; refine HSZ.out.mono ?_; rintro e w8 ⟨Z, zc, rfl, s1, s2, s3, hb8⟩; have v3 := (World.cell?_of_block (a := ⟨wr.heap.size, 2, none⟩) (hb8.block wr.heap.size hib7)).trans v2; have HCH := Lib.hid (refCheck_any D Z dc zc sv (lens im) w8 (HSV.out w8 hb8) hsvl (s3.more (fun g hg => hg.2)) (by rw [hll]; omega) q hq.out); rw [hll] at HCH ⊢))
        all_goals
          have hbz : Below W7.drew.heap.size W7.drew w9 := ext_trans hb8 hb9
          have hb9w : Below n0 w w9 := hb7d.trans (hbz.mono (by have := hb7d.size; omega))
          have hb09 : Below W0.heap.size W0 w9 := ext_trans hb07 hbz
          by_cases hq0 : q = 0
          · have hq0' : (q != 0) = false := by simp [hq0]
            have hnext : Hid (snpsE (lens im) (-1) 0 (l.take (0 + 1)) = 0) := by rw [Hid, hstep.out, hfin.out, hq.out, hq0]
            clear hq0 v2 v3 d0 d1 s3 HCH
            go_wp2_with fail
            go_roundw
            case rel => exact ⟨0 + 1, hlt, by go_num, hb09, hnext.out⟩
            case measure => simp [intOf]; omega
          · have hq0' : (q != 0) = true := by simp [hq0]
            have hqr : Hid (r = q) := hbad.out q (by rw [hfin.out, hq.out]) hq0
            clear hq0 v2 v3 d0 d1 s3 HCH
            go_wp2_with fail
            go_ret
            rw [hqr.out]
            exact ⟨rfl, by first | exact hb9w | (rw [hn0]; exact hb9w)⟩
      | succ j =>
        obtain ⟨hj, hln, hlt2, y0, y1⟩ := hpre.out j rfl
        have e5 : ((j + 1 : Nat) : Int) = (j : Int) + 1 := by omega
        obtain ⟨ln, hlnx⟩ : ∃ x, l[j].1 = x := ⟨_, rfl⟩
        obtain ⟨lt, hltx⟩ : ∃ x, l[j].2.1 = x := ⟨_, rfl⟩
        rw [hlnx] at hln y0
        rw [hltx] at hlt2 y1
        rw [hln, hlt2] at hstep hbad
        have hbwr : b < wr.heap.size := by have : b < w.heap.size := hb; have := hbw.size; omega
        have y0' : W5.cell? ⟨b, off + j * 3, none⟩ = some (.int .i64 ln) := (hb5.cell (p := ⟨b, off + j * 3, none⟩) hbwr).trans y0
        have y1' : W5.cell? ⟨b, off + j * 3 + 1, none⟩ = some (.int .i64 lt) := (hb5.cell (p := ⟨b, off + j * 3 + 1, none⟩) hbwr).trans y1
        have hjl : (j : Int) < l.length := by omega
        have hjn : (0 : Int) ≤ j := by omega
        clear hpre hlnx hltx y0 y1 hln hlt2
        rw [e5] at hki hnn ⊢
        have hd : decide ((0 : Int) < (j : Int) + 1) = true := decide_eq_true (by omega)
        have hn1 : inT num = true := by simp [inT]; omega
        by_cases n1 : num ≤ ln
        · have hq : Hid (r = 8) := hbad.out 8 (by unfold snpE; rw [if_neg (by simp [hn1]), if_pos (by simp only; omega)]) (by decide)
          have n1' : decide (num ≤ ln) = true := decide_eq_true n1
          go_upto_region 12 with (fail)
          go_quiet (fail)
          generalize hWq : W5.drewN _ = W6
          have hb6 : Below n0 w W6 := by rw [← hWq]; exact ⟨hbw5.os, hbw5.tape, hbw5.output, hbw5.size, hbw5.block⟩
          have hb06 : Below W0.heap.size W0 W6 := by rw [← hWq]; exact ⟨hb05.os, hb05.tape, hb05.output, hb05.size, hb05.block⟩
          have z1 : W6.cell? ⟨wr.heap.size, 1, none⟩ = some (.int .i64 tm) := by rw [← hWq]; exact x1
          have z2 : W6.cell? ⟨wr.heap.size, 2, none⟩ = some (.slice D sv.length dc) := by rw [← hWq]; exact x2
          go_wp2_with fail
          go_ret
          rw [hq.out]
          exact ⟨rfl, by first | exact hb6 | (rw [hn0]; exact hb6)⟩
        have n1' : decide (num ≤ ln) = false := decide_eq_false n1
        go_upto_region 12 with (fail)
        go_quiet (fail)
        generalize hWq : W5.drewN _ = W6
        have hb6 : Below n0 w W6 := by rw [← hWq]; exact ⟨hbw5.os, hbw5.tape, hbw5.output, hbw5.size, hbw5.block⟩
        have hb06 : Below W0.heap.size W0 W6 := by rw [← hWq]; exact ⟨hb05.os, hb05.tape, hb05.output, hb05.size, hb05.block⟩
        have z1 : W6.cell? ⟨wr.heap.size, 1, none⟩ = some (.int .i64 tm) := by rw [← hWq]; exact x1
        have z2 : W6.cell? ⟨wr.heap.size, 2, none⟩ = some (.slice D sv.length dc) := by rw [← hWq]; exact x2
        have u1 : W6.cell? ⟨b, off + j * 3 + 1, none⟩ = some (.int .i64 lt) := by rw [← hWq]; exact y1'
        obtain ⟨k0, k1⟩ := HCC.out W6 hb06
        clear c0 c1 x0 x1 x2 y0' y1'
        by_cases t1 : tm < 0
        · have t1' : decide (tm < 0) = true := decide_eq_true t1
          have hq : Hid (r = 24) := hbad.out 24 (by unfold snpE; rw [if_neg (by simp [hn1]), if_neg (by simp only; omega), if_pos (Or.inl (by simp [inT]; omega))]) (by decide)
          go_upto_region 14 with (fail)
          go_quiet (fail)
          go_wp2_with fail
          go_ret
          rw [hq.out]
          exact ⟨rfl, ⟨hb6.os, hb6.tape, hb6.output, hb6.size, fun k hk => hb6.block k (by omega)⟩⟩
        have t1' : decide (tm < 0) = false := decide_eq_false t1
        by_cases t2 : 1073741824 < tm
        · have t2' : decide (1073741824 < tm) = true := decide_eq_true t2
          have hq : Hid (r = 24) := hbad.out 24 (by unfold snpE; rw [if_neg (by simp [hn1]), if_neg (by simp only; omega), if_pos (Or.inl (by simp [inT]; omega))]) (by decide)
          go_upto_region 14 with (fail)
          go_quiet (fail)
          go_wp2_with fail
          go_ret
          rw [hq.out]
          exact ⟨rfl, ⟨hb6.os, hb6.tape, hb6.output, hb6.size, fun k hk => hb6.block k (by omega)⟩⟩
        have t2' : decide (1073741824 < tm) = false := decide_eq_false t2
        have hn2 : inT tm = true := by simp [inT]; omega
        by_cases t3 : tm < lt
        · have t3' : decide (tm < lt) = true := decide_eq_true t3
          have hq : Hid (r = 24) := hbad.out 24 (by unfold snpE; rw [if_neg (by simp [hn1]), if_neg (by simp only; omega), if_pos (Or.inr (by simp only; omega))]) (by decide)
          go_upto_region 14 with (fail)
          go_quiet (fail)
          go_wp2_with fail
          go_ret
          rw [hq.out]
          exact ⟨rfl, ⟨hb6.os, hb6.tape, hb6.output, hb6.size, fun k hk => hb6.block k (by omega)⟩⟩
        have t3' : decide (tm < lt) = false := decide_eq_false t3
        have hfin : Hid (snpE (lens im) ln lt (num, tm, sv) = chkS sv (lens im)) := by rw [Hid]; unfold snpE; rw [if_neg (by simp [hn1]), if_neg (by simp only; omega), if_neg (by simp [hn2]; omega)]
        go_upto_region 14 with (fail)
        go_quiet (fail)
        generalize hWr : W6.drewN _ = W7
        have hb7 : Below n0 w W7 := by rw [← hWr]; exact ⟨hb6.os, hb6.tape, hb6.output, hb6.size, fun k hk => hb6.block k (by omega)⟩
        have hb07 : Below W0.heap.size W0 W7.drew := by rw [← hWr]; exact ⟨hb06.os, hb06.tape, hb06.output, hb06.size, hb06.block⟩
        have v2 : W7.drew.cell? ⟨wr.heap.size, 2, none⟩ = some (.slice D sv.length dc) := by rw [← hWr]; exact z2
        obtain ⟨d0, d1⟩ := HCC.out W7.drew hb07
        have hb7d : Below n0 w W7.drew := hb7.drew
        have HSZ := Lib.hid (refSizesOf_any A c im.length im W7.drew rfl ((H1.out W7.drew (by rw [hn0]; exact hb7d)).more (hBL.out W7.drew hb7d)) (by omega))
        clear z1 z2 k0 k1 u1
        have hib7 : wr.heap.size < W7.drew.heap.size := by rw [← hWr, ← hWq]; exact (Array.getElem?_eq_some_iff.1 hr5).1
        have HSV : Hid (∀ W, Below W7.drew.heap.size W7.drew W → SlAt encWr W (Bl W.heap.size) D sv) := fun W hb => (hD.blk (w' := W) (fun g hg => ((hb.block g (by have : g < w.heap.size := hg; have := hb7d.size; omega)).trans ((hb7d.block g (by have : g < w.heap.size := hg; omega)).trans ((hbw.block g (by have : g < w.heap.size := hg; omega)).symm))))).more (fun g hg => by have : g < w.heap.size := hg; have h1 := hb7d.size; have h2 := hb.size; show g < W.heap.size; omega)
        have hll : (lens im).length = im.length := lens_len im
        obtain ⟨q, hq⟩ : ∃ q, Hid (chkS sv (lens im) = q) := ⟨_, rfl⟩
        have hsvl : sv.length ≤ 9223372036854775807 := by unfold maxLen at hd2; omega
        go_upto_region 16 with (fail)
        go_region_law (first | (go_simp; go_at_call 59; refine HCH.out.mono ?_; rintro e w9 ⟨rfl, hb9⟩) | (go_simp; go_at_call 60; refine HSZ.out.mono ?_; rintro e w8 ⟨Z, zc, rfl, s1, s2, s3, hb8⟩; have v3 := (World.cell?_of_block (a := ⟨wr.heap.size, 2, none⟩) (hb8.block wr.heap.size hib7)).trans v2; have HCH := Lib.hid (refCheck_any D Z dc zc sv (lens im) w8 (HSV.out w8 hb8) hsvl (s3.more (fun g hg => hg.2)) (by rw [hll]; omega) q hq.out); rw [hll] at HCH ⊢))
        all_goals
          have hbz : Below W7.drew.heap.size W7.drew w9 := ext_trans hb8 hb9
          have hb9w : Below n0 w w9 := hb7d.trans (hbz.mono (by have := hb7d.size; omega))
          have hb09 : Below W0.heap.size W0 w9 := ext_trans hb07 hbz
          by_cases hq0 : q = 0
          · have hq0' : (q != 0) = false := by simp [hq0]
            have hnext : Hid (snpsE (lens im) (-1) 0 (l.take (j + 1 + 1)) = 0) := by rw [Hid, hstep.out, hfin.out, hq.out, hq0]
            clear hq0 v2 v3 d0 d1 s3 HCH
            go_wp2_with fail
            go_roundw
            case rel => exact ⟨j + 1 + 1, hlt, by go_num, hb09, hnext.out⟩
            case measure => simp [intOf]; omega
          · have hq0' : (q != 0) = true := by simp [hq0]
            have hqr : Hid (r = q) := hbad.out q (by rw [hfin.out, hq.out]) hq0
            clear hq0 v2 v3 d0 d1 s3 HCH
            go_wp2_with fail
            go_ret
            rw [hqr.out]
            exact ⟨rfl, by first | exact hb9w | (rw [hn0]; exact hb9w)⟩
    · have hkk : k = l.length := by omega
      subst hkk
      go_wp2_with fail
      go_ret
      have h := hp.out
      rw [List.take_length] at h
      rw [hE.out, h]
      exact ⟨rfl, by rw [hn0]; exact hbw⟩
end Go.Proofs.YtgndgkjefgjamaaGreat
namespace Go.Proofs.YtgndgkjefgjamaaGreat
open Go.RowKit Go.Shelf
attribute [local go_sem] Oper.semAt_some

def fewS (s : Sns) : Bool := (s.2.all fun x => fewL x.2.2) && (decide (s.2.length ≤ 30) && fewI s.1)
theorem fewS_lim {im : Img} {l : List Snp} (h : fewS (im, l) = true) : SnLim im l ∧ l.length ≤ 30 ∧ im.length ≤ 9 := by
  unfold fewS at h
  rw [Bool.and_eq_true, Bool.and_eq_true, decide_eq_true_eq, List.all_eq_true] at h
  obtain ⟨h1, h2, h3⟩ := h
  unfold fewI at h3
  rw [Bool.and_eq_true, decide_eq_true_eq, List.all_eq_true] at h3
  obtain ⟨h3, h4⟩ := h3
  simp only at h1 h2 h3 h4
  refine ⟨⟨by omega, fun r hr => ?_, by omega, fun x hx => ?_⟩, h2, h3⟩
  · have := h4 r hr
    simp only [decide_eq_true_eq] at this
    omega
  · have := h1 x hx
    unfold fewL at this
    rw [Bool.and_eq_true, decide_eq_true_eq, List.all_eq_true] at this
    refine ⟨by omega, fun y hy => ?_⟩
    have := this.2 y hy
    simp only [decide_eq_true_eq] at this
    omega
set_option maxHeartbeats 1000000 in
theorem snFew_any (A A2 : Option Addr) (c c2 n m : Nat) (im : Img) (l : List Snp) (q : Bool) (w : World) (hn : im.length = n) (hm : l.length = m) (hq : fewS (im, l) = q) (h1 : SlAt (encSl encSec) w (Bl w.heap.size) A im) (h2 : SlAt encSnp w (Bl w.heap.size) A2 l) (hl1 : n ≤ 9223372036854775807) (hl2 : m ≤ 9223372036854775807) :
    Calls Tryz.prog 43 #[.agg #[.slice A n c, .slice A2 m c2]] w fun e w' => e = .returned (.bool q) ∧ Below w.heap.size w w' := by
  subst hn hm
  have H1 : Hid (∀ w', Below w.heap.size w w' → SlAt (encSl encSec) w' (Bl w.heap.size) A im) := fun w' hb => h1.below hb
  have H2 : Hid (∀ w', Below w.heap.size w w' → SlAt encSnp w' (Bl w.heap.size) A2 l) := fun w' hb => h2.below hb
  have HQ := Lib.hid hq
  clear h1 h2 hq
  obtain ⟨W0, hW0⟩ : ∃ W0, w.alloc (.cells #[.slice A im.length c, .slice A2 l.length c2] 26) = W0 := ⟨_, rfl⟩
  have hB0 : Below w.heap.size w W0 := by rw [← hW0]; exact ext_alloc (Below.refl _ _)
  have hr0 : W0.heap[w.heap.size]? = some (.cells #[.slice A im.length c, .slice A2 l.length c2] 26 (0, 0)) := by rw [← hW0]; exact heap_alloc_new _ _
  have hs0 : w.heap.size < W0.heap.size := (Array.getElem?_eq_some_iff.1 hr0).1
  obtain ⟨c0, c1, _⟩ := blk2 hr0
  have h2' := H2.out W0 hB0
  have H1' := Lib.hid ((H1.out W0 hB0).more (S' := Bl W0.heap.size) (fun g hg => by have : g < w.heap.size := hg; show g < W0.heap.size; omega))
  clear hr0
  have HW0 := Lib.hid hW0
  clear hW0
  go_enter Tryz.func43, Tryz.ntmps43
  go_wp2
  rw [HW0.out]
  go_loopw [3] (fun i wr => wr = W0 ∧ ∃ k : Nat, k ≤ l.length ∧ k ≤ 50 ∧ i = .int .i64 k ∧ Hid (∀ x ∈ l.take k, fewL x.2.2 = true)) (fun i _ => 50 - (intOf i).toNat)
  case atStart => exact ⟨rfl, 0, by omega, by omega, rfl, by simp [Hid]⟩
  case round =>
    obtain ⟨rfl, k, hk, hk2, rfl, hp⟩ := hrel
    have HP := Lib.hid hp.out; clear hp
    by_cases hlt : k < l.length
    · have hki : (k : Int) < l.length := by omega
      by_cases hlt2 : k < 50
      · obtain ⟨b, off, D, dc, rfl, hb, g0, g1, g2, hD, hn1, hn2, _, _⟩ := h2'.snp hlt
        have hnn : (0 : Int) ≤ k := by omega
        have hki2 : (k : Int) < 50 := by omega
        obtain ⟨p, hpp⟩ : ∃ p, Hid (fewL (l[k]'hlt).2.2 = p) := ⟨_, Lib.hid rfl⟩
        have HFW := Lib.hid (few_any D dc _ l[k].2.2 wr hD (by unfold maxLen at hn2; omega))
        rw [hpp.out] at HFW
        clear hD
        go_wp2_with fail
        refine HFW.out.mono ?_
        rintro e w3 ⟨rfl, rfl⟩
        clear HFW
        cases p with
        | true =>
          go_wp2_with fail
          go_roundw
          case rel =>
            refine ⟨by trivial, k + 1, hlt, hlt2, by go_num, ?_⟩
            intro x hx
            rw [List.take_succ_eq_append_getElem hlt] at hx
            rcases List.mem_append.1 hx with hx | hx
            · exact HP.out x hx
            · rw [List.mem_singleton.1 hx]; exact hpp.out
          case measure => simp [intOf]; omega
        | false =>
          go_wp2_with fail
          go_ret
          refine ⟨ret_bool ?_, hB0⟩
          rw [← HQ.out, eq_comm, fewS, Bool.and_eq_false_iff]
          left
          rw [List.all_eq_false]
          exact ⟨l[k], List.getElem_mem hlt, by rw [hpp.out]; decide⟩
      · have hki2 : ¬ ((k : Int) < 50) := by omega
        have hL : ¬ ((l.length : Int) ≤ 30) := by omega
        go_wp2_with fail
        go_ret
        refine ⟨ret_bool ?_, hB0⟩
        rw [← HQ.out, eq_comm, fewS, Bool.and_eq_false_iff]
        right
        rw [Bool.and_eq_false_iff]
        left
        simp only [decide_eq_false_iff_not]
        omega
    · have hkk : k = l.length := by omega
      subst hkk
      have hall : Hid ((l.all fun x => fewL x.2.2) = true) := by
        have h := HP.out
        rw [List.take_length] at h
        exact List.all_eq_true.2 h
      have hFI := Lib.hid (fewImg_any A c im wr H1'.out hl1)
      by_cases h30 : l.length ≤ 30
      · have h30' : (l.length : Int) ≤ 30 := by omega
        have hqq : Hid (fewI im = q) := by rw [Hid, ← HQ.out, fewS, hall.out, decide_eq_true (by simp only; omega)]; rfl
        rw [hqq.out] at hFI
        clear h30
        go_wp2_with fail
        refine hFI.out.mono ?_
        rintro e w3 ⟨rfl, rfl⟩
        go_wp2_with fail
        go_ret
        exact ⟨rfl, hB0⟩
      · have h30' : ¬ (l.length : Int) ≤ 30 := by omega
        have hqq : Hid (false = q) := by rw [Hid, ← HQ.out, fewS, hall.out, decide_eq_false (by simp only; omega)]; rfl
        clear h30
        go_wp2_with fail
        go_ret
        exact ⟨ret_bool hqq.out, hB0⟩
set_option maxHeartbeats 2000000 in
/-- equal snapshots are found to be the same -/
theorem snSame_true (A A2 A' A2' : Option Addr) (c c2 c' c2' n m : Nat) (im : Img) (l : List Snp) (w : World) (hn : im.length = n) (hm : l.length = m) (h1 : SlAt (encSl encSec) w (Bl w.heap.size) A im) (h2 : SlAt encSnp w (Bl w.heap.size) A2 l) (h1' : SlAt (encSl encSec) w (Bl w.heap.size) A' im) (h2' : SlAt encSnp w (Bl w.heap.size) A2' l) (hl1 : n ≤ 9223372036854775807) (hl2 : m ≤ 9223372036854775807) :
    Calls Tryz.prog 55 #[.agg #[.slice A n c, .slice A2 m c2], .agg #[.slice A' n c', .slice A2' m c2']] w fun e w' => e = .returned (.bool true) ∧ Below w.heap.size w w' := by
  subst hn hm
  obtain ⟨n0, hn0⟩ : ∃ n0, w.heap.size = n0 := ⟨_, rfl⟩
  rw [hn0] at h1 h2 h1' h2' ⊢
  have H2 : Hid (∀ w', Below n0 w w' → SlAt encSnp w' (Bl n0) A2 l) := fun w' hb => h2.below hb
  have H2' : Hid (∀ w', Below n0 w w' → SlAt encSnp w' (Bl n0) A2' l) := fun w' hb => h2'.below hb
  obtain ⟨W0, hW0⟩ : ∃ W0, (w.alloc (.cells #[.slice A im.length c, .slice A2 l.length c2] 26)).alloc (.cells #[.slice A' im.length c', .slice A2' l.length c2'] 26) = W0 := ⟨_, rfl⟩
  have hB0 : Below n0 w W0 := by rw [← hW0, ← hn0]; exact ext_alloc (ext_alloc (Below.refl _ _))
  have hs0 : W0.heap.size = n0 + 2 := by rw [← hW0, ← hn0]; simp
  have hr0 : W0.heap[n0]? = some (.cells #[.slice A im.length c, .slice A2 l.length c2] 26 (0, 0)) := by
    rw [← hW0, ← hn0]; exact (Below.heap_alloc _ _ _ (by simp)).trans (heap_alloc_new _ _)
  have hr1 : W0.heap[n0 + 1]? = some (.cells #[.slice A' im.length c', .slice A2' l.length c2'] 26 (0, 0)) := by
    rw [← hW0, ← hn0]; exact heap_new2 _ _ _
  have HSI := Lib.hid (sameImg07_any A A' c c' _ _ im im W0 (h1.below hB0) (h1'.below hB0) (by omega) (by omega))
  rw [beq_self_eq_true] at HSI
  have HCC : Hid (∀ W, Below W0.heap.size W0 W → (W.cell? ⟨n0, 0, none⟩ = some (.slice A im.length c) ∧ W.cell? ⟨n0, 1, none⟩ = some (.slice A2 l.length c2)) ∧ W.cell? ⟨n0 + 1, 0, none⟩ = some (.slice A' im.length c') ∧ W.cell? ⟨n0 + 1, 1, none⟩ = some (.slice A2' l.length c2')) := fun W hb => by
    obtain ⟨a, b, _⟩ := blk2 ((hb.block n0 (by omega)).trans hr0)
    obtain ⟨a', b', _⟩ := blk2 ((hb.block (n0 + 1) (by omega)).trans hr1)
    exact ⟨⟨a, b⟩, a', b'⟩
  clear h1 h2 h1' h2' hr0 hr1
  have HW0 := Lib.hid hW0
  clear hW0
  obtain ⟨⟨c0, c1⟩, d0, d1⟩ := HCC.out W0 (Below.refl _ _)
  go_enter Tryz.func55, Tryz.ntmps55
  go_upto_region 1 with (fail)
  try rw [HW0.out]
  go_wp2_with fail
  refine HSI.out.mono ?_
  rintro e w1 ⟨rfl, hdr⟩
  have hb1 : Below W0.heap.size W0 w1 := hdr.below _
  clear c0 c1 d0 d1 HSI
  obtain ⟨⟨c0, c1⟩, d0, d1⟩ := HCC.out w1 hb1
  go_wp2_with fail
  clear c0 c1 d0 d1
  go_loopw [5] (fun i wr => ∃ k : Nat, k ≤ l.length ∧ i = .int .i64 k ∧ Below W0.heap.size W0 wr) (fun i _ => l.length - (intOf i).toNat)
  case atStart => exact ⟨0, by omega, rfl, hb1⟩
  case round =>
    obtain ⟨k, hk, rfl, hB⟩ := hrel
    obtain ⟨⟨c0, c1⟩, d0, d1⟩ := HCC.out wr hB
    have hbw : Below n0 w wr := hB0.trans (hB.mono (by omega))
    by_cases hlt : k < l.length
    · obtain ⟨b, off, D, dc, rfl, hb, g0, g1, g2, hD, hd1, hd2, hi1, hi2⟩ := (H2.out wr hbw).snp hlt
      obtain ⟨b', off', D', dc', rfl, hb', g0', g1', g2', hD', hd1', hd2', _, _⟩ := (H2'.out wr hbw).snp hlt
      have hki : (k : Int) < l.length := by omega
      have hnn : (0 : Int) ≤ k := by omega
      have hszr := hB.size
      have hbl : b < wr.heap.size := by have : b < n0 := hb; omega
      have hbl' : b' < wr.heap.size := by have : b' < n0 := hb'; omega
      have hnl : n0 < wr.heap.size := by omega
      have hnl1 : n0 + 1 < wr.heap.size := by omega
      obtain ⟨x, hx⟩ : ∃ x, l[k] = x := ⟨_, rfl⟩
      rw [hx] at g0 g1 g2 hD hd1 hi1 hi2 g0' g1' g2' hD' hd1'
      obtain ⟨num, tm, sv⟩ := x
      simp only at g0 g1 g2 hD hd1 hi1 hi2 g0' g1' g2' hD' hd1'
      have HSM : Hid (∀ W, Below wr.heap.size wr W → Calls Tryz.prog 56 #[.slice D sv.length dc, .slice D' sv.length dc'] W fun e w' => e = .returned (.bool true) ∧ Below W.heap.size W w') := fun W hbW => by
        have hk : ∀ g, Bl n0 g → W.heap[g]? = wr.heap[g]? := fun g hg => hbW.block g (by have : g < n0 := hg; omega)
        exact same_any D D' dc dc' _ _ sv sv W (hD.blk hk) (hD'.blk hk) (by unfold maxLen at hd2; omega) (by unfold maxLen at hd2; omega) true (beq_self_eq_true _)
      clear hx hD hD'
      go_upto_region 6 with (fail)
      go_region
      · obtain ⟨WX, hWX⟩ : ∃ WX, ((wr.alloc (.cells #[.int .i64 num, .int .i64 tm, .slice D sv.length dc] 158)).alloc (.cells #[.int .i64 num, .int .i64 tm, .slice D' sv.length dc'] 158)).drew = WX := ⟨_, rfl⟩
        rw [hWX]
        have hbx : Below wr.heap.size wr WX := by rw [← hWX]; exact (ext_alloc (ext_alloc (Below.refl _ _))).drew
        have ha : WX.heap[wr.heap.size]? = some (.cells #[.int .i64 num, .int .i64 tm, .slice D sv.length dc] 158 (0, 0)) := by rw [← hWX]; exact (Below.heap_alloc _ _ _ (by simp)).trans (heap_alloc_new _ _)
        have ha' : WX.heap[wr.heap.size + 1]? = some (.cells #[.int .i64 num, .int .i64 tm, .slice D' sv.length dc'] 158 (0, 0)) := by rw [← hWX]; exact heap_new2 _ _ _
        obtain ⟨x0, x1, x2, _⟩ := blk3 ha
        obtain ⟨y0, y1, y2, _⟩ := blk3 ha'
        clear hWX ha ha' c0 c1 d0 d1 g0 g1 g2 g0' g1' g2'
        go_wp2_with fail
        refine (HSM.out WX hbx).mono ?_
        rintro e w9 ⟨rfl, hb9⟩
        clear x0 x1 x2 y0 y1 y2
        go_wp2_with fail
        go_roundw
        case rel => exact ⟨k + 1, hlt, by go_num, ext_trans hB (ext_trans hbx hb9)⟩
        case measure => simp [intOf]; omega
      · obtain ⟨WX, hWX⟩ : ∃ WX, ((wr.alloc (.cells #[.int .i64 num, .int .i64 tm, .slice D' sv.length dc'] 158)).alloc (.cells #[.int .i64 num, .int .i64 tm, .slice D sv.length dc] 158)).drew = WX := ⟨_, rfl⟩
        rw [hWX]
        have hbx : Below wr.heap.size wr WX := by rw [← hWX]; exact (ext_alloc (ext_alloc (Below.refl _ _))).drew
        have ha : WX.heap[wr.heap.size]? = some (.cells #[.int .i64 num, .int .i64 tm, .slice D' sv.length dc'] 158 (0, 0)) := by rw [← hWX]; exact (Below.heap_alloc _ _ _ (by simp)).trans (heap_alloc_new _ _)
        have ha' : WX.heap[wr.heap.size + 1]? = some (.cells #[.int .i64 num, .int .i64 tm, .slice D sv.length dc] 158 (0, 0)) := by rw [← hWX]; exact heap_new2 _ _ _
        obtain ⟨x0, x1, x2, _⟩ := blk3 ha
        obtain ⟨y0, y1, y2, _⟩ := blk3 ha'
        clear hWX ha ha' c0 c1 d0 d1 g0 g1 g2 g0' g1' g2'
        go_wp2_with fail
        refine (HSM.out WX hbx).mono ?_
        rintro e w9 ⟨rfl, hb9⟩
        clear x0 x1 x2 y0 y1 y2
        go_wp2_with fail
        go_roundw
        case rel => exact ⟨k + 1, hlt, by go_num, ext_trans hB (ext_trans hbx hb9)⟩
        case measure => simp [intOf]; omega
    · have hkk : k = l.length := by omega
      subst hkk
      go_wp2_with fail
      go_ret
      exact ⟨rfl, hbw⟩
end Go.Proofs.YtgndgkjefgjamaaGreat

namespace Go.Proofs.YtgndgkjefgjamaaGreat
open Go.RowKit Go.Shelf
attribute [local go_sem] Oper.semAt_some

instance decWr : DecidableEq Wr := inferInstanceAs (DecidableEq (Int × Int × List Sec))
instance decWrs : DecidableEq (List Wr) := inferInstance
instance decIW : DecidableEq (Int × List Wr) := inferInstance
instance : DecidableEq Snp := inferInstanceAs (DecidableEq (Int × (Int × List Wr)))
instance : DecidableEq Sns := inferInstanceAs (DecidableEq (Img × List Snp))
def imgB (l : List Int) : Img := [l.map sB]
def wrB (s : Int) (l : List Int) : Wr := (0, s, l.map sB)
theorem litS {α : Type} {E : Enc α} {W : World} {S S0 : Nat → Prop} {g : Nat} {T : TypeId} {cs : Array Value} {css : List (List Value)} {l : List α} (hg : W.heap[g]? = some (.cells cs T (0, 0))) (hcs : cs = css.flatten.toArray) (hr : All2 (E.rd W S0) css l) (h0 : ∀ b, S0 b → S b) (h1 : S g) (hn : ¬ S0 g) : SlAt E W S (some ⟨g, 0, none⟩) l := by
  have hsz := All2.sizes hr
  have hlen : css.flatten.length = l.length * E.size := by rw [flatten_len E.size css hsz, hr.length]
  intro hne
  refine ⟨g, 0, rfl, h1, fun i x hx => ?_⟩
  obtain ⟨cs', hc, hr'⟩ := hr.get hx
  refine ⟨cs', fun j u hu => ?_, Enc.more hr' h0⟩
  have hj : j < cs'.length := (List.getElem?_eq_some_iff.1 hu).1
  have hf := flatten_at _ _ _ _ _ _ hsz hc hu
  rw [cell_of_row _ _ _ _ _ _ hg, hcs]
  simp only [List.getElem?_toArray]
  have e : 0 + i * E.size + j = i * E.size + j := by omega
  rw [e]
  exact hf
theorem sB_all {w : World} : ∀ {l : List Int}, (∀ x ∈ l, 0 ≤ x ∧ x < 256) → All2 (encSec.rd w (fun _ => False)) ((l.map sB).map secV) (l.map sB)
  | [], _ => trivial
  | x :: l, h => ⟨⟨rfl, sB_ok (h x (by simp))⟩, sB_all (l := l) (fun y hy => h y (by simp [hy]))⟩
/-- an image of one volume, written out -/
theorem litImg {W : World} {g1 g2 : Nat} {T1 T2 : TypeId} {l : List Int} {n c : Nat} {cs : Array Value} (h1 : W.heap[g1]? = some (.cells cs T1 (0, 0))) (hcs : cs = ((l.map sB).map secV).flatten.toArray) (hr : ∀ x ∈ l, 0 ≤ x ∧ x < 256) (h2 : W.heap[g2]? = some (.cells #[.slice (some ⟨g1, 0, none⟩) n c] T2 (0, 0))) (hn : l.length = n) (hc : n ≤ c ∧ c ≤ maxLen) (hg : g1 ≠ g2) : SlAt (encSl encSec) W (fun g => g = g1 ∨ g = g2) (some ⟨g2, 0, none⟩) (imgB l) := by
  subst hn
  have k1 : SlAt encSec W (fun g => g = g1) (some ⟨g1, 0, none⟩) (l.map sB) := litS (S0 := fun _ => False) h1 hcs (sB_all hr) (fun _ h => h.elim) rfl (fun h => h)
  exact litS (S0 := fun g => g = g1) (css := [[.slice (some ⟨g1, 0, none⟩) l.length c]]) h2 rfl ⟨⟨_, c, by simp, by simpa using hc.1, hc.2, k1⟩, trivial⟩ (fun g hg => Or.inl hg) (Or.inr rfl) (fun e => hg e.symm)
/-- the variable s of the examples: its block, and what it reads -/
def AwI (t : Nat) (B : Option Addr) (vc : Nat) (D : Option Addr) (dc n m : Nat) (s : Sns) (W : World) : Prop :=
  W.heap[t]? = some (.cells #[.slice B n vc, .slice D m dc] 26 (0, 0)) ∧ (s.1.length = n ∧ s.2.length = m) ∧ m ≤ dc ∧ SlAt (encSl encSec) W (fun g => g ≠ t ∧ g < W.heap.size) B s.1 ∧ SlAt encSnp W (fun g => g ≠ t ∧ g < W.heap.size) D s.2
section
variable {t : Nat} {B D : Option Addr} {vc dc n m : Nat} {s : Sns} {W W' : World}
theorem AwI.lt (h : AwI t B vc D dc n m s W) : t < W.heap.size := (Array.getElem?_eq_some_iff.1 h.1).1
theorem AwI.below (h : AwI t B vc D dc n m s W) (hb : Below W.heap.size W W') : AwI t B vc D dc n m s W' := by
  have hl := h.lt
  obtain ⟨h1, h2, h3, h4, h5⟩ := h
  have hs := hb.size
  exact ⟨(hb.block t hl).trans h1, h2, h3, (h4.blk (fun g hg => hb.block g hg.2)).more (fun g hg => ⟨hg.1, by omega⟩), (h5.blk (fun g hg => hb.block g hg.2)).more (fun g hg => ⟨hg.1, by omega⟩)⟩
theorem AwI.its (h : AwI t B vc D dc n m s W) : SlAt encSnp W (Bl W.heap.size) D s.2 := h.2.2.2.2.more (fun g hg => hg.2)
/-- the variable has been stored anew -/
theorem AwI.store {lo mid : Nat} {u0 u1 : Value} (h : SnRet s.1 s.2 B vc D dc mid lo W) (hr : W.heap[t]? = some (.cells #[u0, u1] 26 (0, 0))) (hlo : t < lo) (hn : s.1.length = n ∧ s.2.length = m) : AwI t B vc D dc n m s ((W.setCell ⟨t, 0, none⟩ (.slice B n vc)).setCell ⟨t, 1, none⟩ (.slice D m dc)) := by
  have hr2 := blk2_set hr (.slice B n vc) (.slice D m dc)
  have h2 := (h.set (p := ⟨t, 0, none⟩) hlo (.slice B n vc)).set (p := ⟨t, 1, none⟩) hlo (.slice D m dc)
  obtain ⟨⟨a1, a2, a3⟩, b1, b2, b3⟩ := h2.read
  exact ⟨hr2, hn, by rw [← hn.2]; exact b1, a3.more (fun g hg => ⟨by have := hg.1; omega, hg.2⟩), b3.more (fun g hg => ⟨by have := hg.1; omega, hg.2⟩)⟩
/-- the variable has been made -/
theorem AwI.made {lo mid : Nat} (h : SnRet s.1 s.2 B vc D dc mid lo W) (hn : s.1.length = n ∧ s.2.length = m) (hlo : lo ≤ W.heap.size) : AwI W.heap.size B vc D dc n m s (W.alloc (.cells #[.slice B n vc, .slice D m dc] 26)) := by
  have hb : Below W.heap.size W (W.alloc (.cells #[.slice B n vc, .slice D m dc] 26)) := ext_alloc (Below.refl _ _)
  obtain ⟨⟨a1, a2, a3⟩, b1, b2, b3⟩ := h.read
  exact ⟨heap_alloc_new _ _, hn, by rw [← hn.2]; exact b1, (a3.blk (fun g hg => hb.block g hg.2)).more (fun g hg => ⟨by have := hg.2; omega, by have := hg.2; have := hb.size; omega⟩), (b3.blk (fun g hg => hb.block g hg.2)).more (fun g hg => ⟨by have := hg.2; omega, by have := hg.2; have := hb.size; omega⟩)⟩
end
/-- what Apply, Take, Delete give in the examples -/
def AwR (s : Sns) (n m : Nat) (w : World) (e : Ending) (w' : World) : Prop :=
  ∃ B vc D dc mid, e = .returned (.tuple #[.agg #[.slice B n vc, .slice D m dc], .int .i64 0]) ∧ (s.1.length = n ∧ s.2.length = m) ∧ SnRet s.1 s.2 B vc D dc mid w.heap.size w' ∧ Below w.heap.size w w'
theorem AwR.of {s s' : Sns} {x : Int} {n m : Nat} {w w' : World} {e : Ending} (h : SnRetE s x w e w') (hs : s = s') (hx : x = 0) (hn : s'.1.length = n ∧ s'.2.length = m) : AwR s' n m w e w' := by
  obtain ⟨B, vc, D, dc, mid, he, h1, h2⟩ := h
  subst hs hx
  refine ⟨B, vc, D, dc, mid, ?_, hn, h1, h2⟩
  rw [he, hn.1, hn.2]
section
variable {t : Nat} {B D : Option Addr} {vc dc n m n' m' : Nat} {s s' : Sns} {W : World}
end
end Go.Proofs.YtgndgkjefgjamaaGreat

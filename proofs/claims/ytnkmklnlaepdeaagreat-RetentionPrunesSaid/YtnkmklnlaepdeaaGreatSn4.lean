/-
  Deleting one element of an owned slice: the elements behind it moved down, the last one cleared. No program in sight.
  slices.Delete of one snapshot.
  snapshot.Delete: the walk.
-/
import Derived.Test.YtnkmklnlaepdeaaGreatSn3
import Derived.Laws.IdiomCopy
import Derived.Lib.SliceRun
import Derived.Deep.RegionLaw
set_option linter.unusedVariables false
set_option linter.unusedSimpArgs false
set_option linter.unusedSectionVars false
set_option linter.unnecessarySimpa false
namespace Go.Proofs.YtnkmklnlaepdeaaGreat
open Go.RowKit Go.Shelf

section
variable {P : Program}
/-- clear of one element of some cells -/
theorem run_clear1 (w : World) (t e ty : TypeId) (z : Value) (cs : Array Value) (ht : P.underlying t = some (.slice e)) (hv : ∀ w, (zeroValue e).run P w = .ok z w) (hz : z.cells = cs) (h1 : ∀ v ∈ cs.toList, v.oneCell' = true) (b o c : Nat)
    (hc : ∀ j, j < cs.size → (w.cell? ⟨b, o + j, none⟩).isSome = true) (hf : ∀ j, j < cs.size → w.frozen? ⟨b, o + j, none⟩ = false) :
    (Builtin.clear_ #[t] ty #[.slice (some ⟨b, o, none⟩) 1 c]).run P w = .ok (.tuple #[]) (w.setCells b o cs.toList) := by
  have hzc : (Builtin.zeroCells z.cells 1).toList = cs.toList := by
    rw [hz]
    apply List.ext_getElem
    · simp [Builtin.zeroCells]
    · intro i h1 h2
      have h3 : i < cs.size := by simpa using h2
      simp [Builtin.zeroCells, Nat.mod_eq_of_lt h3, h3]
  have hst := run_storeCells_cells (P := P) b o cs.toList 0 w (by simpa using hc) (by simpa using hf) h1
  simp only [Nat.add_zero] at hst
  simp [Builtin.clear_, run_underlying ht, hv, hzc, hst]
end
/-- cells written into a row -/
def putL (cur : List Value) (o : Nat) (vs : List Value) : List Value := cur.take o ++ vs ++ cur.drop (o + vs.length)
theorem putL_len {cur : List Value} {o : Nat} {vs : List Value} (h : o + vs.length ≤ cur.length) : (putL cur o vs).length = cur.length := by
  simp [putL]; omega
theorem row_setCells {b : Nat} {T : TypeId} {fr : Nat × Nat} : ∀ (vs : List Value) (o : Nat) (w : World) (cur : Array Value), w.heap[b]? = some (.cells cur T fr) → o + vs.length ≤ cur.size → (w.setCells b o vs).heap[b]? = some (.cells (putL cur.toList o vs).toArray T fr)
  | [], o, w, cur, h, hs => by
    rw [World.setCells, h]
    simp [putL]
  | v :: vs, o, w, cur, h, hs => by
    have hs' : o + (vs.length + 1) ≤ cur.size := hs
    have h1 : (w.setCell ⟨b, o, none⟩ v).heap[b]? = some (.cells (cur.setIfInBounds o v) T fr) := by
      simp [World.setCell, Array.getElem?_modify, h]
    have h2 := row_setCells vs (o + 1) _ _ h1 (by simp; omega)
    rw [World.setCells, h2]
    congr 2
    simp only [putL, Array.toList_setIfInBounds]
    rw [List.take_set, List.drop_set]
    congr 1
    rw [if_pos (by omega), List.take_add_one, List.set_append]
    have : ¬ o < (cur.toList.take o).length := by simp; omega
    have hl : (cur.toList.take o).length = o := by simp; omega
    rw [if_neg this, hl, List.getElem?_eq_getElem (by simp; omega)]
    simp [Nat.add_assoc, Nat.add_comm 1]
theorem flat_take {q : Nat} : ∀ {css : List (List Value)} (k : Nat), (∀ cs ∈ css, cs.length = q) → (css.take k).flatten = css.flatten.take (k * q)
  | [], k, _ => by simp
  | cs :: css, 0, _ => by simp
  | cs :: css, k + 1, h => by
    have h1 := h cs (by simp)
    rw [List.take_succ_cons, List.flatten_cons, List.flatten_cons, flat_take k (fun x hx => h x (by simp [hx])), List.take_append, h1, Nat.add_mul, Nat.one_mul]
    rw [List.take_of_length_le (l := cs) (by omega)]
    congr 2
    omega
theorem flat_drop {q : Nat} : ∀ {css : List (List Value)} (k : Nat), (∀ cs ∈ css, cs.length = q) → (css.drop k).flatten = css.flatten.drop (k * q)
  | [], k, _ => by simp
  | cs :: css, 0, _ => by simp
  | cs :: css, k + 1, h => by
    have h1 := h cs (by simp)
    rw [List.drop_succ_cons, List.flatten_cons, flat_drop k (fun x hx => h x (by simp [hx])), List.drop_append, h1, Nat.add_mul, Nat.one_mul]
    rw [List.drop_of_length_le (l := cs) (by omega)]
    simp only [List.nil_append]
    congr 1
    omega
theorem heap_setCells_ne {g b : Nat} (hb : b ≠ g) : ∀ (vs : List Value) (o : Nat) (w : World), (w.setCells g o vs).heap[b]? = w.heap[b]?
  | [], _, _ => rfl
  | v :: vs, o, w => by rw [World.setCells, heap_setCells_ne hb vs (o + 1)]; exact Below.heap_setCell _ _ _ _ hb
theorem All2.erase {α β : Type} {R : α → β → Prop} : ∀ {xs : List α} {ys : List β} (i : Nat), All2 R xs ys → All2 R (xs.eraseIdx i) (ys.eraseIdx i)
  | [], [], _, h => h
  | a :: xs, b :: ys, 0, h => h.2
  | a :: xs, b :: ys, i + 1, h => ⟨h.1, All2.erase i h.2⟩
/-- what a deletion in place needs and leaves -/
theorem Own.delete {α : Type} {E : Enc α} {w : World} {base g c : Nat} {e : TypeId} {S : Nat → Prop} {l : List α} (h : Own E w base e S (.slice (some ⟨g, 0, none⟩) l.length c) l) (i r : Nat) (hr : l.length = i + 1 + r) :
    g < w.heap.size ∧ base ≤ g ∧ ∃ vs : List Value, vs.length = r * E.size ∧ (∀ j u, vs[j]? = some u → w.cell? ⟨g, (i + 1) * E.size + j, none⟩ = some u) ∧ (∀ u ∈ vs, u.oneCell' = true) ∧
      (∀ j, j < vs.length → (w.cell? ⟨g, i * E.size + j, none⟩).isSome = true ∧ w.frozen? ⟨g, i * E.size + j, none⟩ = false) ∧
      ∀ zs : List Value, zs.length = E.size →
        (∀ j, j < zs.length → ((w.setCells g (i * E.size) vs).cell? ⟨g, (i + r) * E.size + j, none⟩).isSome = true ∧ (w.setCells g (i * E.size) vs).frozen? ⟨g, (i + r) * E.size + j, none⟩ = false) ∧
        Own E ((w.setCells g (i * E.size) vs).setCells g ((i + r) * E.size) zs) base e S (.slice (some ⟨g, 0, none⟩) (i + r) c) (l.eraseIdx i) := by
  obtain ⟨css, ⟨hx, hrow⟩, h2, h3⟩ := h
  have hsz := All2.sizes h2
  have hg3 : ¬ S g := h3 g rfl
  rcases hrow with ⟨hv, _⟩ | ⟨g', cap, cur, hv, hb, hh, hcap, hmax, hcs, htk⟩
  · cases hv
  · simp only [Value.slice.injEq, Option.some.injEq, Addr.mk.injEq, and_true, true_and] at hv
    obtain ⟨rfl, rfl⟩ := hv
    obtain ⟨q, hq⟩ : ∃ q, E.size = q := ⟨_, rfl⟩
    rw [hq] at hx hcs htk hsz ⊢
    obtain ⟨a, ha⟩ : ∃ a, i * q = a := ⟨_, rfl⟩
    obtain ⟨b, hbq⟩ : ∃ b, r * q = b := ⟨_, rfl⟩
    have e1 : (i + 1) * q = a + q := by rw [Nat.add_mul, ha, Nat.one_mul]
    have e2 : (i + r) * q = a + b := by rw [Nat.add_mul, ha, hbq]
    have e3 : l.length * q = a + q + b := by rw [hr, Nat.add_mul, e1, hbq]
    have e4 : a + q + b ≤ c * q := by rw [← e3]; exact Nat.mul_le_mul_right q hcap
    rw [e3] at htk hx
    rw [e1, e2, ha]
    have hlt := (Array.getElem?_eq_some_iff.1 hh).1
    have hcell : ∀ j, w.cell? ⟨g, j, none⟩ = cur[j]? := fun j => cell_of_row _ _ j _ _ _ hh
    have hfz : ∀ j, w.frozen? ⟨g, j, none⟩ = false := fun j => by simp [World.frozen?, hh]
    have hF : css.flatten.length = a + q + b := hx
    have hFc : ∀ j, j < a + q + b → css.flatten[j]? = cur[j]? := fun j hj => by
      rw [← htk, List.getElem?_take, if_pos hj, Array.getElem?_toList]
    obtain ⟨VS, hVS⟩ : ∃ VS, (css.drop (i + 1)).flatten = VS := ⟨_, rfl⟩
    have hVl : VS.length = b := by rw [← hVS, flat_drop (q := q) _ hsz, e1, List.length_drop, hF]; omega
    refine ⟨hlt, hb, VS, ?_, ?_, ?_, ?_, ?_⟩
    · rw [hVl, hbq]
    · intro j u hu
      rw [← hVS, flat_drop (q := q) _ hsz, e1, List.getElem?_drop] at hu
      have : a + q + j < a + q + b := by rw [← hF]; exact (List.getElem?_eq_some_iff.1 hu).1
      rw [hFc _ this] at hu
      rw [hcell]; exact hu
    · intro u hu
      rw [← hVS] at hu
      obtain ⟨cs, hc, hu⟩ := List.mem_flatten.1 hu
      obtain ⟨k, hk, rfl⟩ := List.mem_iff_getElem.1 (List.mem_of_mem_drop hc)
      obtain ⟨a', h4, h5⟩ := All2.get h2 (i := k) (List.getElem?_eq_getElem (by rw [← h2.length]; exact hk))
      rw [List.getElem?_eq_getElem hk] at h4
      cases h4
      exact E.one h5 u hu
    · intro j hj
      rw [hVl] at hj
      exact ⟨by rw [hcell, Array.getElem?_eq_getElem (by omega)]; rfl, hfz _⟩
    · intro zs hz
      have hvl := hVl
      have r1 := row_setCells VS a w cur hh (by omega)
      have hpl : (putL cur.toList a VS).length = c * q := by rw [putL_len (by simp; omega)]; simp [hcs]
      have r2 := row_setCells zs (a + b) _ _ r1 (by simp [hpl]; omega)
      have hel : (l.eraseIdx i).length = i + r := by rw [List.length_eraseIdx, if_pos (by omega)]; omega
      have hfl : (css.eraseIdx i).flatten = css.flatten.take a ++ VS := by
        rw [List.eraseIdx_eq_take_drop_succ, List.flatten_append, flat_take (q := q) _ hsz, ha, hVS]
      refine ⟨fun j hj => ⟨?_, ?_⟩, css.eraseIdx i, ⟨?_, Or.inr ⟨g, c, _, by rw [hel], hb, r2, by omega, hmax, ?_, ?_⟩⟩, ?_, h3⟩
      · rw [cell_of_row _ _ _ _ _ _ r1]
        rw [Array.getElem?_eq_getElem (by simp [hpl]; omega)]; rfl
      · simp [World.frozen?, r1]
      · rw [hfl, hel, hq, e2, List.length_append, hvl, List.length_take, hF]; omega
      · rw [hq]
        simp only [List.size_toArray]
        rw [putL_len (by simp [hpl]; omega)]
        simpa using hpl
      · rw [hfl, hel, hq, e2]
        have h1 : (putL cur.toList a VS).take (a + b) = css.flatten.take a ++ VS := by
          have h0 : css.flatten.take a = cur.toList.take a := by rw [← htk, List.take_take, Nat.min_eq_left (by omega)]
          rw [h0]
          unfold putL
          rw [List.take_append_of_le_length (by simp [hvl]; omega), List.take_of_length_le (by simp [hvl]; omega)]
        rw [← h1]
        simp only [putL, List.toList_toArray]
        rw [List.append_assoc, List.take_append_of_le_length (by simp [hvl]; omega), List.take_take, Nat.min_self]
      · refine (All2.erase i h2).mono (fun cs x hr' => Enc.blk hr' (fun b' hb' => ?_))
        have hne : b' ≠ g := fun e => hg3 (by rw [← e]; exact hb')
        rw [heap_setCells_ne hne, heap_setCells_ne hne]
end Go.Proofs.YtnkmklnlaepdeaaGreat

namespace Go.Proofs.YtnkmklnlaepdeaaGreat
open Go.RowKit Go.Shelf
attribute [local go_sem] Oper.semAt_some

theorem grown_setCell36 (w : World) (b i : Nat) (v : Value) : w.grownBy (w.setCell ⟨b, i, none⟩ v) (some b) :=
  ⟨rfl, rfl, rfl, by simp [World.setCell], fun k _ hne => Below.heap_setCell _ _ _ _ (fun e => hne (by rw [show k = b from e]))⟩
theorem grown_trans36 {a b c : World} {r : Option Nat} (h : a.grownBy b r) (k : b.grownBy c r) : a.grownBy c r :=
  ⟨k.os.trans h.os, k.tape.trans h.tape, k.output.trans h.output, Nat.le_trans h.size k.size, fun i hi hn => (k.block i (Nat.lt_of_lt_of_le hi h.size) hn).trans (h.block i hi hn)⟩
theorem grown_setCells (g : Nat) : ∀ (vs : List Value) (o : Nat) (w : World), w.grownBy (w.setCells g o vs) (some g)
  | [], _, _ => ⟨rfl, rfl, rfl, Nat.le_refl _, fun _ _ _ => rfl⟩
  | v :: vs, o, w => grown_trans36 (grown_setCell36 w g o v) (grown_setCells g vs (o + 1) _)
theorem grown_drew36 (w : World) (r : Option Nat) : w.grownBy w.drew r := ⟨rfl, rfl, rfl, Nat.le_refl _, fun _ _ _ => rfl⟩
set_option maxRecDepth 100000 in
set_option maxHeartbeats 4000000 in
theorem deleteS_any (g i r m c base : Nat) (S : Nat → Prop) (l : List Snp) (w : World) (hm : l.length = m) (hr : m = i + 1 + r) (h : Own encSnp w base 45 S (.slice (some ⟨g, 0, none⟩) m c) l) (hmx : m ≤ 9223372036854775806) :
    Calls Tryz.prog 44 #[.slice (some ⟨g, 0, none⟩) m c, .int .i64 i, .int .i64 ((i : Int) + 1)] w fun e w' => e = .returned (.slice (some ⟨g, 0, none⟩) (i + r) c) ∧ Own encSnp w' base 45 S (.slice (some ⟨g, 0, none⟩) (i + r) c) (l.eraseIdx i) ∧ w.grownBy w' (some g) := by
  subst hm
  have hcap : l.length ≤ c := by
    obtain ⟨_, ⟨_, hrow⟩, _⟩ := h
    rcases hrow with ⟨hv, _⟩ | ⟨_, _, _, hv, _, _, h1, _⟩
    · cases hv
    · simp only [Value.slice.injEq] at hv
      omega
  obtain ⟨hg, hbase, vs, v1, v2, v3, v4, v5⟩ := Own.delete (w := w.drew) (h.blk (fun _ _ => rfl)) i r hr
  simp only [show encSnp.size = 3 from rfl] at v1 v2 v4 v5
  have V5 := Lib.hid v5
  clear v5 h
  obtain ⟨m, hm⟩ : ∃ m, l.length = m := ⟨_, rfl⟩
  rw [hm] at hr hmx hcap ⊢
  have HM := Lib.hid hm
  clear hm
  have hi0 : (0 : Int) ≤ i := by omega
  have hne : ((i : Int) == (i : Int) + 1) = false := by simp; omega
  have him : (i : Int) + 1 ≤ m := by omega
  obtain ⟨zs, hz⟩ : ∃ zs : List Value, Hid (zs = [.int .i64 0, .int .i64 0, .slice none 0 0]) := ⟨_, rfl⟩
  obtain ⟨k5, k6⟩ := V5.out zs (by rw [hz.out]; rfl)
  have K6 := Lib.hid k6
  clear k6 V5
  obtain ⟨Ad, hA, hsrc⟩ : ∃ A : Addr, (if c = i + 1 then some (⟨g, 0, none⟩ : Addr) else some ⟨g, (i + 1) * 3, none⟩) = some A ∧ Hid (∀ j u, vs[j]? = some u → w.drew.cell? (A.add j) = some u) := by
    by_cases h : c = i + 1
    · refine ⟨⟨g, 0, none⟩, by simp [h], fun t u hu => ?_⟩
      have h0 : vs.length = 0 := by rw [v1]; omega
      rw [List.length_eq_zero_iff.1 h0] at hu
      simp at hu
    · exact ⟨⟨g, (i + 1) * 3, none⟩, by simp [h], fun t u hu => by rw [Addr.add_lit]; exact v2 t u hu⟩
  have s1 := Lib.hid v1; have s2 := Lib.hid v3
  have s3 : Hid (∀ t, t < vs.length → (w.drew.cell? ⟨g, 0 + i * 3 + t, none⟩).isSome = true ∧ w.drew.frozen? ⟨g, 0 + i * 3 + t, none⟩ = false) := by rw [Nat.zero_add]; exact v4
  obtain ⟨W1, hW1⟩ : ∃ W1, W1 = w.drew.setCells g (0 + i * 3) vs := ⟨_, rfl⟩
  have hW : Hid (W1 = w.drew.setCells g (0 + i * 3) vs) := hW1
  rw [Nat.zero_add] at hW1
  rw [← hW1] at k5 K6
  have hcl : ∀ ty, (Builtin.clear_ #[27] ty #[.slice (some ⟨g, (i + r) * 3, none⟩) 1 (c - (i + r))]).run Tryz.prog W1 = .ok (.tuple #[]) (W1.setCells g ((i + r) * 3) zs) := fun ty => by
    rw [hz.out]
    exact run_clear1 W1 27 45 ty (.agg #[.int .i64 0, .int .i64 0, .slice none 0 0]) #[.int .i64 0, .int .i64 0, .slice none 0 0] Tryz.underlying27 (fun w => by kernel_rfl) (by kernel_rfl) (by intro v hv; simp at hv; rcases hv with rfl | rfl | rfl <;> rfl) g ((i + r) * 3) _ (fun j hj => (k5 j (by rw [hz.out]; simpa using hj)).1) (fun j hj => (k5 j (by rw [hz.out]; simpa using hj)).2)
  clear k5 v1 v2 v3 v4 hW1
  obtain ⟨i0, hi0', hz1⟩ : ∃ i0, Tryz.prog.info? 45 = some i0 ∧ i0.size = 3 := ⟨_, rfl, rfl⟩
  have hck : c ≠ i + r := by omega
  have hb3 : (0 : Int) ≤ (i : Int) + (r : Int) := by omega
  have hb4 : (i : Int) + (r : Int) ≤ (i : Int) + 1 + (r : Int) := by omega
  have hb5 : (i : Int) + 1 + (r : Int) ≤ (c : Int) := by omega
  have hn1 : i + 1 + r - (i + r) = 1 := by omega
  have hmo : Tryz.prog.follows .mixedOrders = true := by kernel_rfl
  have hb1 : (0 : Int) ≤ (i : Int) + 1 := by omega
  have hb2 : (i : Int) + 1 ≤ (i : Int) + 1 + (r : Int) := by omega
  have hic : i ≤ c := by omega
  have hjc : i + 1 ≤ c := by omega
  go_enter Tryz.func44, Tryz.ntmps44
  go_upto_region 5 with (fail)
  go_region_law_o (refine step_append_room rfl (.tmp 22) (.tmp 25) 27 rfl 45 i0 3 Tryz.underlying27 hi0' hz1 g 0 i c (by simp [Act.eval, Act.put]) Ad r (c - (i + 1)) vs (by simp [Act.eval, Act.put]; done) s1.out hsrc.out s2.out (by omega) s3.out ?_; rw [← hW.out])
  go_wp2
  go_ret
  rw [hW.out] at K6 ⊢
  exact ⟨rfl, K6.out, grown_trans36 (grown_trans36 (grown_drew36 w _) (grown_setCells g vs (0 + i * 3) w.drew)) (grown_setCells g zs _ _)⟩
end Go.Proofs.YtnkmklnlaepdeaaGreat

namespace Go.Proofs.YtnkmklnlaepdeaaGreat
open Go.RowKit Go.Shelf
attribute [local go_sem] Oper.semAt_some

theorem delL_zero (l : List Snp) : delL l 0 = l.eraseIdx 0 := by cases l <;> rfl
theorem delL_succ {l : List Snp} {j : Nat} (h : j + 1 < l.length) : delL l (j + 1) = (l.set j ((l[j]).1, (l[j]).2.1, foldL ((l[j + 1]).2.2 ++ (l[j]).2.2))).eraseIdx (j + 1) := by
  have hl : (l.take (j + 1)).length = j + 1 := by simp; omega
  have e := setLast_set (l := l.take (j + 1)) (by omega) (fun d => foldL ((l[j + 1]).2.2 ++ d))
  have e0 : (l.take (j + 1))[(l.take (j + 1)).length - 1]'(by omega) = l[j] := by simp [hl]
  rw [e0, hl, Nat.add_sub_cancel] at e
  have e1 : l.getD (j + 1) (0, 0, []) = l[j + 1] := by rw [List.getD_eq_getElem?_getD, List.getElem?_eq_getElem h]; rfl
  unfold delL
  simp only
  rw [e1, e, List.eraseIdx_eq_take_drop_succ, List.take_set, List.drop_set_of_lt (by omega)]
/-- what slices.Delete leaves of the items, beside the variables -/
def DelRet (g k c lo : Nat) (X : Nat → Prop) (l : List Snp) (w : World) (e : Ending) (w' : World) : Prop :=
  e = .returned (.slice (some ⟨g, 0, none⟩) (l.length - 1) c) ∧ OwnX X encSnp w' lo 45 (.slice (some ⟨g, 0, none⟩) (l.length - 1) c) (l.eraseIdx k) ∧ w.grownBy w' (some g)
theorem deleteX (g k m c lo : Nat) (X : Nat → Prop) (l : List Snp) (w : World) (ii jj : Int) (hii : ii = k) (hjj : jj = (k : Int) + 1) (hm : l.length = m) (hk : k < m) (h : OwnX X encSnp w lo 45 (.slice (some ⟨g, 0, none⟩) m c) l) (hmx : m ≤ 9223372036854775806) :
    Calls Tryz.prog 44 #[.slice (some ⟨g, 0, none⟩) m c, .int .i64 ii, .int .i64 jj] w (DelRet g k c lo X l w) := by
  subst hii hjj
  refine (deleteS_any g k (m - (k + 1)) m c lo _ l w hm (by omega) h.1 hmx).mono ?_
  rintro e w' ⟨rfl, h1, h2⟩
  have e1 : k + (m - (k + 1)) = l.length - 1 := by omega
  rw [e1] at h1 ⊢
  exact ⟨rfl, ⟨h1.more (fun b hb => ⟨hb.1.mono (Nat.le_refl _) h2.size, hb.2.1, hb.2.2⟩) (fun b hb hS => hS.2.2 hb), fun b hb => h.2 b hb⟩, h2⟩
set_option maxHeartbeats 4000000 in
set_option maxRecDepth 100000 in
theorem snDelete_any (A A2 : Option Addr) (c c2 n m : Nat) (im : Img) (l : List Snp) (num : Int) (w : World) (hn : im.length = n) (hm : l.length = m) (h1 : SlAt (encSl encSec) w (Bl w.heap.size) A im) (h2 : SlAt encSnp w (Bl w.heap.size) A2 l) (hL : SnLim im l) (hsv : ∀ x ∈ l, x.2.2.length ≤ 50000) :
    Calls Tryz.prog 22 #[.agg #[.slice A n c, .slice A2 m c2], .int .i64 num] w (SnRetE (sDelete (im, l) num) (findE (im, l) num) w) := by
  subst hn hm
  have H1 : Hid (∀ w', Below w.heap.size w w' → SlAt (encSl encSec) w' (Bl w.heap.size) A im) := fun w' hb => h1.below hb
  have H2 : Hid (∀ w', Below w.heap.size w w' → SlAt encSnp w' (Bl w.heap.size) A2 l) := fun w' hb => h2.below hb
  have HLM := Lib.hid hL
  have HSV := Lib.hid hsv
  have hl1 := hL.ims
  have hl2 := hL.its
  clear h1 h2 hL hsv
  obtain ⟨n0, hn0⟩ : ∃ n0, w.heap.size = n0 := ⟨_, rfl⟩
  obtain ⟨W0, hW0⟩ : ∃ W0, (w.alloc (.cells #[.slice A im.length c, .slice A2 l.length c2] 29)).alloc (.cells #[.slice none 0 0, .slice none 0 0] 29) = W0 := ⟨_, rfl⟩
  have hB0 : Below n0 w W0 := by rw [← hW0, ← hn0]; exact ext_alloc (ext_alloc (Below.refl _ _))
  have hs0 : n0 + 1 < W0.heap.size := by rw [← hW0, ← hn0]; simp
  have hr0 : W0.heap[n0]? = some (.cells #[.slice A im.length c, .slice A2 l.length c2] 29 (0, 0)) := by rw [← hW0, ← hn0]; exact (Below.heap_alloc _ _ _ (by simp)).trans (heap_alloc_new _ _)
  have hrz0 : W0.heap[n0 + 1]? = some (.cells #[.slice none 0 0, .slice none 0 0] 29 (0, 0)) := by rw [← hW0, ← hn0]; exact heap_new2 _ _ _
  have hBL : Hid (∀ (W : World) g, Below n0 w W → Bl w.heap.size g → Bl W.heap.size g) := fun W g hb hg => by have := hb.size; have h5 : g < w.heap.size := hg; show g < W.heap.size; omega
  have HCC : Hid (∀ W, Below W0.heap.size W0 W → W.cell? ⟨n0, 0, none⟩ = some (.slice A im.length c) ∧ W.cell? ⟨n0, 1, none⟩ = some (.slice A2 l.length c2)) := fun W hb => by
    obtain ⟨a, b, _⟩ := blk2 ((hb.block n0 (by omega)).trans hr0)
    exact ⟨a, b⟩
  have HRZ : Hid (∀ W, Below W0.heap.size W0 W → W.heap[n0 + 1]? = some (.cells #[.slice none 0 0, .slice none 0 0] 29 (0, 0))) := fun W hb => (hb.block (n0 + 1) hs0).trans hrz0
  obtain ⟨r, hr⟩ : ∃ r, Hid (findE (im, l) num = r) := ⟨_, rfl⟩
  obtain ⟨k, hk⟩ : ∃ k, Hid (findN (im, l) num = k) := ⟨_, rfl⟩
  have HCK := Lib.hid (snFind_any A A2 c c2 im.length l.length im l num W0 rfl rfl ((H1.out W0 (by rw [hn0]; exact hB0)).more (fun g hg => hBL.out W0 g hB0 hg)) ((H2.out W0 (by rw [hn0]; exact hB0)).more (fun g hg => hBL.out W0 g hB0 hg)) hl1 (by omega))
  rw [hr.out, hk.out] at HCK
  obtain ⟨c0, c1⟩ := HCC.out W0 (Below.refl _ _)
  clear hr0 hrz0
  go_enter Tryz.func22, Tryz.ntmps22
  go_wp2_with fail
  refine HCK.out.mono ?_
  rintro e w1 ⟨rfl, hb1⟩
  have hbw1 : Below n0 w w1 := hB0.trans (hb1.mono (by omega))
  have hz1 := hb1.size
  have hrz1 := HRZ.out w1 hb1
  clear HCK hW0 c0 c1
  by_cases hx0 : r = 0
  case neg =>
    have hx0' : (r != 0) = true := by simp [hx0]
    have hne : r ≠ 0 := hx0
    clear hx0
    have hE : Hid (findE (im, l) num = r) := hr.out
    have hS : Hid (sDelete (im, l) num = zSns) := by rw [Hid, sDelete, if_neg (by rw [hE.out]; exact hne)]
    obtain ⟨q0, q1, qf⟩ := blk2 hrz1
    clear hne
    go_wp2_with fail
    have hz := blk2_set hrz1 (.slice none 0 0) (.slice none 0 0)
    have hbe := ((hbw1.setCell (p := ⟨n0 + 1, 0, none⟩) (by show n0 ≤ n0 + 1; omega) (.slice none 0 0)).setCell (p := ⟨n0 + 1, 1, none⟩) (by show n0 ≤ n0 + 1; omega) (.slice none 0 0))
    have hse := (SnRet.zero (w := (w1.setCell ⟨n0 + 1, 0, none⟩ (.slice none 0 0)).setCell ⟨n0 + 1, 1, none⟩ (.slice none 0 0)) (lo := n0) (by simp [World.setCell]; omega))
    change bodyPost _ _ _ _ _ ((w1.setCell ⟨(n0 + 1), 0, none⟩ (.slice none 0 0)).setCell ⟨(n0 + 1), 1, none⟩ (.slice none 0 0))
    generalize (w1.setCell ⟨(n0 + 1), 0, none⟩ (.slice none 0 0)).setCell ⟨(n0 + 1), 1, none⟩ (.slice none 0 0) = W3 at hz hbe hse ⊢
    obtain ⟨z0, z1, _⟩ := blk2 hz
    refine bodyPost_ret (v := .tuple #[.agg #[(.slice none 0 0), (.slice none 0 0)], .int .i64 r]) ?_ rfl ?_
    · simp [results, Tryz.results22, Tryz.f22, go_sem, z0, z1]
    rw [hE.out, hS.out]
    exact ⟨none, 0, none, 0, n0, rfl, by rw [hn0]; exact hse, by rw [hn0]; exact hbe⟩
  have hx0' : (r != 0) = false := by simp [hx0]
  have hE : Hid (findE (im, l) num = 0) := by rw [Hid, hr.out, hx0]
  obtain ⟨_, hkl⟩ := findE_ok hE.out
  rw [hk.out] at hkl
  have hS : Hid (sDelete (im, l) num = (im, delL l k)) := by rw [Hid, sDelete, if_pos hE.out, hk.out]
  clear hx0 hr
  have HCP := Lib.hid (copied36_any A A2 c c2 im.length l.length im l w1 rfl rfl ((H1.out w1 (by rw [hn0]; exact hbw1)).more (fun g hg => hBL.out w1 g hbw1 hg)) ((H2.out w1 (by rw [hn0]; exact hbw1)).more (fun g hg => hBL.out w1 g hbw1 hg)) HLM.out)
  obtain ⟨c0, c1⟩ := HCC.out w1 hb1
  go_wp2_with fail
  refine HCP.out.mono ?_
  rintro e w3 ⟨B, vc, D, dc, mid, rfl, hsn, hb3⟩
  clear HCP c0 c1 hrz1
  go_upto_region 5 with (fail)
  obtain ⟨ob, hob⟩ : ∃ ob, w3.heap.size = ob := ⟨_, rfl⟩
  obtain ⟨w4, hw4⟩ : ∃ w4, w3.alloc (.cells #[.slice B im.length vc, .slice D l.length dc] 29) = w4 := ⟨_, rfl⟩
  rw [hw4, hob]
  have hb4 : Below w3.heap.size w3 w4 := by rw [← hw4]; exact ext_alloc (Below.refl _ _)
  have hr4 : w4.heap[ob]? = some (.cells #[.slice B im.length vc, .slice D l.length dc] 29 (0, 0)) := by rw [← hw4, ← hob]; exact heap_alloc_new _ _
  have hs4 : ob < w4.heap.size := (Array.getElem?_eq_some_iff.1 hr4).1
  have hz3 := hb3.size
  obtain ⟨k1, k2, k3, k4, k5, k6⟩ := hsn
  have hO4 : Hid (OwnX (fun g => g = ob) encSnp w4 mid 45 (.slice D l.length dc) l) := (k6.var (X' := fun g => g = ob) (fun g hg => Or.inr (by omega))).below hb4
  have hb04 : Below W0.heap.size W0 w4 := ext_trans (ext_trans hb1 hb3) hb4
  have hbw4 : Below n0 w w4 := hB0.trans (hb04.mono (by omega))
  have HA4 : Hid (SlAt (encSl encSec) w4 (Nw w1.heap.size mid) B im) := k5.blk (w' := w4) (fun g hg => hb4.block g (by have := hg.2; omega))
  have hvc : Hid (im.length ≤ vc ∧ vc ≤ maxLen) := ⟨k1, k2⟩
  have hmz : mid ≤ ob := by omega
  have hmid : w1.heap.size ≤ mid := k3
  clear k1 k2 k3 k5 k6 hw4 hb3 hb4
  obtain ⟨g, _, rfl, hg1, hg2, _⟩ := hO4.out.1.elem (i := k) hkl
  have hgob : Hid (g ≠ ob) := fun e => hO4.out.2 g rfl e
  obtain ⟨o0, o1, _⟩ := blk2 hr4
  cases k with
  | zero =>
    have hLS : Hid (delL l 0 = l.eraseIdx 0) := delL_zero l
    clear o0 o1
    have HDL := Lib.hid (deleteX g 0 l.length dc mid (fun g => g = ob) l w4 0 1 rfl rfl rfl hkl hO4.out (by omega))
    obtain ⟨o0, o1, of⟩ := blk2 hr4
    go_wp2_with fail
    refine HDL.out.mono ?_
    rintro e w7 ⟨rfl, hox, hg7⟩
    rw [show l.length = l.length from rfl] at hox ⊢
    have hz7 := hg7.size
    have hW := (hbw4).size
    have hro7 : w7.heap[ob]? = some (.cells #[.slice B im.length vc, .slice (some ⟨g, 0, none⟩) l.length dc] 29 (0, 0)) := (hg7.block ob (Array.getElem?_eq_some_iff.1 hr4).1 (fun e => by injection e with e; exact hgob.out e.symm)).trans hr4
    have hobz := (Array.getElem?_eq_some_iff.1 hr4).1
    have hrz7 : w7.heap[n0 + 1]? = some (.cells #[.slice none 0 0, .slice none 0 0] 29 (0, 0)) := (hg7.block (n0 + 1) (by omega) (fun e => by injection e with e; omega)).trans (HRZ.out w4 hb04)
    have hA7 : Hid (SlAt (encSl encSec) w7 (Nw w1.heap.size mid) B im) := (HA4.out).blk (fun b hb => hg7.block b (by have := hb.2; omega) (fun e => by injection e with e; have := hb.2; omega))
    have hB7 : Below n0 w w7 := (hbw4).grown hg7 (by omega) (fun b e => by injection e with e; omega)
    have hro8 := blk2_1 hro7 (.slice (some ⟨g, 0, none⟩) (l.length - 1) dc)
    have hrz8 := (heap_setCell_other w7 ⟨ob, 1, none⟩ (n0 + 1) (.slice (some ⟨g, 0, none⟩) (l.length - 1) dc) (by show n0 + 1 ≠ ob; omega)).trans hrz7
    have hO8 := Lib.hid (hox.set (p := ⟨ob, 1, none⟩) rfl (.slice (some ⟨g, 0, none⟩) (l.length - 1) dc))
    have hA8 : Hid (SlAt (encSl encSec) (w7.setCell ⟨ob, 1, none⟩ (.slice (some ⟨g, 0, none⟩) (l.length - 1) dc)) (Nw w1.heap.size mid) B im) := hA7.out.blk (fun g hg => heap_setCell_other _ _ _ _ (by have := hg.2; show g ≠ ob; omega))
    have hB8 : Below n0 w (w7.setCell ⟨ob, 1, none⟩ (.slice (some ⟨g, 0, none⟩) (l.length - 1) dc)) := hB7.setCell (p := ⟨ob, 1, none⟩) (by show n0 ≤ ob; omega) _
    have hz8 : mid ≤ (w7.setCell ⟨ob, 1, none⟩ (.slice (some ⟨g, 0, none⟩) (l.length - 1) dc)).heap.size := by simp [World.setCell]; omega
    clear o0 o1 of HDL hox hg7 hA7
    obtain ⟨o0, o1, of⟩ := blk2 hro7
    go_upto_region 10 with (fail)
    generalize w7.setCell ⟨ob, 1, none⟩ (.slice (some ⟨g, 0, none⟩) (l.length - 1) dc) = w8 at hro8 hrz8 hO8 hA8 hB8 hz8 ⊢
    clear o0 o1 of hro7 hrz7 hB7
    obtain ⟨o0, o1, _⟩ := blk2 hro8
    obtain ⟨q0, q1, qf⟩ := blk2 hrz8
    go_wp2_with fail
    have hz := blk2_set hrz8 (.slice B im.length vc) (.slice (some ⟨g, 0, none⟩) (l.length - 1) dc)
    have hbe := ((hB8.setCell (p := ⟨n0 + 1, 0, none⟩) (by show n0 ≤ n0 + 1; omega) (.slice B im.length vc)).setCell (p := ⟨n0 + 1, 1, none⟩) (by show n0 ≤ n0 + 1; omega) (.slice (some ⟨g, 0, none⟩) (l.length - 1) dc))
    have hse := (((show SnRet im (l.eraseIdx 0) B vc (some ⟨g, 0, none⟩) dc mid w1.heap.size w8 from ⟨hvc.out.1, hvc.out.2, by omega, hz8, hA8.out, by have := hO8.out.var (X' := fun _ => False) (fun g hg => hg.elim); rw [List.length_eraseIdx, if_pos (by rw [show l.length = l.length from rfl]; exact hkl), show l.length = l.length from rfl]; exact this⟩).set (p := ⟨n0 + 1, 0, none⟩) (by show n0 + 1 < w1.heap.size; omega) (.slice B im.length vc)).set (p := ⟨n0 + 1, 1, none⟩) (by show n0 + 1 < w1.heap.size; omega) (.slice (some ⟨g, 0, none⟩) (l.length - 1) dc))
    change bodyPost _ _ _ _ _ ((w8.setCell ⟨(n0 + 1), 0, none⟩ (.slice B im.length vc)).setCell ⟨(n0 + 1), 1, none⟩ (.slice (some ⟨g, 0, none⟩) (l.length - 1) dc))
    generalize (w8.setCell ⟨(n0 + 1), 0, none⟩ (.slice B im.length vc)).setCell ⟨(n0 + 1), 1, none⟩ (.slice (some ⟨g, 0, none⟩) (l.length - 1) dc) = W3 at hz hbe hse ⊢
    obtain ⟨z0, z1, _⟩ := blk2 hz
    refine bodyPost_ret (v := .tuple #[.agg #[(.slice B im.length vc), (.slice (some ⟨g, 0, none⟩) (l.length - 1) dc)], .int .i64 0]) ?_ rfl ?_
    · simp [results, Tryz.results22, Tryz.f22, go_sem, z0, z1]
    rw [hE.out, hS.out, hLS.out]
    exact ⟨B, vc, some ⟨g, 0, none⟩, dc, mid, by rw [List.length_eraseIdx, if_pos (by rw [show l.length = l.length from rfl]; exact hkl), show l.length = l.length from rfl], hse.low (by omega), by rw [hn0]; exact hbe⟩
  | succ j =>
    have hjl : j < l.length := by omega
    obtain ⟨ga, cs, ea, _, _, _, hcell, hfz, hrd⟩ := hO4.out.1.elem (i := j) hjl
    simp only [Option.some.injEq, Addr.mk.injEq, and_true] at ea
    subst ea
    obtain ⟨gb, cs2, eb, _, _, _, hcell2, _, hrd2⟩ := hO4.out.1.elem (i := j + 1) hkl
    simp only [Option.some.injEq, Addr.mk.injEq, and_true] at eb
    subst eb
    have hdel := delL_succ hkl
    have hv1 := HSV.out l[j] (List.getElem_mem hjl)
    have hv2 := HSV.out l[j + 1] (List.getElem_mem hkl)
    obtain ⟨x, hx⟩ : ∃ x, l[j] = x := ⟨_, rfl⟩
    obtain ⟨y, hy⟩ : ∃ y, l[j + 1] = y := ⟨_, rfl⟩
    rw [hx] at hrd hdel hv1
    rw [hy] at hrd2 hdel hv2
    obtain ⟨num1, tm1, sv1⟩ := x
    obtain ⟨num2, tm2, sv2⟩ := y
    obtain ⟨Dx, dx, rfl, i1, i2, j1, j2, j3⟩ := snp_cs hrd
    obtain ⟨Dy, dy, rfl, _, _, l1, l2, l3⟩ := snp_cs hrd2
    simp only at i1 i2 j1 j2 j3 l1 l2 l3 hdel hv1 hv2
    have d0 := hcell 0 _ rfl
    have d1 := hcell 1 _ rfl
    have d2 := hcell 2 _ rfl
    have t2 := hcell2 2 _ rfl
    simp only [show encSnp.size = 3 from rfl, Nat.add_zero] at d0 d1 d2 t2
    have HDEL := Lib.hid hdel
    have HI := Lib.hid (And.intro i1 i2)
    clear hcell hcell2 hrd hrd2 hdel hx hy i1 i2
    go_upto_region 7 with (fail)
    obtain ⟨ib, hib⟩ : ∃ ib, w4.heap.size = ib := ⟨_, rfl⟩
    obtain ⟨w5, hw5⟩ : ∃ w5, w4.alloc (.cells #[.int .i64 num1, .int .i64 tm1, .slice Dx sv1.length dx] 89) = w5 := ⟨_, rfl⟩
    rw [hw5, hib]
    have hb5 : Below w4.heap.size w4 w5 := by rw [← hw5]; exact ext_alloc (Below.refl _ _)
    have hr5 : w5.heap[ib]? = some (.cells #[.int .i64 num1, .int .i64 tm1, .slice Dx sv1.length dx] 89 (0, 0)) := by rw [← hw5, ← hib]; exact heap_alloc_new _ _
    have hs5 : ib < w5.heap.size := (Array.getElem?_eq_some_iff.1 hr5).1
    have hb05 : Below W0.heap.size W0 w5 := ext_trans hb04 hb5
    have hbw5 : Below n0 w w5 := hB0.trans (hb05.mono (by omega))
    have hj3 : Hid (SlAt encWr w5 (Bl w5.heap.size) Dx sv1) := (j3.blk (w' := w5) (fun g hg => hb5.block g hg.1.2)).more (fun g hg => by have := hg.1.2; show g < w5.heap.size; omega)
    have hl3 : Hid (SlAt encWr w5 (Bl w5.heap.size) Dy sv2) := (l3.blk (w' := w5) (fun g hg => hb5.block g hg.1.2)).more (fun g hg => by have := hg.1.2; show g < w5.heap.size; omega)
    have hsv7 := save_any ib num1 tm1 Dy Dx dy dx sv2.length sv2 sv1 w5 rfl hr5 hl3.out hj3.out ⟨l1, l2⟩ ⟨j1, j2⟩ (by omega)
    obtain ⟨rr, hrr⟩ : ∃ rr, foldL (sv2 ++ sv1) = rr := ⟨_, rfl⟩
    rw [hrr] at hsv7 HDEL
    have HSV7 := Lib.hid hsv7
    have HDD := Lib.hid (And.intro d0 (And.intro d1 d2))
    have hro5 := (hb5.block ob (by omega)).trans hr4
    have u2 : w5.cell? ⟨g, (j + 1) * 3 + 2, none⟩ = some (.slice Dy sv2.length dy) := (World.cell?_of_block (a := ⟨g, (j + 1) * 3 + 2, none⟩) (hb5.block g hg2)).trans (by simpa using t2)
    clear hsv7 o0 o1 d0 d1 d2 t2 j3 l3 hw5 hrr
    obtain ⟨o0, o1, _⟩ := blk2 hro5
    go_wp2_with fail
    refine HSV7.out.mono ?_
    rintro e w7 ⟨A8, c8, rfl, hr7, ⟨u1, u2', u3⟩, hg7⟩
    have hz7 := hg7.size
    have hz5 := hb5.size
    have hk7 : ∀ b, b < ib → w7.heap[b]? = w4.heap[b]? := fun b hb => (hg7.block b (by omega) (fun e => by injection e with e; omega)).trans (hb5.block b (by omega))
    have hro7 := (hk7 ob (by omega)).trans hr4
    have hO7 : Hid (OwnX (fun g => g = ob) encSnp w7 mid 45 (.slice (some ⟨g, 0, none⟩) l.length dc) l) := hO4.out.keep (by omega) (fun b _ hb _ => hk7 b (by omega))
    have hO8 : Hid (OwnX (fun g => g = ob) encSnp (st3 w7 g j (.int .i64 num1) (.int .i64 tm1) (.slice A8 rr.length c8)) mid 45 (.slice (some ⟨g, 0, none⟩) l.length dc) (l.set j (num1, tm1, rr))) :=
      hO7.out.storeS hjl HI.out.1 HI.out.2 u1 u2' (u3.more (fun b hb => ⟨⟨by have := hb.1; omega, hb.2⟩, by have := hb.1; omega, by have := hb.1; omega⟩))
    have hB7 : Below n0 w w7 := hbw5.trans ⟨hg7.os, hg7.tape, hg7.output, hz7, fun b hb => hg7.block b (by omega) (fun e => by injection e with e; omega)⟩
    have hB07 : Below W0.heap.size W0 w7 := hb05.trans ⟨hg7.os, hg7.tape, hg7.output, hz7, fun b hb => hg7.block b (by have := hb04.size; omega) (fun e => by have := hb04.size; injection e with e; omega)⟩
    have hA7 : Hid (SlAt (encSl encSec) (st3 w7 g j (.int .i64 num1) (.int .i64 tm1) (.slice A8 rr.length c8)) (Nw w1.heap.size mid) B im) := HA4.out.blk (fun b hb => (st3_other (by have := hb.2; omega)).trans (hk7 b (by have := hb.2; omega)))
    have hfz7 : ∀ j, w7.frozen? ⟨g, j, none⟩ = false := fun j => (World.frozen?_of_block (a := ⟨g, j, none⟩) (hk7 g (by omega))).trans (hfz j)
    have hB8 : Below n0 w (st3 w7 g j (.int .i64 num1) (.int .i64 tm1) (.slice A8 rr.length c8)) := ((hB7.setCell (p := ⟨g, j * 3, none⟩) (by show n0 ≤ g; omega) _).setCell (p := ⟨g, j * 3 + 1, none⟩) (by show n0 ≤ g; omega) _).setCell (p := ⟨g, j * 3 + 2, none⟩) (by show n0 ≤ g; omega) _
    have hB08 : Below W0.heap.size W0 (st3 w7 g j (.int .i64 num1) (.int .i64 tm1) (.slice A8 rr.length c8)) := ((hB07.setCell (p := ⟨g, j * 3, none⟩) (by show W0.heap.size ≤ g; omega) _).setCell (p := ⟨g, j * 3 + 1, none⟩) (by show W0.heap.size ≤ g; omega) _).setCell (p := ⟨g, j * 3 + 2, none⟩) (by show W0.heap.size ≤ g; omega) _
    have hro8 : (st3 w7 g j (.int .i64 num1) (.int .i64 tm1) (.slice A8 rr.length c8)).heap[ob]? = some (.cells #[.slice B im.length vc, .slice (some ⟨g, 0, none⟩) l.length dc] 29 (0, 0)) := (st3_other (fun e => hgob.out e.symm)).trans hro7
    clear o0 o1
    obtain ⟨o0, o1, _⟩ := blk2 hro7
    obtain ⟨x0, x1, x2, _⟩ := blk3 hr7
    have f0 := hfz7 (j * 3)
    have f1 := hfz7 (j * 3 + 1)
    have f2 := hfz7 (j * 3 + 2)
    have hkg := hk7 g (by omega)
    have d0 := (World.cell?_of_block (a := ⟨g, j * 3, none⟩) hkg).trans HDD.out.1
    have d1 := (World.cell?_of_block (a := ⟨g, j * 3 + 1, none⟩) hkg).trans HDD.out.2.1
    have d2 := (World.cell?_of_block (a := ⟨g, j * 3 + 2, none⟩) hkg).trans HDD.out.2.2
    clear HSV7 u3 hg7 hfz hfz7 hro7 hkg u2
    go_upto_region 9 with (fail)
    change Code.wp _ _ _ _ (st3 w7 g j (.int .i64 num1) (.int .i64 tm1) (.slice A8 rr.length c8))
    generalize st3 w7 g j (.int .i64 num1) (.int .i64 tm1) (.slice A8 rr.length c8) = w8 at hO8 hA7 hB8 hB08 hro8 ⊢
    clear o0 o1 x0 x1 x2 f0 f1 f2 d0 d1 d2
    obtain ⟨LS, hLSd⟩ : ∃ LS, Hid (l.set j (num1, tm1, rr) = LS) := ⟨_, rfl⟩
    have hLSl : Hid (LS.length = l.length) := by rw [← hLSd.out, Hid, List.length_set]
    rw [hLSd.out] at hO8 HDEL
    have hLS : Hid (delL l (j + 1) = LS.eraseIdx (j + 1)) := HDEL
    clear HDEL hLSd
    have hjj : ((j + 1 : Nat) : Int) = (j : Int) + 1 := by omega
    have HDL := Lib.hid (deleteX g (j + 1) l.length dc mid (fun g => g = ob) LS w8 ((j : Int) + 1) ((j : Int) + 1 + 1) (by omega) (by omega) hLSl.out hkl hO8.out (by omega))
    obtain ⟨o0, o1, of⟩ := blk2 hro8
    go_wp2_with fail
    refine HDL.out.mono ?_
    rintro e w7 ⟨rfl, hox, hg7⟩
    rw [show LS.length = l.length from hLSl.out] at hox ⊢
    have hz7 := hg7.size
    have hW := (hB8).size
    have hro7 : w7.heap[ob]? = some (.cells #[.slice B im.length vc, .slice (some ⟨g, 0, none⟩) l.length dc] 29 (0, 0)) := (hg7.block ob (Array.getElem?_eq_some_iff.1 hro8).1 (fun e => by injection e with e; exact hgob.out e.symm)).trans hro8
    have hobz := (Array.getElem?_eq_some_iff.1 hro8).1
    have hrz7 : w7.heap[n0 + 1]? = some (.cells #[.slice none 0 0, .slice none 0 0] 29 (0, 0)) := (hg7.block (n0 + 1) (by omega) (fun e => by injection e with e; omega)).trans (HRZ.out w8 hB08)
    have hA7 : Hid (SlAt (encSl encSec) w7 (Nw w1.heap.size mid) B im) := (hA7.out).blk (fun b hb => hg7.block b (by have := hb.2; omega) (fun e => by injection e with e; have := hb.2; omega))
    have hB7 : Below n0 w w7 := (hB8).grown hg7 (by omega) (fun b e => by injection e with e; omega)
    have hro8 := blk2_1 hro7 (.slice (some ⟨g, 0, none⟩) (l.length - 1) dc)
    have hrz8 := (heap_setCell_other w7 ⟨ob, 1, none⟩ (n0 + 1) (.slice (some ⟨g, 0, none⟩) (l.length - 1) dc) (by show n0 + 1 ≠ ob; omega)).trans hrz7
    have hO8 := Lib.hid (hox.set (p := ⟨ob, 1, none⟩) rfl (.slice (some ⟨g, 0, none⟩) (l.length - 1) dc))
    have hA8 : Hid (SlAt (encSl encSec) (w7.setCell ⟨ob, 1, none⟩ (.slice (some ⟨g, 0, none⟩) (l.length - 1) dc)) (Nw w1.heap.size mid) B im) := hA7.out.blk (fun g hg => heap_setCell_other _ _ _ _ (by have := hg.2; show g ≠ ob; omega))
    have hB8 : Below n0 w (w7.setCell ⟨ob, 1, none⟩ (.slice (some ⟨g, 0, none⟩) (l.length - 1) dc)) := hB7.setCell (p := ⟨ob, 1, none⟩) (by show n0 ≤ ob; omega) _
    have hz8 : mid ≤ (w7.setCell ⟨ob, 1, none⟩ (.slice (some ⟨g, 0, none⟩) (l.length - 1) dc)).heap.size := by simp [World.setCell]; omega
    clear o0 o1 of HDL hox hg7 hA7
    obtain ⟨o0, o1, of⟩ := blk2 hro7
    go_upto_region 10 with (fail)
    generalize w7.setCell ⟨ob, 1, none⟩ (.slice (some ⟨g, 0, none⟩) (l.length - 1) dc) = w8 at hro8 hrz8 hO8 hA8 hB8 hz8 ⊢
    clear o0 o1 of hro7 hrz7 hB7
    obtain ⟨o0, o1, _⟩ := blk2 hro8
    obtain ⟨q0, q1, qf⟩ := blk2 hrz8
    go_wp2_with fail
    have hz := blk2_set hrz8 (.slice B im.length vc) (.slice (some ⟨g, 0, none⟩) (l.length - 1) dc)
    have hbe := ((hB8.setCell (p := ⟨n0 + 1, 0, none⟩) (by show n0 ≤ n0 + 1; omega) (.slice B im.length vc)).setCell (p := ⟨n0 + 1, 1, none⟩) (by show n0 ≤ n0 + 1; omega) (.slice (some ⟨g, 0, none⟩) (l.length - 1) dc))
    have hse := (((show SnRet im (LS.eraseIdx (j + 1)) B vc (some ⟨g, 0, none⟩) dc mid w1.heap.size w8 from ⟨hvc.out.1, hvc.out.2, by omega, hz8, hA8.out, by have := hO8.out.var (X' := fun _ => False) (fun g hg => hg.elim); rw [List.length_eraseIdx, if_pos (by rw [show LS.length = l.length from hLSl.out]; exact hkl), show LS.length = l.length from hLSl.out]; exact this⟩).set (p := ⟨n0 + 1, 0, none⟩) (by show n0 + 1 < w1.heap.size; omega) (.slice B im.length vc)).set (p := ⟨n0 + 1, 1, none⟩) (by show n0 + 1 < w1.heap.size; omega) (.slice (some ⟨g, 0, none⟩) (l.length - 1) dc))
    change bodyPost _ _ _ _ _ ((w8.setCell ⟨(n0 + 1), 0, none⟩ (.slice B im.length vc)).setCell ⟨(n0 + 1), 1, none⟩ (.slice (some ⟨g, 0, none⟩) (l.length - 1) dc))
    generalize (w8.setCell ⟨(n0 + 1), 0, none⟩ (.slice B im.length vc)).setCell ⟨(n0 + 1), 1, none⟩ (.slice (some ⟨g, 0, none⟩) (l.length - 1) dc) = W3 at hz hbe hse ⊢
    obtain ⟨z0, z1, _⟩ := blk2 hz
    refine bodyPost_ret (v := .tuple #[.agg #[(.slice B im.length vc), (.slice (some ⟨g, 0, none⟩) (l.length - 1) dc)], .int .i64 0]) ?_ rfl ?_
    · simp [results, Tryz.results22, Tryz.f22, go_sem, z0, z1]
    rw [hE.out, hS.out, hLS.out]
    exact ⟨B, vc, some ⟨g, 0, none⟩, dc, mid, by rw [List.length_eraseIdx, if_pos (by rw [show LS.length = l.length from hLSl.out]; exact hkl), show LS.length = l.length from hLSl.out], hse.low (by omega), by rw [hn0]; exact hbe⟩
end Go.Proofs.YtnkmklnlaepdeaaGreat

/-
  Owned lists of sectors: copies, stores; the tree of changed sectors, in plain words.
-/
import Derived.Test.YthneomehfmjbkaaJh
set_option linter.unusedVariables false
set_option linter.unusedSimpArgs false
set_option linter.unusedSectionVars false
set_option linter.unnecessarySimpa false
namespace Go.Proofs.Ythneomehfmjbkaa
open Go.RowKit Go.Shelf
attribute [local go_sem] Oper.semAt_some

theorem tySecs11 : SliceTy Try.prog 22 50 8 8 := sliceTy_mk (z := .agg #[.int .u8 0, .int .u8 0, .int .u8 0, .int .u8 0, .int .u8 0, .int .u8 0, .int .u8 0, .int .u8 0]) Try.underlying22 (by kernel_rfl) rfl (by decide)
theorem flatten_set8 : ∀ (css : List (List Value)) (k : Nat) (v0 v1 v2 v3 v4 v5 v6 v7 : Value), (∀ cs ∈ css, cs.length = 8) → k < css.length →
    (css.set k [v0, v1, v2, v3, v4, v5, v6, v7]).flatten = (((((((css.flatten.set (k * 8) v0).set (k * 8 + 1) v1).set (k * 8 + 2) v2).set (k * 8 + 3) v3).set (k * 8 + 4) v4).set (k * 8 + 5) v5).set (k * 8 + 6) v6).set (k * 8 + 7) v7
  | [], k, _, _, _, _, _, _, _, _, _, hk => by simp at hk
  | cs :: css, 0, v0, v1, v2, v3, v4, v5, v6, v7, h, _ => by
    have h8 := h cs (by simp)
    match cs, h8 with
    | [a, b, c, d, e, f, g, i], _ => simp
  | cs :: css, k + 1, v0, v1, v2, v3, v4, v5, v6, v7, h, hk => by
    have h8 := h cs (by simp)
    have ih := flatten_set8 css k v0 v1 v2 v3 v4 v5 v6 v7 (fun x hx => h x (by simp [hx])) (by simpa using hk)
    have e : ∀ j (l : List Value) v, (cs ++ l).set ((k + 1) * 8 + j) v = cs ++ l.set (k * 8 + j) v := fun j l v => by
      rw [List.set_append_right _ _ (by omega)]
      congr 2; omega
    have e0 : ∀ (l : List Value) v, (cs ++ l).set ((k + 1) * 8) v = cs ++ l.set (k * 8) v := fun l v => by simpa using e 0 l v
    rw [List.set_cons_succ, List.flatten_cons, List.flatten_cons, ih, e0, e, e, e, e, e, e, e]
theorem All2_secs {w : World} {S : Nat → Prop} : ∀ {css : List (List Value)} {l : List Sec}, All2 (encSec.rd w S) css l → ∀ w' S', All2 (encSec.rd w' S') css l
  | [], [], _, _, _ => trivial
  | [], _ :: _, h, _, _ => h.elim
  | _ :: _, [], h, _, _ => h.elim
  | cs :: css, x :: l, h, w', S' => ⟨h.1, All2_secs h.2 w' S'⟩
/-- a sector more in an owned list -/
theorem Own.setSec {w : World} {base g n c : Nat} {e : TypeId} {l : List Sec} (h : Own encSec w base e (fun _ => False) (.slice (some ⟨g, 0, none⟩) n c) l) (hn : l.length = n) {k : Nat} (hk : k < l.length) {x0 x1 x2 x3 x4 x5 x6 x7 : Int} (hs : OkSec [x0, x1, x2, x3, x4, x5, x6, x7]) :
    Own encSec ((((((((w.setCell ⟨g, k * 8, none⟩ (.int .u8 x0)).setCell ⟨g, k * 8 + 1, none⟩ (.int .u8 x1)).setCell ⟨g, k * 8 + 2, none⟩ (.int .u8 x2)).setCell ⟨g, k * 8 + 3, none⟩ (.int .u8 x3)).setCell ⟨g, k * 8 + 4, none⟩ (.int .u8 x4)).setCell ⟨g, k * 8 + 5, none⟩ (.int .u8 x5)).setCell ⟨g, k * 8 + 6, none⟩ (.int .u8 x6)).setCell ⟨g, k * 8 + 7, none⟩ (.int .u8 x7)) base e (fun _ => False) (.slice (some ⟨g, 0, none⟩) n c) (l.set k [x0, x1, x2, x3, x4, x5, x6, x7]) := by
  obtain ⟨css, h1, h2, h3⟩ := h
  subst hn
  have hsz := All2.sizes h2
  have hkc : k < css.length := by rw [h2.length]; exact hk
  have r1 := (h1.stored (k * 8) (.int .u8 x0)).1
  have r2 := (r1.stored (k * 8 + 1) (.int .u8 x1)).1
  have r3 := (r2.stored (k * 8 + 2) (.int .u8 x2)).1
  have r4 := (r3.stored (k * 8 + 3) (.int .u8 x3)).1
  have r5 := (r4.stored (k * 8 + 4) (.int .u8 x4)).1
  have r6 := (r5.stored (k * 8 + 5) (.int .u8 x5)).1
  have r7 := (r6.stored (k * 8 + 6) (.int .u8 x6)).1
  have r8 := (r7.stored (k * 8 + 7) (.int .u8 x7)).1
  rw [← flatten_set8 css k _ _ _ _ _ _ _ _ hsz hkc] at r8
  refine ⟨css.set k [.int .u8 x0, .int .u8 x1, .int .u8 x2, .int .u8 x3, .int .u8 x4, .int .u8 x5, .int .u8 x6, .int .u8 x7], ?_, All2.set (All2_secs h2 _ _) ⟨rfl, hs⟩, h3⟩
  rw [List.length_set]; exact r8
theorem Own.cellSec {w : World} {base g n c : Nat} {e : TypeId} {l : List Sec} (h : Own encSec w base e (fun _ => False) (.slice (some ⟨g, 0, none⟩) n c) l) (hn : l.length = n) {k : Nat} (hk : k < l.length) :
    (∀ r, r < 8 → ∃ u, w.cell? ⟨g, k * 8 + r, none⟩ = some u) ∧ ∀ j, w.frozen? ⟨g, j, none⟩ = false := by
  obtain ⟨css, h1, h2, h3⟩ := h
  subst hn
  have hsz := All2.sizes h2
  have hlen : css.flatten.length = l.length * 8 := by rw [flatten_len 8 css hsz, h2.length]
  refine ⟨fun r hr => ?_, fun j => h1.frozenAt j⟩
  have hlt : k * 8 + r < l.length * 8 := by omega
  refine ⟨css.flatten[k * 8 + r]'(by omega), ?_⟩
  rw [h1.cellAt (k * 8 + r) hlt, List.getElem?_eq_getElem]
set_option maxHeartbeats 4000000 in
theorem cloneSecs_own (A : Option Addr) (c n : Nat) (l : List Sec) (w : World) (hn : l.length = n) (h0 : 1 ≤ n) (h1 : SlAt encSec w (Bl w.heap.size) A l) (hl : n ≤ 1000000) :
    Calls Try.prog 22 #[.slice A n c] w fun e w' => ∃ g c', e = .returned (.slice (some ⟨g, 0, none⟩) n c') ∧ n ≤ c' ∧ c' ≤ maxLen ∧ Own encSec w' w.heap.size 50 (fun _ => False) (.slice (some ⟨g, 0, none⟩) n c') l ∧ Below w.heap.size w w' := by
  obtain ⟨b, off, rfl, _⟩ := h1.some_ (by intro e; rw [e] at hn; simp at hn; omega)
  have hO := Lib.hid (show Own encSec (w.alloc (.cells #[] 50)) w.heap.size 50 (Bl w.heap.size) (.slice (some ⟨w.heap.size, 0, none⟩) 0 0) [] from Own.make0 (cur := #[]) (Nat.le_refl _) (by unfold maxLen; omega) rfl (fun h => Nat.lt_irrefl _ h))
  have hsrc := Lib.hid (show SlAt encSec (w.alloc (.cells #[] 50)) (Bl w.heap.size) (some ⟨b, off, none⟩) l from h1.below (ext_alloc (Below.refl _ _)))
  clear h1
  have hE := fun W => Lib.run_eql_slice_nil (P := Try.prog) W 22 50 (some ⟨b, off, none⟩) n c 0 0 Try.underlying22
  go_enter Try.func22, Try.ntmps22
  go_wp2_with (at_builtin; refine Hid.out ?_)
  change wpList _ _ _ _ _ _
  refine wpList_appAll (E := encSec) tySecs11 rfl _ _ rfl rfl hO.out rfl hn.symm hsrc.out (fun g hg => by simp; have : g < w.heap.size := hg; omega) (by simp) (by unfold maxLen; simp; omega) (by simp; omega) ?_
  intro A5 c5 w5 hown5 hg5 hat5
  simp only [List.length_nil, Nat.zero_add, List.nil_append] at hown5
  have hB5 : Below w.heap.size w w5 := (ext_alloc (o := .cells #[] 50) (Below.refl w.heap.size w)).grown hg5 (by simp) (fun g hg => (hO.out.lt g hg).1)
  have hfin : Hid (∃ g, A5 = some ⟨g, 0, none⟩ ∧ n ≤ c5 ∧ c5 ≤ maxLen ∧ Own encSec w5 w.heap.size 50 (fun _ => False) (.slice (some ⟨g, 0, none⟩) n c5) l) := by
    have hf : Own encSec w5 w.heap.size 50 (fun _ => False) (.slice A5 n c5) l := by
      obtain ⟨css, f1, f2, f3⟩ := hown5
      exact ⟨css, f1, All2_secs f2 _ _, fun _ _ h => h⟩
    obtain ⟨css, i1, i2⟩ := hf
    rcases i1.2 with ⟨h', hz⟩ | ⟨g', cap', cur, h', _, _, hnc, hcm, _⟩
    · omega
    · simp only [Value.slice.injEq] at h'
      obtain ⟨rfl, h6, rfl⟩ := h'
      exact ⟨g', rfl, by omega, hcm, css, i1, i2⟩
  clear hown5 hg5 hat5
  go_wp2
  go_ret
  obtain ⟨g, rfl, k1, k2, k3⟩ := hfin.out
  exact ⟨g, c5, rfl, k1, k2, k3, hB5⟩
/-- a list with some places changed -/
def chg (l : List Sec) (st : Nat) (d : List Sec) : List Sec := (List.range l.length).map fun i => if st ≤ i ∧ i < st + d.length then d.getD (i - st) [] else l.getD i []
theorem chg_len (l : List Sec) (st : Nat) (d : List Sec) : (chg l st d).length = l.length := by simp [chg]
theorem chg_at {l : List Sec} {st i : Nat} {d : List Sec} (h : i < l.length) : (chg l st d)[i]'(by rw [chg_len]; exact h) = if st ≤ i ∧ i < st + d.length then d.getD (i - st) [] else l[i] := by
  simp only [chg, List.getElem_map, List.getElem_range]
  by_cases hc : st ≤ i ∧ i < st + d.length
  · rw [if_pos hc, if_pos hc]
  · rw [if_neg hc, if_neg hc, List.getD_eq_getElem?_getD, List.getElem?_eq_getElem h]; rfl
theorem chg_nil (l : List Sec) (st : Nat) : chg l st [] = l := by
  refine List.ext_getElem (chg_len _ _ _) fun i h1 h2 => ?_
  rw [chg_at h2, if_neg (by simp only [List.length_nil]; omega)]
theorem chg_step {l : List Sec} {st j : Nat} {d : List Sec} (hj : j < d.length) : chg l st (d.take (j + 1)) = (chg l st (d.take j)).set (st + j) d[j] := by
  refine List.ext_getElem (by simp [chg_len]) fun i h1 h2 => ?_
  have hi : i < l.length := by rw [chg_len] at h1; exact h1
  rw [chg_at hi, List.getElem_set, chg_at hi]
  have e1 : (d.take (j + 1)).length = j + 1 := by rw [List.length_take]; omega
  have e2 : (d.take j).length = j := by rw [List.length_take]; omega
  rw [e1, e2]
  by_cases h : st + j = i
  · subst h
    rw [if_pos (by omega), if_pos rfl]
    have : st + j - st = j := by omega
    rw [this, List.getD_eq_getElem?_getD, List.getElem?_take_of_lt (by omega), List.getElem?_eq_getElem hj]; rfl
  · rw [if_neg h]
    by_cases h3 : st ≤ i ∧ i < st + j
    · rw [if_pos h3, if_pos (by omega), List.getD_eq_getElem?_getD, List.getD_eq_getElem?_getD, List.getElem?_take_of_lt (by omega), List.getElem?_take_of_lt (by omega)]
    · rw [if_neg h3, if_neg (by omega)]
theorem leafAt_chg {l : List Sec} {st m i : Nat} {d : List Sec} (hfit : st + d.length ≤ l.length) (h : inLeaf m (st : Int) (d.length : Int) i = false) : leafAt (chg l st d) m i = leafAt l m i := by
  refine List.ext_getElem (by rw [leafAt_len, leafAt_len, chg_len]) fun j h1 h2 => ?_
  rw [leafAt_len] at h2
  have hij : i * m + j < l.length := by omega
  simp only [leafAt, List.getElem_take, List.getElem_drop]
  rw [chg_at hij, if_neg]
  intro hc
  unfold inLeaf at h
  rw [decide_eq_false_iff_not] at h
  apply h
  have e1 : ((i + 1 : Nat) : Int) * (m : Int) = ((i * m + m : Nat) : Int) := by rw [← Int.natCast_mul, Nat.succ_mul]
  have e2 : (i : Int) * (m : Int) = ((i * m : Nat) : Int) := by simp
  rw [e1, e2]
  omega
theorem upd_chg {l : List Sec} {st m : Nat} {d : List Sec} (hfit : st + d.length ≤ l.length) : updL (chg l st d) m (st : Int) (d.length : Int) (digests l m) = digests (chg l st d) m := by
  refine List.ext_getElem (by rw [updL_len, digests_len, digests_len, chg_len]) fun i h1 h2 => ?_
  have hi : i < (digests l m).length := by rw [updL_len] at h1; exact h1
  simp only [updL, digests, List.getElem_map, List.getElem_range]
  by_cases h : inLeaf m (st : Int) (d.length : Int) i = true
  · rw [if_pos h]
  · have h' : inLeaf m (st : Int) (d.length : Int) i = false := by simpa using h
    rw [if_neg h, leafAt_chg hfit h', List.getD_eq_getElem?_getD, List.getElem?_eq_getElem (by simpa [digests] using hi)]
    simp
theorem follow_ok {l : List Sec} {st m : Nat} {d : List Sec} (hn : 1 ≤ l.length ∧ l.length ≤ 4096) (hm : 1 ≤ m ∧ m ≤ 4096) (hfit : st + d.length ≤ l.length) :
    updE ((l.length : Int), (m : Int), levels (digests l m)) (chg l st d) ((st : Int), (d.length : Int)) = 0 ∧
    updT ((l.length : Int), (m : Int), levels (digests l m)) (chg l st d) ((st : Int), (d.length : Int)) = ((l.length : Int), (m : Int), levels (digests (chg l st d) m)) := by
  have h : updE ((l.length : Int), (m : Int), levels (digests l m)) (chg l st d) ((st : Int), (d.length : Int)) = 0 := by
    unfold updE
    rw [(build_ok hn hm).2.2, if_neg (by decide), if_neg (by simp [chg_len]), if_neg (by simp only []; omega)]
  refine ⟨h, ?_⟩
  rw [updT_ok h]
  have e : (levels (digests l m)).headD [] = digests l m := levels_head _
  have e2 : updL (chg l st d) ((m : Int)).toNat (st : Int) (d.length : Int) (digests l m) = digests (chg l st d) m := upd_chg hfit
  simp only [e]
  rw [e2]
end Go.Proofs.Ythneomehfmjbkaa

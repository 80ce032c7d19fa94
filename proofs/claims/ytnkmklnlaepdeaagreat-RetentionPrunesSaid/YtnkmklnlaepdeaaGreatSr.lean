/-
  Owned lists of sectors: stores; append of all elements at a step of a region that draws its order. No program in sight.
  Writes that a call owns; the reference's CopyWrites.
-/
import Derived.Test.YtnkmklnlaepdeaaGreatLaws
import Derived.Test.YtnkmklnlaepdeaaGreatSn5
import Derived.BigRegion
set_option linter.unusedVariables false
set_option linter.unusedSimpArgs false
set_option linter.unusedSectionVars false
set_option linter.unnecessarySimpa false
namespace Go.Proofs.YtnkmklnlaepdeaaGreat
open Go.RowKit Go.Shelf
attribute [local go_sem] Oper.semAt_some

theorem flatten_set8 : ∀ (css : List (List Value)) (k : Nat) (v0 v1 v2 v3 v4 v5 v6 v7 : Value), (∀ cs ∈ css, cs.length = 8) → k < css.length →
    (css.set k [v0, v1, v2, v3, v4, v5, v6, v7]).flatten = (((((((css.flatten.set (k * 8) v0).set (k * 8 + 1) v1).set (k * 8 + 2) v2).set (k * 8 + 3) v3).set (k * 8 + 4) v4).set (k * 8 + 5) v5).set (k * 8 + 6) v6).set (k * 8 + 7) v7
  | [], k, _, _, _, _, _, _, _, _, _, hk => by simp at hk
  | cs :: css, 0, v0, v1, v2, v3, v4, v5, v6, v7, h, _ => by
    have h8 := h cs (by simp)
    match cs, h8 with
    | [a, b, c, d, e, f, g, i], _ => simp
  | cs :: css, k + 1, v0, v1, v2, v3, v4, v5, v6, v7, h, hk => by
    have h8 := h cs (by simp)
    have ih := flatten_set8 css k v0 v1 v2 v3 v4 v5 v6 v7 (fun x hx => h x (by simp [hx])) (by simpa using hk)
    have e : ∀ j (l : List Value) v, (cs ++ l).set ((k + 1) * 8 + j) v = cs ++ l.set (k * 8 + j) v := fun j l v => by
      rw [List.set_append_right _ _ (by omega)]
      congr 2; omega
    have e0 : ∀ (l : List Value) v, (cs ++ l).set ((k + 1) * 8) v = cs ++ l.set (k * 8) v := fun l v => by simpa using e 0 l v
    rw [List.set_cons_succ, List.flatten_cons, List.flatten_cons, ih, e0, e, e, e, e, e, e, e]
theorem All2_secs {w : World} {S : Nat → Prop} : ∀ {css : List (List Value)} {l : List Sec}, All2 (encSec.rd w S) css l → ∀ w' S', All2 (encSec.rd w' S') css l
  | [], [], _, _, _ => trivial
  | [], _ :: _, h, _, _ => h.elim
  | _ :: _, [], h, _, _ => h.elim
  | cs :: css, x :: l, h, w', S' => ⟨h.1, All2_secs h.2 w' S'⟩
/-- a sector more in an owned list -/
theorem Own.setSec {w : World} {base g n c : Nat} {e : TypeId} {l : List Sec} (h : Own encSec w base e (fun _ => False) (.slice (some ⟨g, 0, none⟩) n c) l) (hn : l.length = n) {k : Nat} (hk : k < l.length) {x0 x1 x2 x3 x4 x5 x6 x7 : Int} (hs : OkSec [x0, x1, x2, x3, x4, x5, x6, x7]) :
    Own encSec ((((((((w.setCell ⟨g, k * 8, none⟩ (.int .u8 x0)).setCell ⟨g, k * 8 + 1, none⟩ (.int .u8 x1)).setCell ⟨g, k * 8 + 2, none⟩ (.int .u8 x2)).setCell ⟨g, k * 8 + 3, none⟩ (.int .u8 x3)).setCell ⟨g, k * 8 + 4, none⟩ (.int .u8 x4)).setCell ⟨g, k * 8 + 5, none⟩ (.int .u8 x5)).setCell ⟨g, k * 8 + 6, none⟩ (.int .u8 x6)).setCell ⟨g, k * 8 + 7, none⟩ (.int .u8 x7)) base e (fun _ => False) (.slice (some ⟨g, 0, none⟩) n c) (l.set k [x0, x1, x2, x3, x4, x5, x6, x7]) := by
  obtain ⟨css, h1, h2, h3⟩ := h
  subst hn
  have hsz := All2.sizes h2
  have hkc : k < css.length := by rw [h2.length]; exact hk
  have r1 := (h1.stored (k * 8) (.int .u8 x0)).1
  have r2 := (r1.stored (k * 8 + 1) (.int .u8 x1)).1
  have r3 := (r2.stored (k * 8 + 2) (.int .u8 x2)).1
  have r4 := (r3.stored (k * 8 + 3) (.int .u8 x3)).1
  have r5 := (r4.stored (k * 8 + 4) (.int .u8 x4)).1
  have r6 := (r5.stored (k * 8 + 5) (.int .u8 x5)).1
  have r7 := (r6.stored (k * 8 + 6) (.int .u8 x6)).1
  have r8 := (r7.stored (k * 8 + 7) (.int .u8 x7)).1
  rw [← flatten_set8 css k _ _ _ _ _ _ _ _ hsz hkc] at r8
  refine ⟨css.set k [.int .u8 x0, .int .u8 x1, .int .u8 x2, .int .u8 x3, .int .u8 x4, .int .u8 x5, .int .u8 x6, .int .u8 x7], ?_, All2.set (All2_secs h2 _ _) ⟨rfl, hs⟩, h3⟩
  rw [List.length_set]; exact r8
theorem Own.cellSec {w : World} {base g n c : Nat} {e : TypeId} {l : List Sec} (h : Own encSec w base e (fun _ => False) (.slice (some ⟨g, 0, none⟩) n c) l) (hn : l.length = n) {k : Nat} (hk : k < l.length) :
    (∀ r, r < 8 → ∃ u, w.cell? ⟨g, k * 8 + r, none⟩ = some u) ∧ ∀ j, w.frozen? ⟨g, j, none⟩ = false := by
  obtain ⟨css, h1, h2, h3⟩ := h
  subst hn
  have hsz := All2.sizes h2
  have hlen : css.flatten.length = l.length * 8 := by rw [flatten_len 8 css hsz, h2.length]
  refine ⟨fun r hr => ?_, fun j => h1.frozenAt j⟩
  have hlt : k * 8 + r < l.length * 8 := by omega
  refine ⟨css.flatten[k * 8 + r]'(by omega), ?_⟩
  rw [h1.cellAt (k * 8 + r) hlt, List.getElem?_eq_getElem]
/-- append of all elements of a slice, at a step of a region that draws its order -/
theorem step_appAll {P : Program} {w : World} {α : Type} {E : Enc α} {t e : TypeId} {bytes : Nat} {ops : Array Oper} {o : Oper} {a : Act} {Q : Exit → Act → World → Prop} {K : Act → World → Prop} {X : Prop} (hT : SliceTy P t e E.size bytes) (hgd : o.guard = none) (s x : Operand) (ho : o.op = .call { callee := .builtin .append, args := #[s, x], argTypes := #[t, t] })
    {base : Nat} {S : Nat → Prop} {v : Value} {l : List α} (hs : a.eval s = v) (hown : Own E w base e S v l) {ad : Option Addr} {c m : Nat} {news : List α} (hx : a.eval x = .slice ad m c)
    (hm : m = news.length) (hr : SlAt E w S ad news) (hS : ∀ b, S b → b < w.heap.size) (hbase : base ≤ w.heap.size)
    (h63 : l.length + m ≤ maxLen) (hbytes : (l.length + m) * bytes ≤ 140737488355328)
    (h : ∀ A c' w', Own E w' base e S (.slice A (l.length + m) c') (l ++ news) → w.grownBy w' v.ownBlock → ((Value.slice A (l.length + m) c').ownBlock = v.ownBlock ∨ (Value.slice A (l.length + m) c').ownBlock = some w.heap.size) → K (a.put o.dst (.slice A (l.length + m) c')) w') :
    if Region.wanted o (yielded ops a.tmps) = true then Oper.wp P o a w K Q else X := by
  have hw : Region.wanted o (yielded ops a.tmps) = true := by simp [Region.wanted, hgd]
  rw [if_pos hw]
  have hrun : ∃ A c' w', (Builtin.append_ #[t, t] o.type #[v, .slice ad m c]).run P w = .ok (.slice A (l.length + m) c') w' ∧ Own E w' base e S (.slice A (l.length + m) c') (l ++ news) ∧ w.grownBy w' v.ownBlock ∧
      ((Value.slice A (l.length + m) c').ownBlock = v.ownBlock ∨ (Value.slice A (l.length + m) c').ownBlock = some w.heap.size) := by
    by_cases hn : news = []
    · subst hn
      exact run_app (P := P) (c := c) hT o.type hown (news := []) (css := []) hm trivial (fun h => absurd rfl h) hS hbase h63 hbytes
    · obtain ⟨b, off, rfl, _⟩ := hr.some_ hn
      obtain ⟨css, h1, h2, h3, h4⟩ := hr.row
      exact run_app (P := P) (c := c) hT o.type hown (news := news) (css := css) hm h3 (fun _ => ⟨_, rfl, h4⟩) hS hbase h63 hbytes
  obtain ⟨A, c', w', hr, h2, h3, h4⟩ := hrun
  unfold Oper.wp execOp
  simp only [ho, resolve, invoke, builtin, Sem.run_bind, Sem.run_pure, Result.andThen_ok, List.map_toArray, List.map_cons, List.map_nil, hs, hx, hr]
  exact h A c' w' h2 h3 h4
end Go.Proofs.YtnkmklnlaepdeaaGreat

namespace Go.Proofs.YtnkmklnlaepdeaaGreat
open Go.RowKit Go.Shelf
attribute [local go_sem] Oper.semAt_some

abbrev WB := Int × Int × Nat × Nat × Nat
/-- a write whose data lie in a block of their own, as a datum -/
def encWB : Enc WB where
  size := 3
  rd _ _ cs x := cs = [.int .i64 x.1, .int .i64 x.2.1, .slice (some ⟨x.2.2.1, 0, none⟩) x.2.2.2.1 x.2.2.2.2] ∧ (I64 x.1 ∧ I64 x.2.1) ∧ x.2.2.2.1 ≤ x.2.2.2.2 ∧ x.2.2.2.2 ≤ maxLen
  len h := by rw [h.1]; rfl
  one h := by rw [h.1]; simp [Value.oneCell']
  keep h _ _ := h
/-- writes that a call owns -/
structure WrsOwn (w : World) (lo : Nat) (A : Option Addr) (c : Nat) (xs : List WB) (l : List Wr) : Prop where
  outer : Own encWB w lo 74 (fun _ => False) (.slice A xs.length c) xs
  len : xs.length = l.length
  rows : ∀ (k : Nat) (h1 : k < xs.length) (h2 : k < l.length), RowOf w lo xs[k].2.2 l[k].2.2
  heads : ∀ (k : Nat) (h1 : k < xs.length) (h2 : k < l.length), xs[k].1 = l[k].1 ∧ xs[k].2.1 = l[k].2.1
  apart : (xs.map (·.2.2.1)).Nodup
section
variable {w w' : World} {lo : Nat} {A : Option Addr} {c : Nat} {xs : List WB} {l : List Wr}
theorem WrsOwn.nil_ : WrsOwn w lo none 0 [] [] := ⟨Own.nil_, rfl, fun _ h => by simp at h, fun _ h => by simp at h, List.nodup_nil⟩
theorem WrsOwn.below (h : WrsOwn w lo A c xs l) (hb : Below w.heap.size w w') : WrsOwn w' lo A c xs l :=
  ⟨Own.below h.outer hb (fun _ h => h.elim), h.len, fun k h1 h2 => (h.rows k h1 h2).blk (hb.block _ (h.rows k h1 h2).ty.2.1), h.heads, h.apart⟩
theorem WrsOwn.outNe (h : WrsOwn w lo A c xs l) {k : Nat} (h1 : k < xs.length) {g : Nat} (hg : (Value.slice A xs.length c).ownBlock = some g) : xs[k].2.2.1 ≠ g := fun e => by
  obtain ⟨_, cs, fr, k1⟩ := h.outer.cellsOf g hg
  obtain ⟨cs', k2⟩ := (h.rows k h1 (by rw [← h.len]; exact h1)).ty.2.2.2.2.2
  rw [e, k1] at k2
  injection k2 with k2
  injection k2 with _ k2 _
  exact absurd k2 (by decide)
theorem RowOf.rdS {S : Nat → Prop} {x : Nat × Nat × Nat} {row : List Sec} (h : RowOf w lo x row) (hS : S x.1) : SlAt encSec w S (some ⟨x.1, 0, none⟩) row := by
  obtain ⟨A', c', he, _, _, h3⟩ := Own.reads h (S' := S) (fun _ h => h.elim) (fun g hg => by
    have : x.1 = g := by simpa [Value.ownBlock] using hg
    rw [← this]; exact hS)
  simp only [List.cons.injEq, Value.slice.injEq, and_true] at he
  obtain ⟨rfl, _, _⟩ := he
  exact h3
theorem wb_all2 {S : Nat → Prop} : ∀ {css : List (List Value)} {xs : List WB} {l : List Wr}, All2 (encWB.rd w (fun _ => False)) css xs → (∀ (k : Nat) (h1 : k < xs.length) (h2 : k < l.length), RowOf w lo xs[k].2.2 l[k].2.2 ∧ (xs[k].1 = l[k].1 ∧ xs[k].2.1 = l[k].2.1) ∧ S xs[k].2.2.1) → xs.length = l.length → All2 (encWr.rd w S) css l
  | [], [], [], _, _, _ => trivial
  | [], _ :: _, _, h, _, _ => h.elim
  | _ :: _, [], _, h, _, _ => h.elim
  | [], [], _ :: _, _, _, h => by cases h
  | _ :: _, _ :: _, [], _, _, h => by cases h
  | cs :: css, x :: xs, y :: l, h, hk, hl => by
    refine ⟨?_, wb_all2 h.2 (fun k h1 h2 => hk (k + 1) (by simpa using h1) (by simpa using h2)) (by simpa using hl)⟩
    obtain ⟨k1, ⟨k2, k3⟩, k4⟩ := hk 0 (by simp) (by simp)
    simp only [List.getElem_cons_zero] at k1 k2 k3 k4
    obtain ⟨e1, ⟨e2, e3⟩, e4, e5⟩ := h.1
    obtain ⟨v, s, d⟩ := y
    obtain ⟨v', s', g, n, c'⟩ := x
    simp only at k1 k2 k3 k4 e1 e2 e3 e4 e5
    subst k2 k3 e1
    have ht := k1.ty
    simp only at ht
    obtain ⟨_, _, t3, t4, t5, _⟩ := ht
    subst t3
    exact wr_mk (x := (v', s', d)) e2 e3 t4 t5 (k1.rdS k4)
/-- the elements as writes -/
theorem WrsOwn.own (h : WrsOwn w lo A c xs l) : Own encWr w lo 74 (fun g => Nw lo w.heap.size g ∧ (Value.slice A l.length c).ownBlock ≠ some g) (.slice A l.length c) l := by
  have hne : ∀ (k : Nat) (h1 : k < xs.length) (g : Nat), (Value.slice A l.length c).ownBlock = some g → xs[k].2.2.1 ≠ g := fun k h1 g hg => h.outNe h1 (by rw [h.len]; exact hg)
  obtain ⟨⟨css, k1, k2, k3⟩, hl, hr, hh, ha⟩ := h
  rw [hl] at k1
  exact ⟨css, k1, wb_all2 k2 (fun k h1 h2 => ⟨hr k h1 h2, hh k h1 h2, ⟨(hr k h1 h2).ty.1, (hr k h1 h2).ty.2.1⟩, fun e => hne k h1 _ e rfl⟩) hl, fun g hg hS => hS.2 hg⟩
theorem WrsOwn.parts (h : WrsOwn w lo A c xs l) : l.length ≤ c ∧ c ≤ maxLen ∧ SlAt encWr w (Nw lo w.heap.size) A l := by
  obtain ⟨A', c', he, h1, h2, h3⟩ := h.own.reads (S' := Nw lo w.heap.size) (fun _ h => h.1) (fun g hg => h.own.lt g hg)
  simp only [List.cons.injEq, Value.slice.injEq, and_true] at he
  obtain ⟨rfl, _, rfl⟩ := he
  exact ⟨h1, h2, h3⟩
/-- behind an append of a write whose data were just made -/
theorem WrsOwn.snoc {A' : Option Addr} {c' : Nat} {x : WB} {y : Wr} {w1 : World} (h : WrsOwn w lo A c xs l) (hr : RowOf w lo x.2.2 y.2.2) (hh : x.1 = y.1 ∧ x.2.1 = y.2.1) (hnew : ∀ z ∈ xs, z.2.2.1 < x.2.2.1)
    (hn : Own encWB w1 lo 74 (fun _ => False) (.slice A' (xs.length + 1) c') (xs ++ [x])) (hg : w.grownBy w1 (Value.slice A xs.length c).ownBlock) : WrsOwn w1 lo A' c' (xs ++ [x]) (l ++ [y]) := by
  have key : ∀ y row, RowOf w lo y row → RowOf w1 lo y row := fun y row hy => hy.blk (hg.block _ hy.ty.2.1 (fun e => by
    obtain ⟨_, cs, fr, h1⟩ := h.outer.cellsOf y.1 e.symm
    obtain ⟨cs', h2⟩ := hy.ty.2.2.2.2.2
    rw [h1] at h2
    injection h2 with h2
    injection h2 with _ h2 _
    exact absurd h2 (by decide)))
  refine ⟨by simpa using hn, by simp [h.len], fun k h1 h2 => ?_, fun k h1 h2 => ?_, ?_⟩
  · by_cases hk : k < xs.length
    · rw [List.getElem_append_left hk, List.getElem_append_left (by rw [← h.len]; exact hk)]
      exact key _ _ (h.rows k hk (by rw [← h.len]; exact hk))
    · have hke : k = xs.length := by simp at h1; omega
      subst hke
      rw [List.getElem_append_right (Nat.le_refl _), List.getElem_append_right (by rw [h.len]; exact Nat.le_refl _)]
      simp only [Nat.sub_self, List.getElem_cons_zero, h.len]
      exact key _ _ hr
  · by_cases hk : k < xs.length
    · rw [List.getElem_append_left hk, List.getElem_append_left (by rw [← h.len]; exact hk)]
      exact h.heads k hk (by rw [← h.len]; exact hk)
    · have hke : k = xs.length := by simp at h1; omega
      subst hke
      rw [List.getElem_append_right (Nat.le_refl _), List.getElem_append_right (by rw [h.len]; exact Nat.le_refl _)]
      simp only [Nat.sub_self, List.getElem_cons_zero, h.len]
      exact hh
  · rw [List.map_append, List.nodup_append]
    refine ⟨h.apart, by simp, fun a ha b hb e => ?_⟩
    obtain ⟨y, hy, rfl⟩ := List.mem_map.1 ha
    simp only [List.map_cons, List.map_nil, List.mem_singleton] at hb
    subst hb
    have := hnew y hy
    omega
/-- behind a store into the data of one write -/
theorem WrsOwn.put {w1 : World} {k : Nat} {row : List Sec} (h : WrsOwn w lo A c xs l) (hk : k < xs.length) (hk2 : k < l.length) (hr : RowOf w1 lo xs[k].2.2 row) (hg : w.grownBy w1 (some xs[k].2.2.1)) : WrsOwn w1 lo A c xs (l.set k (l[k].1, l[k].2.1, row)) := by
  refine ⟨Own.blk h.outer (fun b hb => ?_), by simp [h.len], fun j h1 h2 => ?_, fun j h1 h2 => ?_, h.apart⟩
  · rcases hb with hb | hb
    · exact hb.elim
    · refine hg.block b (h.outer.lt b hb).2 (fun e => ?_)
      injection e with e
      exact h.outNe hk hb e.symm
  · rw [List.getElem_set]
    split
    · rename_i e
      subst e
      exact hr
    · rename_i e
      have h2' : j < l.length := by simpa using h2
      refine (h.rows j h1 h2').blk (hg.block _ (h.rows j h1 h2').ty.2.1 (fun e' => e ?_))
      injection e' with e'
      exact (List.getElem_inj (i := k) (j := j) (h₀ := by simpa using hk) (h₁ := by simpa using h1) h.apart).1 (by simpa using e'.symm)
  · rw [List.getElem_set]
    split
    · rename_i e
      subst e
      exact h.heads k h1 hk2
    · exact h.heads j h1 (by simpa using h2)
end
theorem tyWB : SliceTy Tryz.prog 43 74 encWB.size 40 := sliceTy_mk (z := .agg #[.int .i64 0, .int .i64 0, .slice none 0 0]) Tryz.underlying43 (by kernel_rfl) rfl (by decide)
def WrsRet (l : List Wr) (w : World) (e : Ending) (w' : World) : Prop := ∃ A c xs, e = .returned (.slice A l.length c) ∧ WrsOwn w' w.heap.size A c xs l ∧ Below w.heap.size w w'
set_option maxHeartbeats 4000000 in
theorem refCopyWrites_any (A : Option Addr) (c n : Nat) (l : List Wr) (w : World) (hn : l.length = n) (h1 : SlAt encWr w (Bl w.heap.size) A l) (hl : n ≤ 100000) (hd : ∀ x ∈ l, 0 < x.2.2.length ∧ x.2.2.length ≤ 1000000) :
    Calls Tryz.prog 52 #[.slice A n c] w (WrsRet l w) := by
  subst hn
  have H1 : Hid (∀ w', Below w.heap.size w w' → SlAt encWr w' (Bl w.heap.size) A l) := fun w' hb => h1.below hb
  have HD := Lib.hid hd
  clear h1 hd
  obtain ⟨n0, hn0⟩ : ∃ n0, w.heap.size = n0 := ⟨_, rfl⟩
  go_enter Tryz.func52, Tryz.ntmps52
  go_wp2
  go_loopw [3, 4] (fun v i wr => ∃ (k : Nat) (B : Option Addr) (vc : Nat) (xs : List WB), k ≤ l.length ∧ i = .int .i64 k ∧ v = .slice B xs.length vc ∧ Below n0 w wr ∧ n0 ≤ wr.heap.size ∧ Hid (xs.length = k) ∧ Hid (WrsOwn wr n0 B vc xs (l.take k))) (fun _ i _ => l.length - (intOf i).toNat)
  case atStart => exact ⟨0, none, 0, [], by omega, rfl, rfl, Below.refl _ _, by omega, rfl, WrsOwn.nil_⟩
  case round =>
    obtain ⟨wo, rfl⟩ : ∃ wo : World, wo = wr := ⟨_, rfl⟩
    obtain ⟨k, B, vc, xs, hk, rfl, rfl, hB, hsz, hlen, hown⟩ := hrel
    by_cases hlt : k < l.length
    · have hnn : (0 : Int) ≤ k := by omega
      have hki : (k : Int) < l.length := by omega
      obtain ⟨b, off, D, dc, rfl, hb, g0, g1, g2, hD, hd1, hd2, hi1, hi2⟩ := (H1.out wo (by rw [hn0]; exact hB)).wr hlt
      obtain ⟨hp1, hp2⟩ := HD.out l[k] (List.getElem_mem hlt)
      have hst : Hid (l.take (k + 1) = l.take k ++ [l[k]]) := List.take_succ_eq_append_getElem hlt
      obtain ⟨x, hx⟩ : ∃ x, l[k] = x := ⟨_, rfl⟩
      rw [hx] at g0 g1 g2 hD hd1 hp1 hp2 hst hi1 hi2
      obtain ⟨v, s, row⟩ := x
      simp only at g0 g1 g2 hD hd1 hp1 hp2 hi1 hi2
      have HDD := Lib.hid (hD.more (S' := fun g => g < wo.heap.size) (fun g hg => by have : g < w.heap.size := hg; omega))
      have hlt1 := Lib.hid hown.out.outer.lt
      have hbl : b < wo.heap.size := by have : b < w.heap.size := hb; omega
      have hol : xs.length ≤ 100000 := by rw [hlen.out]; omega
      have HI := Lib.hid (And.intro hi1 hi2)
      clear hx hD
      go_upto_region 6 with (fail)
      go_region_law (first | (refine step_app1 (E := encWB) tyWB rfl _ _ rfl rfl HO2.out.outer (v, s, g, row.length, c4) [.int .i64 v, .int .i64 s, .slice (some ⟨g, 0, none⟩) row.length c4] rfl HRD.out (heap_alloc_new _ _) (fun _ h => h.elim) (by simp; omega) (by unfold maxLen; omega) (by omega) ?_; intro A5 c5 w5 hown5 hg5 hat5) | (refine step_appAll (E := encSec) tySecs36 rfl _ _ rfl rfl (Own.nil_ (base := wo.heap.size) (e := 54) (S := fun g => g < wo.heap.size)) (news := row) rfl rfl (by first | exact HDD.out | exact HDD.out.drew ⟨1, rfl⟩) (fun _ h => h) (Nat.le_refl _) (by unfold maxLen; simp; omega) (by simp; omega) ?_; intro A4 c4 w4 hown4 hg4 hat4; have hown4' : Own encSec w4 wo.heap.size 54 (fun g => g < wo.heap.size) (.slice A4 row.length c4) row := (by simpa using hown4); have hx4 : Below wo.heap.size wo w4 := (by first | exact (Below.refl _ _).grown hg4 (Nat.le_refl _) (fun k e => by cases e) | exact ((Below.refl _ _).drew).grown hg4 (Nat.le_refl _) (fun k e => by cases e)); have hfl := Own.flat hown4' (fun h => h); obtain ⟨g, _, rfl, _⟩ := hfl.elem (i := 0) (by omega); have hr4 : Hid (RowOf w4 wo.heap.size (g, row.length, c4) row) := hfl; have hgn : wo.heap.size ≤ g := hr4.out.ty.1; have hz4 := hx4.size; have HO2 := Lib.hid (hown.out.below (hx4.trans (ext_alloc (o := .cells #[.int .i64 v, .int .i64 s, .slice (some ⟨g, 0, none⟩) row.length c4] 74) (Below.refl w4.heap.size w4) |>.mono hz4))); have HRD : Hid (encWB.rd (w4.alloc (.cells #[.int .i64 v, .int .i64 s, .slice (some ⟨g, 0, none⟩) row.length c4] 74)) (fun _ => False) [.int .i64 v, .int .i64 s, .slice (some ⟨g, 0, none⟩) row.length c4] (v, s, g, row.length, c4)) := ⟨rfl, HI.out, hr4.out.ty.2.2.2.1, hr4.out.ty.2.2.2.2.1⟩; have g0' := (hx4.cell (p := ⟨b, off + k * 3, none⟩) hbl).trans g0; have g1' := (hx4.cell (p := ⟨b, off + k * 3 + 1, none⟩) hbl).trans g1; simp only [List.length_nil, Nat.zero_add]))
      all_goals
        have hfin : Hid (WrsOwn w5 n0 A5 c5 (xs ++ [(v, s, g, row.length, c4)]) (l.take (k + 1))) := by
          rw [Hid, hst.out]
          refine HO2.out.snoc (x := (v, s, g, row.length, c4)) (y := (v, s, row)) ((hr4.out.base hsz).blk ((Below.heap_alloc _ _ _ hr4.out.ty.2.1))) ⟨rfl, rfl⟩ (fun y hy => ?_) hown5 hg5
          obtain ⟨j, hj, rfl⟩ := List.mem_iff_getElem.1 hy
          have := (hown.out.rows j hj (by rw [← hown.out.len]; exact hj)).ty.2.1
          simp only
          omega
        have hz5 := hg5.size
        have hB5 : Below n0 w w5 := (((hB.trans (hx4.mono hsz))).alloc (by omega) (.cells #[.int .i64 v, .int .i64 s, .slice (some ⟨g, 0, none⟩) row.length c4] 74)).grown hg5 (by simp; omega) (fun b h => (hown.out.outer.lt b h).1)
        have hz6 : n0 ≤ w5.heap.size := by simp at hz5; omega
        clear hown4 hown4' hfl hown5 hg5 hat5 HO2 HRD hz5 g0 g1 g2 g0' g1'
        go_wp2
        go_roundw
        case rel => exact ⟨k + 1, A5, c5, xs ++ [(v, s, g, row.length, c4)], hlt, by go_num, by simp, hB5, hz6, by rw [Hid, List.length_append, hlen.out]; rfl, hfin.out⟩
        case measure => simp [intOf]; omega
    · have hkk : k = l.length := by omega
      subst hkk
      have ho := hown.out
      rw [List.take_length] at ho
      have HO := Lib.hid ho
      clear ho
      go_wp2
      go_ret
      exact ⟨B, vc, xs, by show Ending.returned (.slice B xs.length vc) = Ending.returned (.slice B l.length vc); rw [HO.out.len], by rw [hn0]; exact HO.out, by rw [hn0]; exact hB⟩
end Go.Proofs.YtnkmklnlaepdeaaGreat

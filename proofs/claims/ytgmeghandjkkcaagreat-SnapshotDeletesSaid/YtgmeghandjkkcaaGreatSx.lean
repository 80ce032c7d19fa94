/-
  Owned lists of sectors: stores; append of all elements at a step of a region that draws its order. No program in sight.
-/
import Derived.Test.YtgmeghandjkkcaaGreatLaws
set_option linter.unusedVariables false
set_option linter.unusedSimpArgs false
set_option linter.unusedSectionVars false
set_option linter.unnecessarySimpa false
namespace Go.Proofs.YtgmeghandjkkcaaGreat
open Go.RowKit Go.Shelf
attribute [local go_sem] Oper.semAt_some

theorem flatten_set8 : ∀ (css : List (List Value)) (k : Nat) (v0 v1 v2 v3 v4 v5 v6 v7 : Value), (∀ cs ∈ css, cs.length = 8) → k < css.length →
    (css.set k [v0, v1, v2, v3, v4, v5, v6, v7]).flatten = (((((((css.flatten.set (k * 8) v0).set (k * 8 + 1) v1).set (k * 8 + 2) v2).set (k * 8 + 3) v3).set (k * 8 + 4) v4).set (k * 8 + 5) v5).set (k * 8 + 6) v6).set (k * 8 + 7) v7
  | [], k, _, _, _, _, _, _, _, _, _, hk => by simp at hk
  | cs :: css, 0, v0, v1, v2, v3, v4, v5, v6, v7, h, _ => by
    have h8 := h cs (by simp)
    match cs, h8 with
    | [a, b, c, d, e, f, g, i], _ => simp
  | cs :: css, k + 1, v0, v1, v2, v3, v4, v5, v6, v7, h, hk => by
    have h8 := h cs (by simp)
    have ih := flatten_set8 css k v0 v1 v2 v3 v4 v5 v6 v7 (fun x hx => h x (by simp [hx])) (by simpa using hk)
    have e : ∀ j (l : List Value) v, (cs ++ l).set ((k + 1) * 8 + j) v = cs ++ l.set (k * 8 + j) v := fun j l v => by
      rw [List.set_append_right _ _ (by omega)]
      congr 2; omega
    have e0 : ∀ (l : List Value) v, (cs ++ l).set ((k + 1) * 8) v = cs ++ l.set (k * 8) v := fun l v => by simpa using e 0 l v
    rw [List.set_cons_succ, List.flatten_cons, List.flatten_cons, ih, e0, e, e, e, e, e, e, e]
theorem All2_secs {w : World} {S : Nat → Prop} : ∀ {css : List (List Value)} {l : List Sec}, All2 (encSec.rd w S) css l → ∀ w' S', All2 (encSec.rd w' S') css l
  | [], [], _, _, _ => trivial
  | [], _ :: _, h, _, _ => h.elim
  | _ :: _, [], h, _, _ => h.elim
  | cs :: css, x :: l, h, w', S' => ⟨h.1, All2_secs h.2 w' S'⟩
/-- a sector more in an owned list -/
theorem Own.setSec {w : World} {base g n c : Nat} {e : TypeId} {l : List Sec} (h : Own encSec w base e (fun _ => False) (.slice (some ⟨g, 0, none⟩) n c) l) (hn : l.length = n) {k : Nat} (hk : k < l.length) {x0 x1 x2 x3 x4 x5 x6 x7 : Int} (hs : OkSec [x0, x1, x2, x3, x4, x5, x6, x7]) :
    Own encSec ((((((((w.setCell ⟨g, k * 8, none⟩ (.int .u8 x0)).setCell ⟨g, k * 8 + 1, none⟩ (.int .u8 x1)).setCell ⟨g, k * 8 + 2, none⟩ (.int .u8 x2)).setCell ⟨g, k * 8 + 3, none⟩ (.int .u8 x3)).setCell ⟨g, k * 8 + 4, none⟩ (.int .u8 x4)).setCell ⟨g, k * 8 + 5, none⟩ (.int .u8 x5)).setCell ⟨g, k * 8 + 6, none⟩ (.int .u8 x6)).setCell ⟨g, k * 8 + 7, none⟩ (.int .u8 x7)) base e (fun _ => False) (.slice (some ⟨g, 0, none⟩) n c) (l.set k [x0, x1, x2, x3, x4, x5, x6, x7]) := by
  obtain ⟨css, h1, h2, h3⟩ := h
  subst hn
  have hsz := All2.sizes h2
  have hkc : k < css.length := by rw [h2.length]; exact hk
  have r1 := (h1.stored (k * 8) (.int .u8 x0)).1
  have r2 := (r1.stored (k * 8 + 1) (.int .u8 x1)).1
  have r3 := (r2.stored (k * 8 + 2) (.int .u8 x2)).1
  have r4 := (r3.stored (k * 8 + 3) (.int .u8 x3)).1
  have r5 := (r4.stored (k * 8 + 4) (.int .u8 x4)).1
  have r6 := (r5.stored (k * 8 + 5) (.int .u8 x5)).1
  have r7 := (r6.stored (k * 8 + 6) (.int .u8 x6)).1
  have r8 := (r7.stored (k * 8 + 7) (.int .u8 x7)).1
  rw [← flatten_set8 css k _ _ _ _ _ _ _ _ hsz hkc] at r8
  refine ⟨css.set k [.int .u8 x0, .int .u8 x1, .int .u8 x2, .int .u8 x3, .int .u8 x4, .int .u8 x5, .int .u8 x6, .int .u8 x7], ?_, All2.set (All2_secs h2 _ _) ⟨rfl, hs⟩, h3⟩
  rw [List.length_set]; exact r8
theorem Own.cellSec {w : World} {base g n c : Nat} {e : TypeId} {l : List Sec} (h : Own encSec w base e (fun _ => False) (.slice (some ⟨g, 0, none⟩) n c) l) (hn : l.length = n) {k : Nat} (hk : k < l.length) :
    (∀ r, r < 8 → ∃ u, w.cell? ⟨g, k * 8 + r, none⟩ = some u) ∧ ∀ j, w.frozen? ⟨g, j, none⟩ = false := by
  obtain ⟨css, h1, h2, h3⟩ := h
  subst hn
  have hsz := All2.sizes h2
  have hlen : css.flatten.length = l.length * 8 := by rw [flatten_len 8 css hsz, h2.length]
  refine ⟨fun r hr => ?_, fun j => h1.frozenAt j⟩
  have hlt : k * 8 + r < l.length * 8 := by omega
  refine ⟨css.flatten[k * 8 + r]'(by omega), ?_⟩
  rw [h1.cellAt (k * 8 + r) hlt, List.getElem?_eq_getElem]
/-- append of all elements of a slice, at a step of a region that draws its order -/
theorem step_appAll {P : Program} {w : World} {α : Type} {E : Enc α} {t e : TypeId} {bytes : Nat} {ops : Array Oper} {o : Oper} {a : Act} {Q : Exit → Act → World → Prop} {K : Act → World → Prop} {X : Prop} (hT : SliceTy P t e E.size bytes) (hgd : o.guard = none) (s x : Operand) (ho : o.op = .call { callee := .builtin .append, args := #[s, x], argTypes := #[t, t] })
    {base : Nat} {S : Nat → Prop} {v : Value} {l : List α} (hs : a.eval s = v) (hown : Own E w base e S v l) {ad : Option Addr} {c m : Nat} {news : List α} (hx : a.eval x = .slice ad m c)
    (hm : m = news.length) (hr : SlAt E w S ad news) (hS : ∀ b, S b → b < w.heap.size) (hbase : base ≤ w.heap.size)
    (h63 : l.length + m ≤ maxLen) (hbytes : (l.length + m) * bytes ≤ 140737488355328)
    (h : ∀ A c' w', Own E w' base e S (.slice A (l.length + m) c') (l ++ news) → w.grownBy w' v.ownBlock → ((Value.slice A (l.length + m) c').ownBlock = v.ownBlock ∨ (Value.slice A (l.length + m) c').ownBlock = some w.heap.size) → K (a.put o.dst (.slice A (l.length + m) c')) w') :
    if Region.wanted o (yielded ops a.tmps) = true then Oper.wp P o a w K Q else X := by
  have hw : Region.wanted o (yielded ops a.tmps) = true := by simp [Region.wanted, hgd]
  rw [if_pos hw]
  have hrun : ∃ A c' w', (Builtin.append_ #[t, t] o.type #[v, .slice ad m c]).run P w = .ok (.slice A (l.length + m) c') w' ∧ Own E w' base e S (.slice A (l.length + m) c') (l ++ news) ∧ w.grownBy w' v.ownBlock ∧
      ((Value.slice A (l.length + m) c').ownBlock = v.ownBlock ∨ (Value.slice A (l.length + m) c').ownBlock = some w.heap.size) := by
    by_cases hn : news = []
    · subst hn
      exact run_app (P := P) (c := c) hT o.type hown (news := []) (css := []) hm trivial (fun h => absurd rfl h) hS hbase h63 hbytes
    · obtain ⟨b, off, rfl, _⟩ := hr.some_ hn
      obtain ⟨css, h1, h2, h3, h4⟩ := hr.row
      exact run_app (P := P) (c := c) hT o.type hown (news := news) (css := css) hm h3 (fun _ => ⟨_, rfl, h4⟩) hS hbase h63 hbytes
  obtain ⟨A, c', w', hr, h2, h3, h4⟩ := hrun
  unfold Oper.wp execOp
  simp only [ho, resolve, invoke, builtin, Sem.run_bind, Sem.run_pure, Result.andThen_ok, List.map_toArray, List.map_cons, List.map_nil, hs, hx, hr]
  exact h A c' w' h2 h3 h4
end Go.Proofs.YtgmeghandjkkcaaGreat

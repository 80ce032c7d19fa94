/-
  The reference's Found: the walk.
-/
import Derived.Test.YthneomehfmjbkaaHc
import Derived.Test.YthneomehfmjbkaaHr
set_option linter.unusedVariables false
set_option linter.unusedSimpArgs false
set_option linter.unusedSectionVars false
set_option linter.unnecessarySimpa false
namespace Go.Proofs.Ythneomehfmjbkaa
open Go.RowKit Go.Shelf
attribute [local go_sem] Oper.semAt_some

/-- append of all elements of a slice, at a step of a region that draws its order -/
theorem step_appAll {P : Program} {w : World} {α : Type} {E : Enc α} {t e : TypeId} {bytes : Nat} {ops : Array Oper} {o : Oper} {a : Act} {Q : Exit → Act → World → Prop} {K : Act → World → Prop} {X : Prop} (hT : SliceTy P t e E.size bytes) (hgd : o.guard = none) (s x : Operand) (ho : o.op = .call { callee := .builtin .append, args := #[s, x], argTypes := #[t, t] })
    {base : Nat} {S : Nat → Prop} {v : Value} {l : List α} (hs : a.eval s = v) (hown : Own E w base e S v l) {ad : Option Addr} {c m : Nat} {news : List α} (hx : a.eval x = .slice ad m c)
    (hm : m = news.length) (hr : SlAt E w S ad news) (hS : ∀ b, S b → b < w.heap.size) (hbase : base ≤ w.heap.size)
    (h63 : l.length + m ≤ maxLen) (hbytes : (l.length + m) * bytes ≤ 140737488355328)
    (h : ∀ A c' w', Own E w' base e S (.slice A (l.length + m) c') (l ++ news) → w.grownBy w' v.ownBlock → ((Value.slice A (l.length + m) c').ownBlock = v.ownBlock ∨ (Value.slice A (l.length + m) c').ownBlock = some w.heap.size) → K (a.put o.dst (.slice A (l.length + m) c')) w') :
    if Region.wanted o (yielded ops a.tmps) = true then Oper.wp P o a w K Q else X := by
  have hw : Region.wanted o (yielded ops a.tmps) = true := by simp [Region.wanted, hgd]
  rw [if_pos hw]
  have hrun : ∃ A c' w', (Builtin.append_ #[t, t] o.type #[v, .slice ad m c]).run P w = .ok (.slice A (l.length + m) c') w' ∧ Own E w' base e S (.slice A (l.length + m) c') (l ++ news) ∧ w.grownBy w' v.ownBlock ∧
      ((Value.slice A (l.length + m) c').ownBlock = v.ownBlock ∨ (Value.slice A (l.length + m) c').ownBlock = some w.heap.size) := by
    by_cases hn : news = []
    · subst hn
      exact run_app (P := P) (c := c) hT o.type hown (news := []) (css := []) hm trivial (fun h => absurd rfl h) hS hbase h63 hbytes
    · obtain ⟨b, off, rfl, _⟩ := hr.some_ hn
      obtain ⟨css, h1, h2, h3, h4⟩ := hr.row
      exact run_app (P := P) (c := c) hT o.type hown (news := news) (css := css) hm h3 (fun _ => ⟨_, rfl, h4⟩) hS hbase h63 hbytes
  obtain ⟨A, c', w', hr, h2, h3, h4⟩ := hrun
  unfold Oper.wp execOp
  simp only [ho, resolve, invoke, builtin, Sem.run_bind, Sem.run_pure, Result.andThen_ok, List.map_toArray, List.map_cons, List.map_nil, hs, hx, hr]
  exact h A c' w' h2 h3 h4
/-- the walk below a node -/
def dfs (a b : List (List Int)) : Nat → Nat → List Nat
  | 0, i => if decide (i < (a.getD 0 []).length) && df a b 0 i then [i] else []
  | k + 1, i => if decide (i < (a.getD (k + 1) []).length) && df a b (k + 1) i then dfs a b k (2 * i) ++ dfs a b k (2 * i + 1) else []
theorem dfs_len (a b : List (List Int)) : ∀ k i, (dfs a b k i).length ≤ 2 ^ k
  | 0, i => by unfold dfs; split <;> simp
  | k + 1, i => by
    have h1 := dfs_len a b k (2 * i)
    have h2 := dfs_len a b k (2 * i + 1)
    unfold dfs
    split
    · rw [List.length_append, Nat.pow_succ]; omega
    · simp
def FoundRet (l : List Int) (w : World) (e : Ending) (w' : World) : Prop :=
  ∃ A c, e = .returned (.slice A l.length c) ∧ Own encInt w' w.heap.size 3 (fun _ => False) (.slice A l.length c) l ∧ Below w.heap.size w w'
theorem Own.sl_ {w : World} {base : Nat} {e : TypeId} {A : Option Addr} {n c : Nat} {l : List Int} (h : Own encInt w base e (fun _ => False) (.slice A n c) l) : SlAt encInt w (Nw base w.heap.size) A l := by
  obtain ⟨A3, c3, he, _, _, h3⟩ := h.reads (S' := Nw base w.heap.size) (fun _ h => h.elim) (fun g hg => h.lt g hg)
  simp only [List.cons.injEq, Value.slice.injEq, and_true] at he
  obtain ⟨rfl, _, _⟩ := he
  exact h3
theorem Own.keep_ {w w' : World} {base : Nat} {e : TypeId} {v : Value} {l : List Int} (h : Own encInt w base e (fun _ => False) v l) (hb : Below w.heap.size w w') : Own encInt w' base e (fun _ => False) v l := h.blk (fun b hb' => hb.block b (by
  rcases hb' with hb' | hb'
  · exact hb'.elim
  · exact (h.lt b hb').2))
theorem All2_ints {w : World} {S : Nat → Prop} : ∀ {css : List (List Value)} {l : List Int}, All2 (encInt.rd w S) css l → ∀ w' S', All2 (encInt.rd w' S') css l
  | [], [], _, _, _ => trivial
  | [], _ :: _, h, _, _ => h.elim
  | _ :: _, [], h, _, _ => h.elim
  | cs :: css, x :: l, h, w', S' => ⟨h.1, All2_ints h.2 w' S'⟩
theorem Own.flatI {w : World} {base base' : Nat} {S : Nat → Prop} {e : TypeId} {v : Value} {l : List Int} (h : Own encInt w base e S v l) (hb : base' ≤ base) : Own encInt w base' e (fun _ => False) v l := by
  obtain ⟨css, ⟨h0, h1⟩, h2, _⟩ := h
  refine ⟨css, ⟨h0, ?_⟩, All2_ints h2 _ _, fun _ _ h => h⟩
  rcases h1 with h1 | ⟨g, cap, cur, e1, hg, r⟩
  · exact Or.inl h1
  · exact Or.inr ⟨g, cap, cur, e1, Nat.le_trans hb hg, r⟩
set_option maxHeartbeats 8000000 in
set_option maxRecDepth 100000 in
theorem found_any (s lf s' lf' : Int) (A A' : Option Addr) (c c' : Nat) (l l' : List (List Int)) (hc : l.length ≤ 100 ∧ l'.length ≤ 100) (hlen : ∀ j (hj : j < l.length) (hj' : j < l'.length), l'[j].length = l[j].length) (h4 : ∀ j (hj : j < l.length), l[j].length ≤ 4096) :
    ∀ (k i : Nat) (w : World), k < l.length → k < l'.length → k ≤ 12 → (i + 1) * 2 ^ k ≤ 1000000 → SlAt (encSl encU64) w (Bl w.heap.size) A l → SlAt (encSl encU64) w (Bl w.heap.size) A' l' →
      Calls Try.prog 48 #[.agg #[.int .i64 s, .int .i64 lf, .slice A l.length c], .agg #[.int .i64 s', .int .i64 lf', .slice A' l'.length c'], .int .i64 k, .int .i64 i] w (FoundRet (toI (dfs l l' k i)) w) := by
  intro k
  induction k with
  | zero =>
    intro i w hk hk' hk12 hi h1 h2
    have H1 : Hid (∀ w', Below w.heap.size w w' → SlAt (encSl encU64) w' (Bl w.heap.size) A l) := fun w' hb => h1.below hb
    have H2 : Hid (∀ w', Below w.heap.size w w' → SlAt (encSl encU64) w' (Bl w.heap.size) A' l') := fun w' hb => h2.below hb
    clear h1 h2
    obtain ⟨W0, hW0⟩ : ∃ W0, (w.alloc (.cells #[.int .i64 s, .int .i64 lf, .slice A l.length c] 26)).alloc (.cells #[.int .i64 s', .int .i64 lf', .slice A' l'.length c'] 26) = W0 := ⟨_, rfl⟩
    have hB0 : Below w.heap.size w W0 := by rw [← hW0]; exact ext_alloc (ext_alloc (Below.refl _ _))
    have hs0 : W0.heap.size = w.heap.size + 2 := by rw [← hW0]; simp
    have hr0 : W0.heap[w.heap.size]? = some (.cells #[.int .i64 s, .int .i64 lf, .slice A l.length c] 26 (0, 0)) := by rw [← hW0]; exact (Below.heap_alloc _ _ _ (by simp)).trans (heap_alloc_new _ _)
    have hr1 : W0.heap[w.heap.size + 1]? = some (.cells #[.int .i64 s', .int .i64 lf', .slice A' l'.length c'] 26 (0, 0)) := by rw [← hW0]; exact heap_new2 _ _ _
    have HCC : Hid (∀ W, Below W0.heap.size W0 W → W.cell? ⟨w.heap.size, 0, none⟩ = some (.int .i64 s) ∧ W.cell? ⟨w.heap.size, 1, none⟩ = some (.int .i64 lf) ∧ W.cell? ⟨w.heap.size, 2, none⟩ = some (.slice A l.length c) ∧ W.cell? ⟨w.heap.size + 1, 0, none⟩ = some (.int .i64 s') ∧ W.cell? ⟨w.heap.size + 1, 1, none⟩ = some (.int .i64 lf') ∧ W.cell? ⟨w.heap.size + 1, 2, none⟩ = some (.slice A' l'.length c')) := fun W hb => by
      obtain ⟨a0, a1, a2, _⟩ := blk3 ((hb.block _ (by omega)).trans hr0)
      obtain ⟨b0, b1, b2, _⟩ := blk3 ((hb.block _ (by omega)).trans hr1)
      exact ⟨a0, a1, a2, b0, b1, b2⟩
    obtain ⟨r0, r1, r2, e0, e1, e2⟩ := HCC.out W0 (Below.refl _ _)
    have hi2 : i + 1 ≤ 1000000 := by simpa using hi
    clear hi
    obtain ⟨K, hK⟩ : ∃ K, K = 0 := ⟨_, rfl⟩
    rw [← hK] at hk hk' hk12 ⊢
    have hK0 : (0 : Int) ≤ K := by omega
    have hKl : (K : Int) < l.length := by omega
    have hKl' : (K : Int) < l'.length := by omega
    have hKz : ((K : Int) == 0) = true := by simp; omega
    have hi0 : (0 : Int) ≤ i := by omega
    obtain ⟨b, off, D, dc, rfl, hb, g0, hD, hd1, hd2⟩ := (H1.out _ hB0).sl hk
    obtain ⟨b', off', D', dc', rfl, hb', g0', hD', hd1', hd2'⟩ := (H2.out _ hB0).sl hk'
    have HK := Lib.hid hK
    clear hK
    have hnl := h4 K hk
    have hll := hlen K hk hk'
    rw [hll] at g0'
    obtain ⟨nl, hnq⟩ : ∃ nl, Hid (nl = (l[K]'hk).length) := ⟨_, rfl⟩
    rw [← hnq.out] at g0 g0' hnl
    by_cases hin : i < nl
    · have hii : ¬ (nl : Int) ≤ i := by omega
      have hii2 : (i : Int) < nl := by omega
      have hix : i < (l[K]'hk).length := by rw [← hnq.out]; exact hin
      have hix' : i < (l'[K]'hk').length := by rw [hll]; exact hix
      obtain ⟨bD, offD, rfl, hbD, q0, qu⟩ := hD.u64 hix
      obtain ⟨bD', offD', rfl, hbD', q0', qu'⟩ := hD'.u64 hix'
      obtain ⟨x1, hx1⟩ : ∃ d, Hid (d = (l[K]'hk)[i]'hix) := ⟨_, Lib.hid rfl⟩
      obtain ⟨x2, hx2⟩ : ∃ d, Hid (d = (l'[K]'hk')[i]'hix') := ⟨_, Lib.hid rfl⟩
      have hdf : Hid (df l l' K i = (x1 != x2)) := by
        rw [Hid, df, List.getD_eq_getElem?_getD, List.getD_eq_getElem?_getD, List.getD_eq_getElem?_getD, List.getD_eq_getElem?_getD, List.getElem?_eq_getElem hk, List.getElem?_eq_getElem hk', Option.getD_some, Option.getD_some, List.getElem?_eq_getElem hix, List.getElem?_eq_getElem hix', hx1.out, hx2.out]; rfl
      rw [← hx1.out] at q0
      rw [← hx2.out] at q0'
      have hdd : Hid (dfs l l' K i = if df l l' K i then [i] else []) := by
        rw [HK.out, Hid, dfs]
        rw [← HK.out, List.getD_eq_getElem?_getD, List.getElem?_eq_getElem hk, Option.getD_some, decide_eq_true hix]
        simp
      clear hD hD' hd1 hd2 hd1' hd2' qu qu' hx1 hx2 hix hix' hll hnl
      by_cases hxx : x1 = x2
      · have hxx' : (x1 == x2) = true := by simp [hxx]
        have hnil : Hid (dfs l l' K i = []) := by rw [Hid, hdd.out, hdf.out, hxx]; simp
        clear hxx
        go_enter Try.func48, Try.ntmps48
        go_upto_region 1 with (fail)
        go_quiet (fail)
        go_wp2_with fail
        go_ret
        rw [hnil.out]
        exact ⟨none, 0, rfl, Own.nil_, (hB0.trans (Drew.below ⟨_, rfl⟩ _))⟩
      · have hxx' : (x1 == x2) = false := by simp [hxx]
        have happ : Hid (dfs l l' K i = [i]) := by rw [Hid, hdd.out, hdf.out, if_pos (by simp [hxx])]
        clear hxx
        go_enter Try.func48, Try.ntmps48
        go_upto_region 1 with (fail)
        go_quiet (fail)
        generalize hW3 : W0.drewN nq = W3
        have hd3 : Drew W0 W3 := ⟨nq, hW3.symm⟩
        have hB3 : Below W0.heap.size W0 W3 := hd3.below _
        clear hW3
        have hB3w : Below w.heap.size w W3 := hB0.trans (hB3.mono hB0.size)
        have hi64 : I64 (i : Int) := by unfold I64; omega
        clear hdd hdf g0 g0' q0 q0' r0 r1 r2 e0 e1 e2
        go_wp2_with fail
        go_ret
        have ho : Own encInt (W3.alloc (.cells #[.int .i64 i] 3)) w.heap.size 3 (fun _ => False) (.slice (some ⟨W3.heap.size, 0, none⟩) 1 1) [(i : Int)] := Own.one_ hB3w.size (heap_alloc_new _ _) (cs := [.int .i64 i]) ⟨rfl, hi64⟩ rfl (fun h => h)
        rw [happ.out]
        exact ⟨some ⟨W3.heap.size, 0, none⟩, 1, rfl, ho, ext_alloc hB3w⟩
    · have hno : (nl : Int) ≤ i := by omega
      have hdfs : Hid (dfs l l' K i = []) := by
        rw [HK.out, Hid, dfs, if_neg]
        rw [← HK.out, List.getD_eq_getElem?_getD, List.getElem?_eq_getElem hk, Option.getD_some, ← hnq.out]
        simp; omega
      clear hD hD' hd1 hd2 hd1' hd2'
      go_enter Try.func48, Try.ntmps48
      go_upto_region 1 with (fail)
      go_quiet (fail)
      go_wp2_with fail
      go_ret
      rw [hdfs.out]
      exact ⟨none, 0, rfl, Own.nil_, (hB0.trans (Drew.below ⟨_, rfl⟩ _))⟩
  | succ k ih =>
    intro i w hk hk' hk12 hi h1 h2
    have H1 : Hid (∀ w', Below w.heap.size w w' → SlAt (encSl encU64) w' (Bl w.heap.size) A l) := fun w' hb => h1.below hb
    have H2 : Hid (∀ w', Below w.heap.size w w' → SlAt (encSl encU64) w' (Bl w.heap.size) A' l') := fun w' hb => h2.below hb
    clear h1 h2
    obtain ⟨W0, hW0⟩ : ∃ W0, (w.alloc (.cells #[.int .i64 s, .int .i64 lf, .slice A l.length c] 26)).alloc (.cells #[.int .i64 s', .int .i64 lf', .slice A' l'.length c'] 26) = W0 := ⟨_, rfl⟩
    have hB0 : Below w.heap.size w W0 := by rw [← hW0]; exact ext_alloc (ext_alloc (Below.refl _ _))
    have hs0 : W0.heap.size = w.heap.size + 2 := by rw [← hW0]; simp
    have hr0 : W0.heap[w.heap.size]? = some (.cells #[.int .i64 s, .int .i64 lf, .slice A l.length c] 26 (0, 0)) := by rw [← hW0]; exact (Below.heap_alloc _ _ _ (by simp)).trans (heap_alloc_new _ _)
    have hr1 : W0.heap[w.heap.size + 1]? = some (.cells #[.int .i64 s', .int .i64 lf', .slice A' l'.length c'] 26 (0, 0)) := by rw [← hW0]; exact heap_new2 _ _ _
    have HCC : Hid (∀ W, Below W0.heap.size W0 W → W.cell? ⟨w.heap.size, 0, none⟩ = some (.int .i64 s) ∧ W.cell? ⟨w.heap.size, 1, none⟩ = some (.int .i64 lf) ∧ W.cell? ⟨w.heap.size, 2, none⟩ = some (.slice A l.length c) ∧ W.cell? ⟨w.heap.size + 1, 0, none⟩ = some (.int .i64 s') ∧ W.cell? ⟨w.heap.size + 1, 1, none⟩ = some (.int .i64 lf') ∧ W.cell? ⟨w.heap.size + 1, 2, none⟩ = some (.slice A' l'.length c')) := fun W hb => by
      obtain ⟨a0, a1, a2, _⟩ := blk3 ((hb.block _ (by omega)).trans hr0)
      obtain ⟨b0, b1, b2, _⟩ := blk3 ((hb.block _ (by omega)).trans hr1)
      exact ⟨a0, a1, a2, b0, b1, b2⟩
    obtain ⟨r0, r1, r2, e0, e1, e2⟩ := HCC.out W0 (Below.refl _ _)
    have hi2 : i + 1 ≤ 1000000 := Nat.le_trans (Nat.le_mul_of_pos_right (i + 1) (Nat.pow_pos (by decide))) hi
    have hp : (i + 1) * 2 ^ (k + 1) = (2 * i + 1 + 1) * 2 ^ k := by rw [Nat.pow_succ, Nat.mul_comm (2 ^ k) 2, ← Nat.mul_assoc]; congr 1; omega
    have HP1 : Hid ((2 * i + 1 + 1) * 2 ^ k ≤ 1000000) := by rw [Hid, ← hp]; exact hi
    have HP0 : Hid ((2 * i + 1) * 2 ^ k ≤ 1000000) := Nat.le_trans (Nat.mul_le_mul_right _ (by omega)) HP1.out
    clear hp hi
    obtain ⟨K, hK⟩ : ∃ K, K = k + 1 := ⟨_, rfl⟩
    rw [← hK] at hk hk' hk12 ⊢
    have hK0 : (0 : Int) ≤ K := by omega
    have hKl : (K : Int) < l.length := by omega
    have hKl' : (K : Int) < l'.length := by omega
    have hKz : ((K : Int) == 0) = false := by simp; omega
    have hi0 : (0 : Int) ≤ i := by omega
    obtain ⟨b, off, D, dc, rfl, hb, g0, hD, hd1, hd2⟩ := (H1.out _ hB0).sl hk
    obtain ⟨b', off', D', dc', rfl, hb', g0', hD', hd1', hd2'⟩ := (H2.out _ hB0).sl hk'
    have HK := Lib.hid hK
    clear hK
    have hnl := h4 K hk
    have hll := hlen K hk hk'
    rw [hll] at g0'
    obtain ⟨nl, hnq⟩ : ∃ nl, Hid (nl = (l[K]'hk).length) := ⟨_, rfl⟩
    rw [← hnq.out] at g0 g0' hnl
    by_cases hin : i < nl
    · have hii : ¬ (nl : Int) ≤ i := by omega
      have hii2 : (i : Int) < nl := by omega
      have hix : i < (l[K]'hk).length := by rw [← hnq.out]; exact hin
      have hix' : i < (l'[K]'hk').length := by rw [hll]; exact hix
      obtain ⟨bD, offD, rfl, hbD, q0, qu⟩ := hD.u64 hix
      obtain ⟨bD', offD', rfl, hbD', q0', qu'⟩ := hD'.u64 hix'
      obtain ⟨x1, hx1⟩ : ∃ d, Hid (d = (l[K]'hk)[i]'hix) := ⟨_, Lib.hid rfl⟩
      obtain ⟨x2, hx2⟩ : ∃ d, Hid (d = (l'[K]'hk')[i]'hix') := ⟨_, Lib.hid rfl⟩
      have hdf : Hid (df l l' K i = (x1 != x2)) := by
        rw [Hid, df, List.getD_eq_getElem?_getD, List.getD_eq_getElem?_getD, List.getD_eq_getElem?_getD, List.getD_eq_getElem?_getD, List.getElem?_eq_getElem hk, List.getElem?_eq_getElem hk', Option.getD_some, Option.getD_some, List.getElem?_eq_getElem hix, List.getElem?_eq_getElem hix', hx1.out, hx2.out]; rfl
      rw [← hx1.out] at q0
      rw [← hx2.out] at q0'
      have hdd : Hid (dfs l l' K i = if df l l' K i then dfs l l' k (2 * i) ++ dfs l l' k (2 * i + 1) else []) := by
        rw [HK.out, Hid, dfs]
        rw [← HK.out, List.getD_eq_getElem?_getD, List.getElem?_eq_getElem hk, Option.getD_some, decide_eq_true hix]
        simp
      clear hD hD' hd1 hd2 hd1' hd2' qu qu' hx1 hx2 hix hix' hll hnl
      by_cases hxx : x1 = x2
      · have hxx' : (x1 == x2) = true := by simp [hxx]
        have hnil : Hid (dfs l l' K i = []) := by rw [Hid, hdd.out, hdf.out, hxx]; simp
        clear hxx
        go_enter Try.func48, Try.ntmps48
        go_upto_region 1 with (fail)
        go_quiet (fail)
        go_wp2_with fail
        go_ret
        rw [hnil.out]
        exact ⟨none, 0, rfl, Own.nil_, (hB0.trans (Drew.below ⟨_, rfl⟩ _))⟩
      · have hxx' : (x1 == x2) = false := by simp [hxx]
        have happ : Hid (dfs l l' K i = dfs l l' k (2 * i) ++ dfs l l' k (2 * i + 1)) := by rw [Hid, hdd.out, hdf.out, if_pos (by simp [hxx])]
        clear hxx
        go_enter Try.func48, Try.ntmps48
        go_upto_region 1 with (fail)
        go_quiet (fail)
        generalize hW3 : W0.drewN nq = W3
        have hd3 : Drew W0 W3 := ⟨nq, hW3.symm⟩
        have hB3 : Below W0.heap.size W0 W3 := hd3.below _
        clear hW3
        have hk0 := HK.out
        have HIH1 : Hid (∀ W, Below W0.heap.size W0 W → Calls Try.prog 48 #[.agg #[.int .i64 s, .int .i64 lf, .slice (some ⟨b, off, none⟩) l.length c], .agg #[.int .i64 s', .int .i64 lf', .slice (some ⟨b', off', none⟩) l'.length c'], .int .i64 k, .int .i64 (2 * (i : Int))] W (FoundRet (toI (dfs l l' k (2 * i))) W)) := fun W hb => by
          have HW := hB0.trans (hb.mono hB0.size)
          have h := ih (2 * i) W (by omega) (by omega) (by omega) HP0.out ((H1.out W HW).more (Bl.mono HW.size)) ((H2.out W HW).more (Bl.mono HW.size))
          simpa using h
        have HIH2 : Hid (∀ W, Below W0.heap.size W0 W → Calls Try.prog 48 #[.agg #[.int .i64 s, .int .i64 lf, .slice (some ⟨b, off, none⟩) l.length c], .agg #[.int .i64 s', .int .i64 lf', .slice (some ⟨b', off', none⟩) l'.length c'], .int .i64 k, .int .i64 (2 * (i : Int) + 1)] W (FoundRet (toI (dfs l l' k (2 * i + 1))) W)) := fun W hb => by
          have HW := hB0.trans (hb.mono hB0.size)
          have h := ih (2 * i + 1) W (by omega) (by omega) (by omega) HP1.out ((H1.out W HW).more (Bl.mono HW.size)) ((H2.out W HW).more (Bl.mono HW.size))
          simpa using h
        have hn1 : Hid ((toI (dfs l l' k (2 * i))).length ≤ 4096) := by
          rw [Hid, toI_len]; exact Nat.le_trans (dfs_len l l' k _) (Nat.pow_le_pow_right (by omega) (by omega : k ≤ 12))
        have hn2 : Hid ((toI (dfs l l' k (2 * i + 1))).length ≤ 4096) := by
          rw [Hid, toI_len]; exact Nat.le_trans (dfs_len l l' k _) (Nat.pow_le_pow_right (by omega) (by omega : k ≤ 12))
        have hres : Hid (toI (dfs l l' K i) = toI (dfs l l' k (2 * i)) ++ toI (dfs l l' k (2 * i + 1))) := by rw [Hid, happ.out, toI_app]
        obtain ⟨u1, hu1⟩ : ∃ u, toI (dfs l l' k (2 * i)) = u := ⟨_, rfl⟩
        obtain ⟨u2, hu2⟩ : ∃ u, toI (dfs l l' k (2 * i + 1)) = u := ⟨_, rfl⟩
        rw [hu1] at HIH1 hn1 hres
        rw [hu2] at HIH2 hn2 hres
        have hB3w : Below w.heap.size w W3 := hB0.trans (hB3.mono hB0.size)
        have hs3 := hB3.size
        clear hu1 hu2 happ hdd hdf ih g0 g0' q0 q0' r0 r1 r2 e0 e1 e2
        go_upto_region 5 with (fail)
        have hc0 := HCC.out W3.drew hB3.drew
        have e0 : IntKind.i64.wrap ((K : Int) - 1) = (k : Int) := by
          rw [IntWalk.i64_in _ (by omega)]; omega
        have e1 : IntKind.i64.wrap (2 * (i : Int)) = 2 * (i : Int) := IntWalk.i64_in _ (by omega)
        have e2 : IntKind.i64.wrap (2 * (i : Int) + 1) = 2 * (i : Int) + 1 := IntWalk.i64_in _ (by omega)
        clear hk0
        go_region_held3 (fun W => W.cell? ⟨w.heap.size, 0, none⟩ = some (.int .i64 s) ∧ W.cell? ⟨w.heap.size, 1, none⟩ = some (.int .i64 lf) ∧ W.cell? ⟨w.heap.size, 2, none⟩ = some (.slice (some ⟨b, off, none⟩) l.length c) ∧ W.cell? ⟨w.heap.size + 1, 0, none⟩ = some (.int .i64 s') ∧ W.cell? ⟨w.heap.size + 1, 1, none⟩ = some (.int .i64 lf') ∧ W.cell? ⟨w.heap.size + 1, 2, none⟩ = some (.slice (some ⟨b', off', none⟩) l'.length c')) (first | exact hc0 | exact HCC.out _ hx6 | exact HCC.out _ hx5 | exact HCC.out _ hx4) (first | (go_at_call 48; refine (HIH2.out w4 hx4).mono ?_; rintro e w5 ⟨A5, d5, rfl, o5, h5⟩; have hx5 : Below W0.heap.size W0 w5 := hx4.trans (h5.mono hx4.size); have o45 := (o4.keep_ h5).more (S' := Nw w4.heap.size w5.heap.size) (fun _ h => h.elim) (fun g hg hS => Nat.lt_irrefl _ (Nat.lt_of_lt_of_le (o4.lt g hg).2 hS.1)); have hz5 := h5.size; have hz4 := h4.size; have hz6 := Nat.le_trans hz4 hz5) | (go_at_call 48; refine (HIH1.out W3.drew hB3.drew).mono ?_; rintro e w4 ⟨A4, d4, rfl, o4, h4⟩; have hx4 : Below W0.heap.size W0 w4 := hB3.trans ((bUn h4).mono hs3)) | (refine step_appAll (E := encInt) tyInts11 rfl _ _ rfl rfl o45 rfl rfl o5.sl_ (fun _ h => h.2) hz6 (by have := hn1.out; have := hn2.out; unfold maxLen; omega) (by have := hn1.out; have := hn2.out; omega) ?_; intro A6 d6 w6 hown6 hg6 hat6; have hx6 : Below W0.heap.size W0 w6 := hx5.grown hg6 (by have := hx5.size; omega) (fun g h => Nat.le_trans hs3 (o4.lt g h).1)))
        have hb36 := hx6
        have HF := Lib.hid (hown6.flatI (base' := w.heap.size) (Nat.le_trans hB0.size hs3))
        clear hown6 hg6 hat6 e0 e1 e2 hc0
        go_wp2_with fail
        go_ret
        rw [hres.out]
        refine ⟨A6, d6, by simp, ?_, hB0.trans (hb36.mono hB0.size)⟩
        have := HF.out
        simpa using this
    · have hno : (nl : Int) ≤ i := by omega
      have hdfs : Hid (dfs l l' K i = []) := by
        rw [HK.out, Hid, dfs, if_neg]
        rw [← HK.out, List.getD_eq_getElem?_getD, List.getElem?_eq_getElem hk, Option.getD_some, ← hnq.out]
        simp; omega
      clear hD hD' hd1 hd2 hd1' hd2'
      go_enter Try.func48, Try.ntmps48
      go_upto_region 1 with (fail)
      go_quiet (fail)
      go_wp2_with fail
      go_ret
      rw [hdfs.out]
      exact ⟨none, 0, rfl, Own.nil_, (hB0.trans (Drew.below ⟨_, rfl⟩ _))⟩
end Go.Proofs.Ythneomehfmjbkaa

/-
  The tree over leaves: the walks.
-/
import Derived.Test.YthneomehfmjbkaaHh
set_option linter.unusedVariables false
set_option linter.unusedSimpArgs false
set_option linter.unusedSectionVars false
set_option linter.unnecessarySimpa false
namespace Go.Proofs.Ythneomehfmjbkaa
open Go.RowKit Go.Shelf
attribute [local go_sem] Oper.semAt_some

theorem tyLvls : SliceTy Try.prog 24 60 1 24 := sliceTy_mk (z := .slice none 0 0) Try.underlying24 (by kernel_rfl) rfl (by decide)
/-- blocks of S0, or new ones -/
def LvT (S0 : Nat → Prop) (n₀ : Nat) (W : World) (g : Nat) : Prop := S0 g ∨ Nw n₀ W.heap.size g
theorem LvT.mono {S0 : Nat → Prop} {n₀ g : Nat} {W W' : World} (h : LvT S0 n₀ W g) (hs : W.heap.size ≤ W'.heap.size) : LvT S0 n₀ W' g := h.imp id (fun h => h.mono (Nat.le_refl _) hs)
/-- a tree in memory: all that it reads in blocks of S0, or in new ones -/
def TreeRetS (t : Tr) (S0 : Nat → Prop) (w : World) (e : Ending) (w' : World) : Prop :=
  ∃ A c, e = .returned (.agg #[.int .i64 t.1, .int .i64 t.2.1, .slice A t.2.2.length c]) ∧ t.2.2.length ≤ c ∧ c ≤ maxLen ∧ SlAt (encSl encU64) w' (LvT S0 w.heap.size w') A t.2.2 ∧ Below w.heap.size w w'
/-- a tree in memory: all that it reads in blocks from lo on -/
def TreeRet (t : Tr) (lo : Nat) (w : World) (e : Ending) (w' : World) : Prop :=
  ∃ A c, e = .returned (.agg #[.int .i64 t.1, .int .i64 t.2.1, .slice A t.2.2.length c]) ∧ t.2.2.length ≤ c ∧ c ≤ maxLen ∧ SlAt (encSl encU64) w' (Nw lo w'.heap.size) A t.2.2 ∧ Below w.heap.size w w'
theorem TreeRetS.lo {t : Tr} {lo : Nat} {w w' : World} {e : Ending} (h : TreeRetS t (Nw lo w.heap.size) w e w') (hlo : lo ≤ w.heap.size) : TreeRet t lo w e w' := by
  obtain ⟨A, c, h1, h2, h3, h4, h5⟩ := h
  exact ⟨A, c, h1, h2, h3, h4.more (fun g hg => hg.elim (fun h => h.mono (Nat.le_refl _) h5.size) (fun h => h.mono hlo (Nat.le_refl _))), h5⟩
theorem levF_len : ∀ n l, (levF n l).length ≤ n + 1
  | 0, l => by simp [levF]
  | n + 1, l => by
    show (if l.length ≤ 1 then [l] else l :: levF n (upL l)).length ≤ _
    split
    · simp
    · have := levF_len n (upL l); simp; omega
theorem levels_len (l : List Int) : (levels l).length ≤ l.length + 1 := levF_len _ _
def slLen : Value → Nat
  | .slice _ n _ => n
  | _ => 0
/-- where the levels lie: neither in the tree's variables, nor in the list's own block -/
def LvS (S0 : Nat → Prop) (n₀ b tb : Nat) (W : World) (v : Value) (g : Nat) : Prop := LvT S0 n₀ W g ∧ g ≠ b ∧ g ≠ tb ∧ v.ownBlock ≠ some g
/-- the state of a loop over levels: the result's variable, the tree's, the levels so far, the level at hand -/
def LvI (S0 : Nat → Prop) (n₀ b tb : Nat) (s lf : Int) (B : Option Addr) (vc : Nat) (app : List (List Int)) (A : Option Addr) (c : Nat) (cur : List Int) (wr : World) : Prop :=
  wr.heap[b]? = some (.cells #[.int .i64 0, .int .i64 0, .slice none 0 0] 26 (0, 0)) ∧ wr.heap[tb]? = some (.cells #[.int .i64 s, .int .i64 lf, .slice B app.length vc] 26 (0, 0)) ∧
  Own (encSl encU64) wr n₀ 60 (LvS S0 n₀ b tb wr (.slice B app.length vc)) (.slice B app.length vc) app ∧ SlAt encU64 wr (LvS S0 n₀ b tb wr (.slice B app.length vc)) A cur ∧ cur.length ≤ c ∧ c ≤ maxLen ∧
  (∀ g, (Value.slice B app.length vc).ownBlock = some g → g ≠ b ∧ g ≠ tb) ∧ b ≠ tb ∧ n₀ ≤ b ∧ n₀ ≤ tb ∧ (∀ g, S0 g → g < n₀)
theorem LvI.slt {S0 : Nat → Prop} {n₀ b tb : Nat} {s lf : Int} {B A : Option Addr} {vc c : Nat} {app : List (List Int)} {cur : List Int} {W : World} (h : LvI S0 n₀ b tb s lf B vc app A c cur W) {v : Value} {g : Nat} (hg : LvS S0 n₀ b tb W v g) : g < W.heap.size := by
  obtain ⟨k1, k2, k3, k4, k5, k6, k7, k8, k9, ka, kb⟩ := h
  have hb0 : b < W.heap.size := (Array.getElem?_eq_some_iff.1 k1).1
  exact hg.1.elim (fun h => by have := kb g h; omega) (fun h => h.2)
theorem LvI.app {S0 : Nat → Prop} {n₀ b tb : Nat} {s lf : Int} {B A A' : Option Addr} {vc c c5 : Nat} {app : List (List Int)} {cur : List Int} {W w5 : World} {o : Obj} (h : LvI S0 n₀ b tb s lf B vc app A c cur W)
    (hown5 : Own (encSl encU64) w5 n₀ 60 (LvS S0 n₀ b tb W (.slice B app.length vc)) (.slice A' (app.length + 1) c5) (app ++ [cur])) (hg5 : (W.alloc o).grownBy w5 (Value.slice B app.length vc).ownBlock)
    (hat5 : (Value.slice A' (app.length + 1) c5).ownBlock = (Value.slice B app.length vc).ownBlock ∨ (Value.slice A' (app.length + 1) c5).ownBlock = some (W.alloc o).heap.size) :
    LvI S0 n₀ b tb s lf A' c5 (app ++ [cur]) A c cur (w5.setCell ⟨tb, 2, none⟩ (.slice A' (app.length + 1) c5)) ∧ Below n₀ W (w5.setCell ⟨tb, 2, none⟩ (.slice A' (app.length + 1) c5)) := by
  have hslt : ∀ g, LvS S0 n₀ b tb W (.slice B app.length vc) g → g < W.heap.size := fun g hg => h.slt hg
  obtain ⟨k1, k2, k3, k4, k5, k6, k7, k8, k9, ka, kb⟩ := h
  have hb1 : tb < W.heap.size := (Array.getElem?_eq_some_iff.1 k2).1
  have hb0 : b < W.heap.size := (Array.getElem?_eq_some_iff.1 k1).1
  have hs1 := hg5.size
  rw [World.size_alloc] at hs1 hat5
  have hl := k3.lt
  have hblk : ∀ g, g < W.heap.size → (Value.slice B app.length vc).ownBlock ≠ some g → w5.heap[g]? = W.heap[g]? := fun g hg hne => (hg5.block g (by rw [World.size_alloc]; omega) (fun e => hne e.symm)).trans (Below.heap_alloc _ _ _ hg)
  have hset : ∀ g, g ≠ tb → (w5.setCell ⟨tb, 2, none⟩ (.slice A' (app.length + 1) c5)).heap[g]? = w5.heap[g]? := fun g hg => Below.heap_setCell _ _ _ _ hg
  have hsz : (w5.setCell ⟨tb, 2, none⟩ (.slice A' (app.length + 1) c5)).heap.size = w5.heap.size := by simp [World.setCell]
  have hal : (app ++ [cur]).length = app.length + 1 := by simp
  have hSS : ∀ g, LvS S0 n₀ b tb W (.slice B app.length vc) g → LvS S0 n₀ b tb (w5.setCell ⟨tb, 2, none⟩ (.slice A' (app.length + 1) c5)) (.slice A' (app.length + 1) c5) g := fun g hg => by
    have hgl := hslt g hg
    obtain ⟨h1, h2, h3, h4⟩ := hg
    refine ⟨h1.mono (by rw [hsz]; omega), h2, h3, fun e => ?_⟩
    rcases hat5 with e5 | e5
    · exact h4 (by rw [← e5]; exact e)
    · rw [e5] at e; injection e with e; omega
  have hnew : ∀ g, (Value.slice A' (app.length + 1) c5).ownBlock = some g → g ≠ b ∧ g ≠ tb := fun g e => by
    rcases hat5 with e5 | e5
    · exact k7 g (by rw [← e5]; exact e)
    · rw [e5] at e; injection e with e; omega
  refine ⟨⟨?_, ?_, ?_, ?_, k5, k6, by rw [hal]; exact hnew, k8, k9, ka, kb⟩, ?_⟩
  · exact (hset b k8).trans ((hblk b hb0 (fun e => (k7 b e).1 rfl)).trans k1)
  · rw [hal]; exact blk3_set ((hblk tb hb1 (fun e => (k7 tb e).2 rfl)).trans k2) _
  · rw [hal]
    have h5 := hown5.more hSS (fun g e hS => hS.2.2.2 e)
    refine h5.blk (fun g hg => hset g ?_)
    rcases hg with hg | hg
    · exact hg.2.2.1
    · exact (hnew g hg).2
  · rw [hal]
    exact (k4.blk (fun g hg => (hset g hg.2.2.1).trans (hblk g (hslt g hg) hg.2.2.2))).more hSS
  · exact (((Below.refl n₀ W).alloc (by omega) o).grown hg5 (by simp; omega) (fun g e => (hl g e).1)).setCell (p := ⟨tb, 2, none⟩) ka _
theorem LvI.next {S0 : Nat → Prop} {n₀ b tb : Nat} {s lf : Int} {B A A2 : Option Addr} {vc c c2 : Nat} {app : List (List Int)} {cur cur2 : List Int} {W W' : World} (h : LvI S0 n₀ b tb s lf B vc app A c cur W) (hb : Below W.heap.size W W')
    (h2 : SlAt encU64 W' (Nw W.heap.size W'.heap.size) A2 cur2) (h3 : cur2.length ≤ c2) (h4 : c2 ≤ maxLen) : LvI S0 n₀ b tb s lf B vc app A2 c2 cur2 W' := by
  have hslt : ∀ g, LvS S0 n₀ b tb W (.slice B app.length vc) g → g < W.heap.size := fun g hg => h.slt hg
  obtain ⟨k1, k2, k3, k4, k5, k6, k7, k8, k9, ka, kb⟩ := h
  have hb1 : tb < W.heap.size := (Array.getElem?_eq_some_iff.1 k2).1
  have hb0 : b < W.heap.size := (Array.getElem?_eq_some_iff.1 k1).1
  have hsz := hb.size
  have hl := k3.lt
  refine ⟨(hb.block b hb0).trans k1, (hb.block _ hb1).trans k2, ?_, h2.more (fun g hg => ⟨Or.inr ⟨by have := hg.1; omega, hg.2⟩, by have := hg.1; omega, by have := hg.1; omega, fun e => by have := (hl g e).2; have := hg.1; omega⟩), h3, h4, k7, k8, k9, ka, kb⟩
  exact (k3.below hb hslt).more (fun g hg => ⟨hg.1.mono hsz, hg.2⟩) (fun g e hS => hS.2.2.2 e)
theorem LvI.out_ {S0 : Nat → Prop} {n₀ b tb : Nat} {s lf : Int} {B A : Option Addr} {vc c : Nat} {app : List (List Int)} {cur : List Int} {W W' : World} (h : LvI S0 n₀ b tb s lf B vc app A c cur W) (hsz : W'.heap.size = W.heap.size) (hb : ∀ g, g ≠ b → W'.heap[g]? = W.heap[g]?) :
    app.length ≤ vc ∧ vc ≤ maxLen ∧ SlAt (encSl encU64) W' (LvT S0 n₀ W') B app := by
  obtain ⟨k1, k2, k3, k4, k5, k6, k7, k8, k9, ka, kb⟩ := h
  have hl := k3.lt
  obtain ⟨A1, c1, e, h1, h2, h3⟩ := k3.reads (S' := fun g => LvT S0 n₀ W g ∧ g ≠ b) (fun g hg => ⟨hg.1, hg.2.1⟩) (fun g e => ⟨Or.inr ⟨(hl g e).1, (hl g e).2⟩, (k7 g e).1⟩)
  simp only [List.cons.injEq, and_true] at e
  injection e with e1 e2 e3
  subst e1 e3
  exact ⟨h1, h2, (h3.blk (fun g hg => hb g hg.2)).more (fun g hg => hg.1.mono (by omega))⟩
theorem blk3_all {w : World} {b : Nat} {T : TypeId} {c0 c1 c2 : Value} (h : w.heap[b]? = some (.cells #[c0, c1, c2] T (0, 0))) (u v t : Value) : (((w.setCell ⟨b, 0, none⟩ u).setCell ⟨b, 1, none⟩ v).setCell ⟨b, 2, none⟩ t).heap[b]? = some (.cells #[u, v, t] T (0, 0)) := by
  simp [World.setCell, Array.getElem?_modify, h]
theorem blk3_other {w : World} {b g : Nat} (h : g ≠ b) (u v t : Value) : (((w.setCell ⟨b, 0, none⟩ u).setCell ⟨b, 1, none⟩ v).setCell ⟨b, 2, none⟩ t).heap[g]? = w.heap[g]? :=
  (Below.heap_setCell _ ⟨b, 2, none⟩ _ _ h).trans ((Below.heap_setCell _ ⟨b, 1, none⟩ _ _ h).trans (Below.heap_setCell _ ⟨b, 0, none⟩ _ _ h))
set_option maxHeartbeats 4000000 in
theorem above_anyS (A : Option Addr) (c n : Nat) (S0 : Nat → Prop) (s lf : Int) (l : List Int) (w : World) (hn : l.length = n) (h0 : 1 ≤ n) (hlo : ∀ g, S0 g → g < w.heap.size) (hc : n ≤ c ∧ c ≤ maxLen) (h1 : SlAt encU64 w S0 A l) (hl : n ≤ 100000) :
    Calls Try.prog 40 #[.int .i64 s, .int .i64 lf, .slice A n c] w (TreeRetS (s, lf, levels l) S0 w) := by
  subst hn
  have H1 : Hid (∀ w', Below w.heap.size w w' → SlAt encU64 w' S0 A l) := fun w' hb => h1.blk (fun b h => hb.block b (hlo b h))
  clear h1
  go_enter Try.func40, Try.ntmps40
  go_wp2
  go_step3
  go_wp2
  go_step3
  go_wp2
  go_loopw [2] (fun v wr => ∃ (A : Option Addr) (c : Nat) (cur : List Int) (B : Option Addr) (vc : Nat) (app : List (List Int)), v = .slice A cur.length c ∧ 1 ≤ cur.length ∧ cur.length ≤ l.length ∧ Hid (levels l = app ++ levels cur) ∧ Hid (LvI S0 w.heap.size w.heap.size (w.heap.size + 1) s lf B vc app A c cur wr) ∧ Below w.heap.size w wr) (fun v _ => slLen v)
  case atStart =>
    refine ⟨A, c, l, none, 0, [], rfl, h0, Nat.le_refl _, rfl, ?_, ext_alloc (ext_alloc (Below.refl _ _))⟩
    refine ⟨(Below.heap_alloc _ _ _ (by simp)).trans (heap_alloc_new _ _), by have := heap_alloc_new (w.alloc (.cells #[.int .i64 0, .int .i64 0, .slice none 0 0] 26)) (.cells #[.int .i64 s, .int .i64 lf, .slice none 0 0] 26); simpa using this, Own.nil_, ?_, hc.1, hc.2, by simp [Value.ownBlock], by omega, Nat.le_refl _, by omega, hlo⟩
    exact (H1.out _ (ext_alloc (ext_alloc (Below.refl _ _)))).more (fun g hg => ⟨Or.inl hg, by have := hlo g hg; omega, by have := hlo g hg; omega, by simp [Value.ownBlock]⟩)
  case round =>
    obtain ⟨wo, rfl⟩ : ∃ wo : World, wo = wr := ⟨_, rfl⟩
    obtain ⟨A, c, cur, B, vc, app, rfl, hc1, hcl, hlev, hI, hB⟩ := hrel
    have HSL : ∀ (v : Value) g, LvS S0 w.heap.size w.heap.size (w.heap.size + 1) wo v g → g < wo.heap.size := fun v g hg => hI.out.slt hg
    obtain ⟨k1, k2, k3, k4, k5, k6, k7, k8, k9, ka, kb⟩ := hI.out
    obtain ⟨r0, r1, r2, rf⟩ := blk3 k1
    obtain ⟨t0, t1, t2, tf⟩ := blk3 k2
    have hb1 : w.heap.size + 1 < wo.heap.size := (Array.getElem?_eq_some_iff.1 k2).1
    have hal : app.length ≤ 100001 := by
      have h5 := congrArg List.length hlev.out
      have h6 := levels_len l
      rw [List.length_append] at h5; omega
    have HO1 := Lib.hid (Own.alloc k3 (fun g hg => HSL _ g hg) (.cells #[.slice A cur.length c] 60))
    have HRD : Hid ((encSl encU64).rd (wo.alloc (.cells #[.slice A cur.length c] 60)) (LvS S0 w.heap.size w.heap.size (w.heap.size + 1) wo (.slice B app.length vc)) [.slice A cur.length c] cur) := ⟨A, c, rfl, k5, k6, k4.blk (fun g hg => Below.heap_alloc _ _ _ (HSL _ _ hg))⟩
    have hl := Lib.hid k7
    clear k3 k4 k5 k6 k7 k8 k9 ka kb r0 r1 r2 rf
    go_wp2_with (at_builtin; refine Hid.out ?_)
    change wpList _ _ _ _ _ _
    refine wpList_app1 (E := encSl encU64) tyLvls rfl _ _ rfl rfl HO1.out cur _ rfl HRD.out (heap_alloc_new _ _) (fun _ h => by simp; have := HSL _ _ h; omega) (by simp; omega) (by unfold maxLen; omega) (by omega) ?_
    intro A' c5 w5 hown5 hg5 hat5
    have HAPP := Lib.hid (hI.out.app hown5 hg5 hat5)
    have hk2 : w5.heap[w.heap.size + 1]? = some (.cells #[.int .i64 s, .int .i64 lf, .slice B app.length vc] 26 (0, 0)) := (hg5.block _ (by simp; omega) (fun e => (hl.out _ e.symm).2 rfl)).trans ((Below.heap_alloc _ _ _ hb1).trans k2)
    have hk1 : w5.heap[w.heap.size]? = some (.cells #[.int .i64 0, .int .i64 0, .slice none 0 0] 26 (0, 0)) := (hg5.block _ (by simp; omega) (fun e => (hl.out _ e.symm).1 rfl)).trans ((Below.heap_alloc _ _ _ (by omega)).trans k1)
    obtain ⟨u0, u1, u2, uf⟩ := blk3 hk2
    obtain ⟨r0, r1, r2, rf⟩ := blk3 hk1
    clear hown5 hg5 hat5 HRD HO1 k1 k2 t0 t1 t2 tf
    by_cases h1 : cur.length = 1
    · have h1' : ((cur.length : Int) == 1) = true := by simp [h1]
      go_wp2_with fail
      have hal1 : (app ++ [cur]).length = app.length + 1 := by simp
      obtain ⟨hI5, hB5⟩ := HAPP.out
      have hz := blk3_all hI5.1 (.int .i64 s) (.int .i64 lf) (.slice A' (app.length + 1) c5)
      obtain ⟨p1, p2, p3⟩ := hI5.out_ (W' := (((w5.setCell ⟨w.heap.size + 1, 2, none⟩ (.slice A' (app.length + 1) c5)).setCell ⟨w.heap.size, 0, none⟩ (.int .i64 s)).setCell ⟨w.heap.size, 1, none⟩ (.int .i64 lf)).setCell ⟨w.heap.size, 2, none⟩ (.slice A' (app.length + 1) c5)) (by simp [World.setCell]) (fun g hg => blk3_other hg _ _ _)
      have hB6 : Below w.heap.size w ((((w5.setCell ⟨w.heap.size + 1, 2, none⟩ (.slice A' (app.length + 1) c5)).setCell ⟨w.heap.size, 0, none⟩ (.int .i64 s)).setCell ⟨w.heap.size, 1, none⟩ (.int .i64 lf)).setCell ⟨w.heap.size, 2, none⟩ (.slice A' (app.length + 1) c5)) := (((hB.trans hB5).setCell (p := ⟨w.heap.size, 0, none⟩) (Nat.le_refl w.heap.size) _).setCell (p := ⟨w.heap.size, 1, none⟩) (Nat.le_refl w.heap.size) _).setCell (p := ⟨w.heap.size, 2, none⟩) (Nat.le_refl w.heap.size) _
      have hlv : levels l = app ++ [cur] := by rw [hlev.out, levels_one (by omega)]
      generalize ((((w5.setCell ⟨w.heap.size + 1, 2, none⟩ (.slice A' (app.length + 1) c5)).setCell ⟨w.heap.size, 0, none⟩ (.int .i64 s)).setCell ⟨w.heap.size, 1, none⟩ (.int .i64 lf)).setCell ⟨w.heap.size, 2, none⟩ (.slice A' (app.length + 1) c5)) = W3 at hz p3 hB6 ⊢
      obtain ⟨z0, z1, z2, _⟩ := blk3 hz
      refine bodyPost_ret (v := .agg #[.int .i64 s, .int .i64 lf, .slice A' (app.length + 1) c5]) ?_ rfl ?_
      · simp [results, Try.results40, Try.f40, go_sem, z0, z1, z2]
      · rw [hal1] at p1
        exact ⟨A', c5, by simp [hlv], by simp only [hlv, hal1]; exact p1, p2, by simp only [hlv]; exact p3, hB6⟩
    · have h1' : ((cur.length : Int) == 1) = false := by simp; omega
      obtain ⟨hI5, hB5⟩ := HAPP.out
      have HUP := Lib.hid (up_any A c cur.length cur _ rfl (hI5.2.2.2.1.more (fun g hg => hI5.slt hg)) (by omega))
      go_wp2_with fail
      refine HUP.out.mono ?_
      rintro e w6 ⟨A2, c2, rfl, q1, q2, q3, q4⟩
      have hI6 := Lib.hid (hI5.next q4 q3 q1 q2)
      have hB6 := Lib.hid ((hB.trans hB5).trans (q4.mono (hB.trans hB5).size))
      have hlv := Lib.hid (levels_up (l := cur) (by omega))
      have HUL := Lib.hid (upL_len cur)
      clear HUP q1 q2 q3 q4 hI5 hB5 hB u0 u1 u2 uf r0 r1 r2 rf hk1 hk2
      go_wp2
      go_roundw
      case rel => exact ⟨A2, c2, upL cur, A', c5, app ++ [cur], rfl, by rw [HUL.out]; omega, by rw [HUL.out]; omega, by rw [Hid, hlev.out, hlv.out]; simp, by simpa [Hid] using hI6.out, hB6.out⟩
      case measure => simp only [slLen]; rw [HUL.out]; omega
theorem above_any (A : Option Addr) (c n lo : Nat) (s lf : Int) (l : List Int) (w : World) (hn : l.length = n) (h0 : 1 ≤ n) (hlo : lo ≤ w.heap.size) (hc : n ≤ c ∧ c ≤ maxLen) (h1 : SlAt encU64 w (Nw lo w.heap.size) A l) (hl : n ≤ 100000) :
    Calls Try.prog 40 #[.int .i64 s, .int .i64 lf, .slice A n c] w (TreeRet (s, lf, levels l) lo w) :=
  (above_anyS A c n (Nw lo w.heap.size) s lf l w hn h0 (fun _ h => h.2) hc h1 hl).mono (fun _ _ h => h.lo hlo)
end Go.Proofs.Ythneomehfmjbkaa

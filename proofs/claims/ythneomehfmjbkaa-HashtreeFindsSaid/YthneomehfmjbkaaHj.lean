/-
  The reference's tree: the walk.
-/
import Derived.Test.YthneomehfmjbkaaHi
set_option linter.unusedVariables false
set_option linter.unusedSimpArgs false
set_option linter.unusedSectionVars false
set_option linter.unnecessarySimpa false
namespace Go.Proofs.Ythneomehfmjbkaa
open Go.RowKit Go.Shelf
attribute [local go_sem] Oper.semAt_some

theorem Own.one_ {α : Type} {E : Enc α} {W : World} {base g : Nat} {e : TypeId} {S : Nat → Prop} {x : α} {cs : List Value} (hb : base ≤ g) (hg : W.heap[g]? = some (.cells cs.toArray e (0, 0))) (hx : E.rd W S cs x) (hsz : cs.length = E.size) (hS : ¬ S g) :
    Own E W base e S (.slice (some ⟨g, 0, none⟩) 1 1) [x] :=
  ⟨[cs], ⟨by simp [hsz], Or.inr ⟨g, 1, cs.toArray, rfl, hb, hg, Nat.le_refl _, by decide, by simp [hsz], by simp [← hsz]⟩⟩, ⟨hx, trivial⟩, fun g' e => by
    have : g = g' := by simpa [Value.ownBlock] using e
    subst this; exact hS⟩
set_option maxHeartbeats 4000000 in
theorem refTree_anyS (A : Option Addr) (c n : Nat) (S0 : Nat → Prop) (s lf : Int) (l : List Int) (w : World) (hn : l.length = n) (h0 : 1 ≤ n) (hlo : ∀ g, S0 g → g < w.heap.size) (hc : n ≤ c ∧ c ≤ maxLen) (h1 : SlAt encU64 w S0 A l) (hl : n ≤ 100000) :
    Calls Try.prog 43 #[.int .i64 s, .int .i64 lf, .slice A n c] w (TreeRetS (s, lf, levels l) S0 w) := by
  subst hn
  have H1 : Hid (∀ w', Below w.heap.size w w' → SlAt encU64 w' S0 A l) := fun w' hb => h1.blk (fun b h => hb.block b (hlo b h))
  clear h1
  go_enter Try.func43, Try.ntmps43
  go_wp2
  go_loopw [2] (fun v wr => ∃ (A : Option Addr) (c : Nat) (cur : List Int) (B : Option Addr) (vc : Nat) (app done : List (List Int)), v = .slice A cur.length c ∧ 1 ≤ cur.length ∧ cur.length ≤ l.length ∧ Hid (app = done ++ [cur]) ∧ Hid (levels l = done ++ levels cur) ∧ Hid (LvI S0 w.heap.size w.heap.size (w.heap.size + 1 + 1) s lf B vc app A c cur wr) ∧ Below w.heap.size w wr) (fun v _ => slLen v)
  case atStart =>
    refine ⟨A, c, l, some ⟨w.heap.size + 1, 0, none⟩, 1, [l], [], rfl, h0, Nat.le_refl _, rfl, rfl, ?_, ext_alloc (ext_alloc (ext_alloc (Below.refl _ _)))⟩
    have a1 := heap_alloc_new w (.cells #[.int .i64 0, .int .i64 0, .slice none 0 0] 26)
    have a2 := heap_alloc_new (w.alloc (.cells #[.int .i64 0, .int .i64 0, .slice none 0 0] 26)) (.cells #[.slice A l.length c] 60)
    have a3 := heap_alloc_new ((w.alloc (.cells #[.int .i64 0, .int .i64 0, .slice none 0 0] 26)).alloc (.cells #[.slice A l.length c] 60)) (.cells #[.int .i64 s, .int .i64 lf, .slice (some ⟨w.heap.size + 1, 0, none⟩) 1 1] 26)
    simp only [World.size_alloc] at a1 a2 a3
    have hat := (H1.out _ (ext_alloc (ext_alloc (ext_alloc (Below.refl _ _))) : Below w.heap.size w (((w.alloc (.cells #[.int .i64 0, .int .i64 0, .slice none 0 0] 26)).alloc (.cells #[.slice A l.length c] 60)).alloc (.cells #[.int .i64 s, .int .i64 lf, .slice (some ⟨w.heap.size + 1, 0, none⟩) 1 1] 26)))).more (S' := LvS S0 w.heap.size w.heap.size (w.heap.size + 1 + 1) (((w.alloc (.cells #[.int .i64 0, .int .i64 0, .slice none 0 0] 26)).alloc (.cells #[.slice A l.length c] 60)).alloc (.cells #[.int .i64 s, .int .i64 lf, .slice (some ⟨w.heap.size + 1, 0, none⟩) 1 1] 26)) (.slice (some ⟨w.heap.size + 1, 0, none⟩) 1 1)) (fun g hg => ⟨Or.inl hg, by have := hlo g hg; omega, by have := hlo g hg; omega, by have := hlo g hg; simp [Value.ownBlock]; omega⟩)
    refine ⟨(Below.heap_alloc _ _ _ (by simp; omega)).trans ((Below.heap_alloc _ _ _ (by simp)).trans a1), a3, ?_, hat, hc.1, hc.2, by simp [Value.ownBlock], by omega, Nat.le_refl _, by omega, hlo⟩
    exact Own.one_ (by omega) ((Below.heap_alloc _ _ _ (by simp)).trans a2) (cs := [.slice A l.length c]) ⟨A, c, rfl, hc.1, hc.2, hat⟩ rfl (fun hS => hS.2.2.2 (by simp [Value.ownBlock]))
  case round =>
    obtain ⟨wo, rfl⟩ : ∃ wo : World, wo = wr := ⟨_, rfl⟩
    obtain ⟨A, c, cur, B, vc, app, done, rfl, hc1, hcl, happ, hlev, hI, hB⟩ := hrel
    have hal : app.length ≤ 100001 := by
      have h5 := congrArg List.length hlev.out
      have h6 := levels_len l
      have h7 : 1 ≤ (levels cur).length := by
        by_cases hc2 : cur.length ≤ 1
        · rw [levels_one hc2]; simp
        · rw [levels_up hc2]; simp
      rw [happ.out, List.length_append] at *
      simp at h5 ⊢; omega
    by_cases h1 : cur.length ≤ 1
    · have h1' : ¬ ((1 : Int) < cur.length) := by omega
      obtain ⟨k1, k2, k3, k4, k5, k6, k7, k8, k9, ka, kb⟩ := hI.out
      obtain ⟨r0, r1, r2, rf⟩ := blk3 k1
      obtain ⟨t0, t1, t2, tf⟩ := blk3 k2
      clear k1 k2 k3 k4 k5 k6 k7 k8 k9 ka kb
      go_wp2_with fail
      have hz := blk3_all hI.out.1 (.int .i64 s) (.int .i64 lf) (.slice B app.length vc)
      obtain ⟨p1, p2, p3⟩ := hI.out.out_ (W' := ((wo.setCell ⟨w.heap.size, 0, none⟩ (.int .i64 s)).setCell ⟨w.heap.size, 1, none⟩ (.int .i64 lf)).setCell ⟨w.heap.size, 2, none⟩ (.slice B app.length vc)) (by simp [World.setCell]) (fun g hg => blk3_other hg _ _ _)
      have hB6 : Below w.heap.size w (((wo.setCell ⟨w.heap.size, 0, none⟩ (.int .i64 s)).setCell ⟨w.heap.size, 1, none⟩ (.int .i64 lf)).setCell ⟨w.heap.size, 2, none⟩ (.slice B app.length vc)) := ((hB.setCell (p := ⟨w.heap.size, 0, none⟩) (Nat.le_refl w.heap.size) _).setCell (p := ⟨w.heap.size, 1, none⟩) (Nat.le_refl w.heap.size) _).setCell (p := ⟨w.heap.size, 2, none⟩) (Nat.le_refl w.heap.size) _
      have hlv : levels l = app := by rw [hlev.out, levels_one h1, happ.out]
      generalize (((wo.setCell ⟨w.heap.size, 0, none⟩ (.int .i64 s)).setCell ⟨w.heap.size, 1, none⟩ (.int .i64 lf)).setCell ⟨w.heap.size, 2, none⟩ (.slice B app.length vc)) = W3 at hz p3 hB6 ⊢
      obtain ⟨z0, z1, z2, _⟩ := blk3 hz
      refine bodyPost_ret (v := .agg #[.int .i64 s, .int .i64 lf, .slice B app.length vc]) ?_ rfl ?_
      · simp [results, Try.results43, Try.f43, go_sem, z0, z1, z2]
      · exact ⟨B, vc, by simp [hlv], by simp only [hlv]; exact p1, p2, by simp only [hlv]; exact p3, hB6⟩
    · have h1' : ((1 : Int) < cur.length) := by omega
      have HUP := Lib.hid (refAbove_any A c cur.length cur wo rfl (hI.out.2.2.2.1.more (fun g hg => hI.out.slt hg)) (by omega))
      go_wp2_with fail
      refine HUP.out.mono ?_
      rintro e w6 ⟨A2, c2, rfl, q1, q2, q3, q4⟩
      have hI6 := Lib.hid (hI.out.next q4 q3 q1 q2)
      have hB6 := hB.trans (q4.mono hB.size)
      have hlv := Lib.hid (levels_up (l := cur) h1)
      have HUL := Lib.hid (upL_len cur)
      clear HUP q1 q2 q3 q4 hI hB
      generalize hcur2 : upL cur = cur2 at hI6 hlv HUL ⊢
      have HSL : ∀ (v : Value) g, LvS S0 w.heap.size w.heap.size (w.heap.size + 1 + 1) w6 v g → g < w6.heap.size := fun v g hg => hI6.out.slt hg
      obtain ⟨k1, k2, k3, k4, k5, k6, k7, k8, k9, ka, kb⟩ := hI6.out
      obtain ⟨t0, t1, t2, tf⟩ := blk3 k2
      have hb1 : w.heap.size + 1 + 1 < w6.heap.size := (Array.getElem?_eq_some_iff.1 k2).1
      have HO1 := Lib.hid (Own.alloc k3 (fun g hg => HSL _ g hg) (.cells #[.slice A2 cur2.length c2] 60))
      have HRD : Hid ((encSl encU64).rd (w6.alloc (.cells #[.slice A2 cur2.length c2] 60)) (LvS S0 w.heap.size w.heap.size (w.heap.size + 1 + 1) w6 (.slice B app.length vc)) [.slice A2 cur2.length c2] cur2) := ⟨A2, c2, rfl, k5, k6, k4.blk (fun g hg => Below.heap_alloc _ _ _ (HSL _ _ hg))⟩
      have hl := Lib.hid k7
      clear k1 k3 k4 k5 k6 k7 k8 k9 ka kb
      go_wp2_with (at_builtin; refine Hid.out ?_)
      change wpList _ _ _ _ _ _
      refine wpList_app1 (E := encSl encU64) tyLvls rfl _ _ rfl rfl HO1.out cur2 _ rfl HRD.out (heap_alloc_new _ _) (fun _ h => by simp; have := HSL _ _ h; omega) (by simp; omega) (by unfold maxLen; omega) (by omega) ?_
      intro A' c5 w5 hown5 hg5 hat5
      have HAPP := Lib.hid (hI6.out.app hown5 hg5 hat5)
      have hk2 : w5.heap[w.heap.size + 1 + 1]? = some (.cells #[.int .i64 s, .int .i64 lf, .slice B app.length vc] 26 (0, 0)) := (hg5.block _ (by simp; omega) (fun e => (hl.out _ e.symm).2 rfl)).trans ((Below.heap_alloc _ _ _ hb1).trans k2)
      obtain ⟨u0, u1, u2, uf⟩ := blk3 hk2
      clear hown5 hg5 hat5 HRD HO1 k2 t0 t1 t2 tf
      go_wp2
      go_roundw
      case rel => exact ⟨A2, c2, cur2, A', c5, app ++ [cur2], app, rfl, by rw [HUL.out]; omega, by rw [HUL.out]; omega, rfl, by rw [Hid, hlev.out, hlv.out, happ.out]; simp, by simpa [Hid] using HAPP.out.1, hB6.trans HAPP.out.2⟩
      case measure => simp only [slLen]; rw [HUL.out]; omega
theorem refTree_any (A : Option Addr) (c n lo : Nat) (s lf : Int) (l : List Int) (w : World) (hn : l.length = n) (h0 : 1 ≤ n) (hlo : lo ≤ w.heap.size) (hc : n ≤ c ∧ c ≤ maxLen) (h1 : SlAt encU64 w (Nw lo w.heap.size) A l) (hl : n ≤ 100000) :
    Calls Try.prog 43 #[.int .i64 s, .int .i64 lf, .slice A n c] w (TreeRet (s, lf, levels l) lo w) :=
  (refTree_anyS A c n (Nw lo w.heap.size) s lf l w hn h0 (fun _ h => h.2) hc h1 hl).mono (fun _ _ h => h.lo hlo)
end Go.Proofs.Ythneomehfmjbkaa

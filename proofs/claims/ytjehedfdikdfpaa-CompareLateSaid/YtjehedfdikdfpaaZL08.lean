/-
  compare.Check: the walk.; slices.Clone over ints and digests, the copy of a tree: the walks.; compare.Begin: the walk.; compare's find: the walk.; compare.numbers: the iterator over the numbers in extents.; slices.Equal over bytes and over ints: the walks.
-/
import Derived.Test.YtjehedfdikdfpaaZL02
import Derived.Test.YtjehedfdikdfpaaZL03
import Derived.Test.YtjehedfdikdfpaaZL04
import Derived.Test.YtjehedfdikdfpaaZL05
import Derived.Test.YtjehedfdikdfpaaZL06
import Derived.Test.YtjehedfdikdfpaaZL07
set_option linter.unusedVariables false
set_option linter.unusedSimpArgs false
set_option linter.unusedSectionVars false
set_option linter.unnecessarySimpa false
namespace Go.Proofs.Ytjehedfdikdfpaa
open Go.RowKit Go.Shelf
attribute [local go_sem] Oper.semAt_some

set_option maxHeartbeats 4000000 in
set_option maxRecDepth 100000 in
theorem wkCheck_any (s lf lv sent : Int) (done : Bool) (A P F : Option Addr) (c pc fc n pn fn : Nat) (l : List (List Int)) (p f : List Ext) (r : Int) (w : World) (hn : l.length = n) (hpn : p.length = pn) (hfn : f.length = fn) (hr : wkE ((s, lf, l), p, lv, f, sent, done) = r)
    (h1 : SlAt (encSl encU64) w (Bl w.heap.size) A l) (hP : SlAt encExt w (Bl w.heap.size) P p) (hF : SlAt encExt w (Bl w.heap.size) F f) (hs : n ≤ 100000) (hc : n ≤ c ∧ c ≤ maxLen) (hI : I64 s ∧ I64 lf ∧ I64 lv ∧ I64 sent) (hpl : pn ≤ 9223372036854775807) (hfl : fn ≤ 9223372036854775807) (hlv : ∀ row ∈ l, row.length ≤ 1000000) :
    Calls Try.prog 18 #[.agg #[.int .i64 s, .int .i64 lf, .slice A n c, .slice P pn pc, .int .i64 lv, .slice F fn fc, .int .i64 sent, .bool done]] w fun e w' => e = .returned (.int .i64 r) ∧ Below w.heap.size w w' := by
  subst hn hpn hfn
  have HR := Lib.hid hr; clear hr
  obtain ⟨n0, hn0⟩ : ∃ n0, w.heap.size = n0 := ⟨_, rfl⟩
  obtain ⟨W0, hW0⟩ : ∃ W0, w.alloc (.cells #[.int .i64 s, .int .i64 lf, .slice A l.length c, .slice P p.length pc, .int .i64 lv, .slice F f.length fc, .int .i64 sent, .bool done] 27) = W0 := ⟨_, rfl⟩
  have hB0 : Below n0 w W0 := by rw [← hW0, ← hn0]; exact ext_alloc (Below.refl _ _)
  have hr0 : W0.heap[n0]? = some (.cells #[.int .i64 s, .int .i64 lf, .slice A l.length c, .slice P p.length pc, .int .i64 lv, .slice F f.length fc, .int .i64 sent, .bool done] 27 (0, 0)) := by rw [← hW0, ← hn0]; exact heap_alloc_new _ _
  obtain ⟨n2, hn2⟩ : ∃ n2, W0.heap.size = n2 := ⟨_, rfl⟩
  have hs0 : W0.heap.size = n0 + 1 := by rw [← hW0, ← hn0]; simp
  have hn02 : n0 < n2 := by omega
  have HRW : Hid (∀ W, Below n2 W0 W → W.heap[n0]? = some (.cells #[.int .i64 s, .int .i64 lf, .slice A l.length c, .slice P p.length pc, .int .i64 lv, .slice F f.length fc, .int .i64 sent, .bool done] 27 (0, 0))) := fun W hb => (hb.block n0 hn02).trans hr0
  have up : ∀ {α : Type} {E : Enc α} {A : Option Addr} {l : List α}, SlAt E w (Bl w.heap.size) A l → ∀ W, Below n2 W0 W → SlAt E W (Bl W.heap.size) A l := fun h W hb => by
    rw [hn0] at h
    exact (h.blk (fun g hg => (hb.block g (by have : g < n0 := hg; omega)).trans (hB0.block g hg))).more (fun g hg => by have : g < n0 := hg; have := hb.size; show g < W.heap.size; omega)
  have H1 := Lib.hid (up h1)
  have HP := Lib.hid (up hP)
  have HF := Lib.hid (up hF)
  obtain ⟨x, hx⟩ : ∃ x, checkT (s, lf, l) = x := ⟨_, rfl⟩
  have HCH := Lib.hid (fun W (hb : Below n2 W0 W) => check_any s lf A c l.length l x W rfl hx (H1.out W hb) hs hc ⟨hI.1, hI.2.1⟩)
  have HXE : Hid (x ≠ 0 → x = r) := fun h => by
    have hr := HR.out
    unfold wkE at hr
    rw [if_pos (by rw [hx]; exact h)] at hr
    exact hx.symm.trans hr
  have HB0 : Hid (Below w.heap.size w W0) := by rw [hn0]; exact hB0
  obtain ⟨_, _, ⟨i1, i2⟩, i3, i4⟩ := hI
  obtain ⟨p0, p1, p2, p3, p4, p5, p6, p7, _⟩ := blk8 hr0
  clear h1 hP hF up hr0 hs0
  go_enter Try.func18, Try.ntmps18
  go_wp2_with fail
  refine (HCH.out W0 (Below.refl _ _)).mono ?_
  rintro e w1 ⟨rfl, hb1⟩
  rw [hn2] at hb1
  clear p0 p1 p2 p3 p4 p5 p6 p7
  by_cases hx0 : x = 0
  · subst hx0
    clear HXE
    obtain ⟨p0, p1, p2, p3, p4, p5, p6, p7, _⟩ := blk8 (HRW.out w1 hb1)
    by_cases g1 : lv < 0
    · have hE : Hid ((2 : Int) = r) := by
        have h := HR.out
        unfold wkE at h
        rw [if_neg (by rw [hx]; simp), if_pos (by simp only; omega)] at h
        exact h
      go_wp2_with fail
      all_goals
        go_ret
        exact ⟨ret_int hE.out, HB0.out.trans (hb1.mono (by omega))⟩
    by_cases g2 : (l.length : Int) ≤ lv
    · have hE : Hid ((2 : Int) = r) := by
        have h := HR.out
        unfold wkE at h
        rw [if_neg (by rw [hx]; simp), if_pos (by simp only; omega)] at h
        exact h
      go_wp2_with fail
      all_goals
        go_ret
        exact ⟨ret_int hE.out, HB0.out.trans (hb1.mono (by omega))⟩
    obtain ⟨k, rfl⟩ : ∃ k : Nat, lv = k := ⟨lv.toNat, by omega⟩
    have hk : k < l.length := by omega
    cases done with
    | true =>
      by_cases g3 : (k : Int) = 0
      · by_cases g4 : sent < 0
        · have hE : Hid ((2 : Int) = r) := by
            have h := HR.out
            unfold wkE at h
            rw [if_neg (by rw [hx]; simp), if_pos (by simp only; omega)] at h
            exact h
          go_wp2_with fail
          all_goals
            go_ret
            exact ⟨ret_int hE.out, HB0.out.trans (hb1.mono (by omega))⟩
        by_cases g5 : 8192 < sent
        · have hE : Hid ((2 : Int) = r) := by
            have h := HR.out
            unfold wkE at h
            rw [if_neg (by rw [hx]; simp), if_pos (by simp only; omega)] at h
            exact h
          go_wp2_with fail
          all_goals
            go_ret
            exact ⟨ret_int hE.out, HB0.out.trans (hb1.mono (by omega))⟩
        · obtain rfl : k = 0 := by omega
          have hE : Hid ((if p = [] ∧ extE f s = 0 then (0 : Int) else 3) = r) := by
            have h := HR.out
            unfold wkE at h
            rw [if_neg (by rw [hx]; simp), if_neg (by simp only; omega), if_pos (by first | trivial | rfl)] at h
            exact h
          have hq := Lib.hid (fun W (hb : Below n2 W0 W) => extCheck_any F fc f.length f s (extE f s) W rfl rfl (HF.out W hb) hfl)
          obtain ⟨r2, hr2⟩ : ∃ r2, extE f s = r2 := ⟨_, rfl⟩
          rw [hr2] at hq hE
          have hg1 : ¬ (((0 : Nat) : Int) < 0) := by omega
          have hg2 : ¬ (l = []) := fun e => by rw [e] at hk; simp at hk
          by_cases hp0 : p.length = 0
          · have hpn : p = [] := List.eq_nil_of_length_eq_zero hp0
            by_cases h20 : r2 = 0
            · have hE2 : Hid ((0 : Int) = r) := by have h := hE.out; rw [if_pos ⟨hpn, h20⟩] at h; exact h
              subst h20
              clear hr2 hpn hE
              go_wp2_with fail
              all_goals first
                | (exfalso; omega)
                | (refine (hq.out _ hb1).mono ?_
                   rintro e w2 ⟨rfl, hb2⟩
                   go_wp2_with fail
                   go_ret
                   exact ⟨ret_int hE2.out, HB0.out.trans ((hb1.mono (by omega)).trans (hb2.mono (by have := hb1.size; omega)))⟩)
            · have hE2 : Hid ((3 : Int) = r) := by have h := hE.out; rw [if_neg (fun h => h20 h.2)] at h; exact h
              have hb20 : (r2 == 0) = false := by simp [h20]
              clear hr2 hpn hE
              go_wp2_with fail
              all_goals first
                | (exfalso; omega)
                | (refine (hq.out _ hb1).mono ?_
                   rintro e w2 ⟨rfl, hb2⟩
                   go_wp2_with fail
                   go_ret
                   exact ⟨ret_int hE2.out, HB0.out.trans ((hb1.mono (by omega)).trans (hb2.mono (by have := hb1.size; omega)))⟩)
          · have hE2 : Hid ((3 : Int) = r) := by have h := hE.out; rw [if_neg (fun h => hp0 (by rw [h.1]; rfl))] at h; exact h
            clear hr2 hE
            go_wp2_with fail
            all_goals first
              | (exfalso; omega)
              | (go_ret
                 exact ⟨ret_int hE2.out, HB0.out.trans (hb1.mono (by omega))⟩)
      · have hE : Hid ((2 : Int) = r) := by
          have h := HR.out
          unfold wkE at h
          rw [if_neg (by rw [hx]; simp), if_pos (Or.inr (Or.inr (Or.inl ⟨by first | trivial | rfl, g3⟩)))] at h
          exact h
        go_wp2_with fail
        go_ret
        exact ⟨ret_int hE.out, HB0.out.trans (hb1.mono (by omega))⟩
    | false =>
      by_cases g4 : sent < 0
      · have hE : Hid ((2 : Int) = r) := by
          have h := HR.out
          unfold wkE at h
          rw [if_neg (by rw [hx]; simp), if_pos (by simp only; omega)] at h
          exact h
        go_wp2_with fail
        all_goals
          go_ret
          exact ⟨ret_int hE.out, HB0.out.trans (hb1.mono (by omega))⟩
      by_cases g5 : 8192 < sent
      · have hE : Hid ((2 : Int) = r) := by
          have h := HR.out
          unfold wkE at h
          rw [if_neg (by rw [hx]; simp), if_pos (by simp only; omega)] at h
          exact h
        go_wp2_with fail
        all_goals
          go_ret
          exact ⟨ret_int hE.out, HB0.out.trans (hb1.mono (by omega))⟩
      have hE : Hid ((if p ≠ [] ∧ f = [] ∧ extE p (l[k].length : Int) = 0 then (0 : Int) else 3) = r) := by
        have h := HR.out
        unfold wkE at h
        have hlev : levT ((s, lf, l) : Tr) (k : Int) = l[k] := by
          unfold levT
          simp only [Int.toNat_natCast]
          rw [List.getD_eq_getElem?_getD, List.getElem?_eq_getElem hk]; rfl
        rw [if_neg (by rw [hx]; simp), if_neg (by simp only; intro h; rcases h with h | h | ⟨h, _⟩ | h | h <;> first | omega | cases h), if_neg (by simp), hlev] at h
        exact h
      obtain ⟨b2, off, D, d, rfl, hb2, g0, hD, hd1, hd2⟩ := (H1.out w1 hb1).sl hk
      have hq := Lib.hid (fun W (hb : Below n2 W0 W) => extCheck_any P pc p.length p (l[k].length : Int) (extE p (l[k].length : Int)) W rfl rfl (HP.out W hb) hpl)
      obtain ⟨row, hrow⟩ : ∃ row, l[k] = row := ⟨_, rfl⟩
      rw [hrow] at g0 hE hq
      obtain ⟨r2, hr2⟩ : ∃ r2, extE p (row.length : Int) = r2 := ⟨_, rfl⟩
      rw [hr2] at hq hE
      have hki : (k : Int) < l.length := by omega
      have hnn : (0 : Int) ≤ k := by omega
      have hb2' : b2 < w1.heap.size := hb2
      have hb0' : n0 < w1.heap.size := by have := hb1.size; omega
      clear hD hrow hr2
      by_cases hp0 : p.length = 0
      · have hE2 : Hid ((3 : Int) = r) := by have h := hE.out; rw [if_neg (fun h => h.1 (List.eq_nil_of_length_eq_zero hp0))] at h; exact h
        clear hE hq
        go_upto_region 9 with (fail)
        go_quiet (fail)
        generalize hWq : w1.drewN nq = w2
        have hd2 : Drew w1 w2 := ⟨nq, hWq.symm⟩
        clear hWq p0 p1 p2 p3 p4 p5 p6 p7 g0
        go_wp2_with fail
        go_ret
        exact ⟨ret_int hE2.out, HB0.out.trans ((hb1.mono (by omega)).trans (hd2.below _))⟩
      by_cases hf0 : f.length = 0
      · have hE3 : Hid ((if r2 = 0 then (0 : Int) else 3) = r) := by
          have h := hE.out
          by_cases h2 : r2 = 0
          · rw [if_pos ⟨fun e => hp0 (by rw [e]; rfl), List.eq_nil_of_length_eq_zero hf0, h2⟩] at h; rw [Hid, if_pos h2]; exact h
          · rw [if_neg (fun h => h2 h.2.2)] at h; rw [Hid, if_neg h2]; exact h
        have hp1 : 0 < p.length := by omega
        clear hE
        go_upto_region 9 with (fail)
        have HC : Hid (∀ W, Below w1.heap.size w1 W → (W.cell? ⟨n0, 2, none⟩ = some (.slice (some ⟨b2, off, none⟩) l.length c) ∧ W.cell? ⟨n0, 3, none⟩ = some (.slice P p.length pc)) ∧ W.cell? ⟨n0, 4, none⟩ = some (.int .i64 (k : Int)) ∧ W.cell? ⟨n0, 5, none⟩ = some (.slice F f.length fc) ∧ W.cell? ⟨b2, off + k, none⟩ = some (.slice D row.length d)) := fun W hb =>
          ⟨⟨(hb.cell (p := ⟨n0, 2, none⟩) hb0').trans p2, (hb.cell (p := ⟨n0, 3, none⟩) hb0').trans p3⟩, (hb.cell (p := ⟨n0, 4, none⟩) hb0').trans p4, (hb.cell (p := ⟨n0, 5, none⟩) hb0').trans p5, (hb.cell (p := ⟨b2, off + k, none⟩) hb2').trans g0⟩
        have hc0 := HC.out w1.drew (Below.refl _ _).drew
        clear p0 p1 p2 p3 p4 p5 p6 p7 g0
        go_region_held3 (fun W => (W.cell? ⟨n0, 2, none⟩ = some (.slice (some ⟨b2, off, none⟩) l.length c) ∧ W.cell? ⟨n0, 3, none⟩ = some (.slice P p.length pc)) ∧ W.cell? ⟨n0, 4, none⟩ = some (.int .i64 (k : Int)) ∧ W.cell? ⟨n0, 5, none⟩ = some (.slice F f.length fc) ∧ W.cell? ⟨b2, off + k, none⟩ = some (.slice D row.length d)) (first | exact hc0 | exact HC.out _ hx2 | go_keep) (first | (go_at_call 42; refine (hq.out w1.drew hb1.drew).mono ?_; rintro e w2 ⟨rfl, hb2'⟩; have hx2 : Below w1.heap.size w1 w2 := bUn hb2'))
        all_goals
          clear hc0 HC
          by_cases h20 : r2 = 0
          · have hE2 : Hid ((0 : Int) = r) := by have h := hE3.out; rw [if_pos h20] at h; exact h
            have hb20 : (r2 == 0) = true := by simp [h20]
            clear hE3 h20 hq
            go_wp2_with fail
            go_ret
            exact ⟨ret_int hE2.out, HB0.out.trans ((hb1.mono (by omega)).trans (hx2.mono (by have := hb1.size; omega)))⟩
          · have hE2 : Hid ((3 : Int) = r) := by have h := hE3.out; rw [if_neg h20] at h; exact h
            have hb20 : (r2 == 0) = false := by simp [h20]
            clear hE3 h20 hq
            go_wp2_with fail
            go_ret
            exact ⟨ret_int hE2.out, HB0.out.trans ((hb1.mono (by omega)).trans (hx2.mono (by have := hb1.size; omega)))⟩
      · have hE2 : Hid ((3 : Int) = r) := by have h := hE.out; rw [if_neg (fun h => hf0 (by rw [h.2.1]; rfl))] at h; exact h
        have hp1 : 0 < p.length := by omega
        have hf1 : ((f.length : Int) == 0) = false := by rw [beq_eq_false_iff_ne]; omega
        clear hE hq
        go_upto_region 9 with (fail)
        go_quiet (fail)
        generalize hWq : w1.drewN nq = w2
        have hd2 : Drew w1 w2 := ⟨nq, hWq.symm⟩
        clear hWq p0 p1 p2 p3 p4 p5 p6 p7 g0
        go_wp2_with fail
        go_ret
        exact ⟨ret_int hE2.out, HB0.out.trans ((hb1.mono (by omega)).trans (hd2.below _))⟩
  · have hE := Lib.hid (HXE.out hx0)
    go_wp2_with fail
    go_ret
    exact ⟨ret_int hE.out, HB0.out.trans (hb1.mono (by omega))⟩
end Go.Proofs.Ytjehedfdikdfpaa
namespace Go.Proofs.Ytjehedfdikdfpaa
open Go.RowKit Go.Shelf
attribute [local go_sem] Oper.semAt_some

theorem tyInts44q : SliceTy Try.prog 42 3 1 8 := sliceTy_mk (z := .int .i64 0) Try.underlying42 (by kernel_rfl) rfl (by decide)
theorem tyU64q : SliceTy Try.prog 72 77 1 8 := sliceTy_mk (z := .int .u64 0) Try.underlying72 (by kernel_rfl) rfl (by decide)
set_option maxHeartbeats 1000000
theorem cloneInts_any (A : Option Addr) (c n : Nat) (l : List _) (w : World) (hn : l.length = n) (h1 : SlAt encInt w (Bl w.heap.size) A l) (hl : n ≤ 1000000) :
    Calls Try.prog 45 #[.slice A n c] w fun e w' => ∃ A' c', e = .returned (.slice A' n c') ∧ n ≤ c' ∧ c' ≤ maxLen ∧ SlAt encInt w' (Nw w.heap.size w'.heap.size) A' l ∧ Below w.heap.size w w' := by
  cases A with
  | none =>
    have h0 : l = [] := by
      rcases Decidable.em (l.length = 0) with h | h
      · exact List.eq_nil_of_length_eq_zero h
      · obtain ⟨b, off, he, _⟩ := h1 (by intro e; rw [e] at h; exact h rfl)
        cases he
    subst h0
    subst hn
    have hE := fun W => Lib.run_eql_slice_nil (P := Try.prog) W 42 3 none 0 c 0 0 Try.underlying42
    go_enter Try.func45, Try.ntmps45
    go_wp2
    go_ret
    exact ⟨none, 0, rfl, by simp, by simp, SlAt.nil_, Below.refl _ _⟩
  | some ad =>
    have hO := Lib.hid (show Own encInt (w.alloc (.cells #[] 3)) w.heap.size 3 (Bl w.heap.size) (.slice (some ⟨w.heap.size, 0, none⟩) 0 0) [] from Own.make0 (cur := #[]) (Nat.le_refl _) (by unfold maxLen; omega) rfl (fun h => Nat.lt_irrefl _ h))
    have hsrc := Lib.hid (show SlAt encInt (w.alloc (.cells #[] 3)) (Bl w.heap.size) (some ad) l from h1.below (ext_alloc (Below.refl _ _)))
    clear h1
    have hE := fun W => Lib.run_eql_slice_nil (P := Try.prog) W 42 3 (some ad) n c 0 0 Try.underlying42
    go_enter Try.func45, Try.ntmps45
    go_wp2_with (at_builtin; refine Hid.out ?_)
    change wpList _ _ _ _ _ _
    refine wpList_appAll (E := encInt) tyInts44q rfl _ _ rfl rfl hO.out rfl hn.symm hsrc.out (fun g hg => by simp; have : g < w.heap.size := hg; omega) (by simp) (by unfold maxLen; simp; omega) (by simp; omega) ?_
    intro A5 c5 w5 hown5 hg5 hat5
    simp only [List.length_nil, Nat.zero_add, List.nil_append] at hown5
    have hB5 : Below w.heap.size w w5 := (ext_alloc (o := .cells #[] 3) (Below.refl w.heap.size w)).grown hg5 (by simp) (fun g hg => (hO.out.lt g hg).1)
    have hfin : Hid (n ≤ c5 ∧ c5 ≤ maxLen ∧ SlAt encInt w5 (Nw w.heap.size w5.heap.size) A5 l) := by
      obtain ⟨A', c', he, k1, k2, k3⟩ := (Own.flat hown5 (fun h => h)).rd (fun _ h => h.elim)
      simp only [List.cons.injEq, Value.slice.injEq, and_true] at he
      obtain ⟨rfl, e2, rfl⟩ := he
      exact ⟨by omega, k2, k3⟩
    clear hown5 hg5 hat5
    go_wp2
    go_ret
    exact ⟨A5, c5, rfl, hfin.out.1, hfin.out.2.1, hfin.out.2.2, hB5⟩
theorem cloneU64_any (A : Option Addr) (c n : Nat) (l : List _) (w : World) (hn : l.length = n) (h1 : SlAt encU64 w (Bl w.heap.size) A l) (hl : n ≤ 1000000) :
    Calls Try.prog 70 #[.slice A n c] w fun e w' => ∃ A' c', e = .returned (.slice A' n c') ∧ n ≤ c' ∧ c' ≤ maxLen ∧ SlAt encU64 w' (Nw w.heap.size w'.heap.size) A' l ∧ Below w.heap.size w w' := by
  cases A with
  | none =>
    have h0 : l = [] := by
      rcases Decidable.em (l.length = 0) with h | h
      · exact List.eq_nil_of_length_eq_zero h
      · obtain ⟨b, off, he, _⟩ := h1 (by intro e; rw [e] at h; exact h rfl)
        cases he
    subst h0
    subst hn
    have hE := fun W => Lib.run_eql_slice_nil (P := Try.prog) W 72 77 none 0 c 0 0 Try.underlying72
    go_enter Try.func70, Try.ntmps70
    go_wp2
    go_ret
    exact ⟨none, 0, rfl, by simp, by simp, SlAt.nil_, Below.refl _ _⟩
  | some ad =>
    have hO := Lib.hid (show Own encU64 (w.alloc (.cells #[] 77)) w.heap.size 77 (Bl w.heap.size) (.slice (some ⟨w.heap.size, 0, none⟩) 0 0) [] from Own.make0 (cur := #[]) (Nat.le_refl _) (by unfold maxLen; omega) rfl (fun h => Nat.lt_irrefl _ h))
    have hsrc := Lib.hid (show SlAt encU64 (w.alloc (.cells #[] 77)) (Bl w.heap.size) (some ad) l from h1.below (ext_alloc (Below.refl _ _)))
    clear h1
    have hE := fun W => Lib.run_eql_slice_nil (P := Try.prog) W 72 77 (some ad) n c 0 0 Try.underlying72
    go_enter Try.func70, Try.ntmps70
    go_wp2_with (at_builtin; refine Hid.out ?_)
    change wpList _ _ _ _ _ _
    refine wpList_appAll (E := encU64) tyU64q rfl _ _ rfl rfl hO.out rfl hn.symm hsrc.out (fun g hg => by simp; have : g < w.heap.size := hg; omega) (by simp) (by unfold maxLen; simp; omega) (by simp; omega) ?_
    intro A5 c5 w5 hown5 hg5 hat5
    simp only [List.length_nil, Nat.zero_add, List.nil_append] at hown5
    have hB5 : Below w.heap.size w w5 := (ext_alloc (o := .cells #[] 77) (Below.refl w.heap.size w)).grown hg5 (by simp) (fun g hg => (hO.out.lt g hg).1)
    have hfin : Hid (n ≤ c5 ∧ c5 ≤ maxLen ∧ SlAt encU64 w5 (Nw w.heap.size w5.heap.size) A5 l) := by
      obtain ⟨A', c', he, k1, k2, k3⟩ := (Own.flat hown5 (fun h => h)).rd (fun _ h => h.elim)
      simp only [List.cons.injEq, Value.slice.injEq, and_true] at he
      obtain ⟨rfl, e2, rfl⟩ := he
      exact ⟨by omega, k2, k3⟩
    clear hown5 hg5 hat5
    go_wp2
    go_ret
    exact ⟨A5, c5, rfl, hfin.out.1, hfin.out.2.1, hfin.out.2.2, hB5⟩
theorem blk3_setA {w : World} {b : Nat} {T : TypeId} {c0 c1 c2 : Value} (h : w.heap[b]? = some (.cells #[c0, c1, c2] T (0, 0))) (u0 u1 u2 : Value) : (((w.setCell ⟨b, 0, none⟩ u0).setCell ⟨b, 1, none⟩ u1).setCell ⟨b, 2, none⟩ u2).heap[b]? = some (.cells #[u0, u1, u2] T (0, 0)) := by
  simp [World.setCell, Array.getElem?_modify, h]
set_option maxHeartbeats 4000000 in
set_option maxRecDepth 100000 in
theorem copied44_any (s lf : Int) (A : Option Addr) (c n : Nat) (l : List (List Int)) (w : World) (hn : l.length = n) (h1 : SlAt (encSl encU64) w (Bl w.heap.size) A l) (hl : n ≤ 100000) (hr : ∀ row ∈ l, row.length ≤ 1000000) :
    Calls Try.prog 37 #[.agg #[.int .i64 s, .int .i64 lf, .slice A n c]] w fun e w' => ∃ B d, e = .returned (.agg #[.int .i64 s, .int .i64 lf, .slice B n d]) ∧ n ≤ d ∧ d ≤ maxLen ∧ SlAt (encSl encU64) w' (Nw w.heap.size w'.heap.size) B l ∧ Below w.heap.size w w' := by
  subst hn
  have HR := Lib.hid hr; clear hr
  obtain ⟨n0, hn0⟩ : ∃ n0, w.heap.size = n0 := ⟨_, rfl⟩
  obtain ⟨W0, hW0⟩ : ∃ W0, (w.alloc (.cells #[.int .i64 s, .int .i64 lf, .slice A l.length c] 24)).alloc (.cells #[.int .i64 0, .int .i64 0, .slice none 0 0] 24) = W0 := ⟨_, rfl⟩
  have hB0 : Below n0 w W0 := by rw [← hW0, ← hn0]; exact ext_alloc (ext_alloc (Below.refl _ _))
  have hs0 : W0.heap.size = n0 + 2 := by rw [← hW0, ← hn0]; simp
  have hr0 : W0.heap[n0]? = some (.cells #[.int .i64 s, .int .i64 lf, .slice A l.length c] 24 (0, 0)) := by
    rw [← hW0, ← hn0]; exact (Below.heap_alloc _ _ _ (by simp)).trans (heap_alloc_new _ _)
  have hr1 : W0.heap[n0 + 1]? = some (.cells #[.int .i64 0, .int .i64 0, .slice none 0 0] 24 (0, 0)) := by
    rw [← hW0, ← hn0]
    have h := heap_alloc_new (w.alloc (.cells #[.int .i64 s, .int .i64 lf, .slice A l.length c] 24)) (.cells #[.int .i64 0, .int .i64 0, .slice none 0 0] 24)
    simp only [World.size_alloc] at h
    exact h
  obtain ⟨n2, hn2⟩ : ∃ n2, W0.heap.size = n2 := ⟨_, rfl⟩
  have hn02 : n0 + 2 ≤ n2 := by omega
  have hW0z : n2 ≤ W0.heap.size := by omega
  have H1 : Hid (∀ w', Below n2 W0 w' → SlAt (encSl encU64) w' (Bl n0) A l) := fun w' hb => by
    have h := h1
    rw [hn0] at h
    exact h.blk (fun g hg => ((hB0.trans (hb.mono (by omega))).block g hg))
  obtain ⟨cur, hcs, hmk⟩ := makeOf tyLvls l.length (by omega) (by omega) W0
  have HCS := Lib.hid hcs; clear hcs
  have hO1 := Lib.hid (show OwnW (encSl encU64) (W0.alloc (.cells cur 72)) W0.heap.size W0.heap.size 72 (.slice (some ⟨W0.heap.size, 0, none⟩) 0 l.length) [] from Own.make0 (cur := cur) (Nat.le_refl _) (by unfold maxLen; omega) HCS.out (fun h => h.2 rfl))
  have hBm := Lib.hid (ext_alloc (o := .cells cur 72) (Below.refl W0.heap.size W0))
  rw [hn2] at hO1 hmk hBm
  have HRW : Hid (∀ W, Below n2 W0 W → W.heap[n0]? = some (.cells #[.int .i64 s, .int .i64 lf, .slice A l.length c] 24 (0, 0)) ∧ W.heap[n0 + 1]? = some (.cells #[.int .i64 0, .int .i64 0, .slice none 0 0] 24 (0, 0))) := fun W hb => ⟨(hb.block n0 (by omega)).trans hr0, (hb.block (n0 + 1) (by omega)).trans hr1⟩
  obtain ⟨p0, p1, p2, _⟩ := blk3 hr0
  have HS0 := Lib.hid hs0
  have HN2 := Lib.hid hn2
  clear hr0 hr1 h1 hs0 hn2
  have hwz : n0 ≤ w.heap.size := by omega
  obtain ⟨W1, hW1⟩ : ∃ W1, W0.alloc (.cells cur 72) = W1 := ⟨_, rfl⟩
  rw [hW1] at hO1 hBm hmk
  obtain ⟨m0, m1, m2, _⟩ := blk3 (HRW.out W1 hBm.out).1
  clear hW1
  go_enter Try.func37, Try.ntmps37
  go_wp2_with fail
  clear p0 p1 p2 m0 m1 m2 hmk
  go_loopw [3, 13] (fun v i wr => ∃ (k : Nat) (B : Option Addr) (vc : Nat) (out : List (List Int)), k ≤ l.length ∧ i = .int .i64 k ∧ v = .slice B out.length vc ∧ Below n2 W0 wr ∧ Hid (out = l.take k) ∧ Hid (OwnW (encSl encU64) wr n2 n2 72 (.slice B out.length vc) out)) (fun _ i _ => l.length - (intOf i).toNat)
  case atStart => exact ⟨0, some ⟨n2, 0, none⟩, l.length, [], by omega, rfl, rfl, hBm.out, by simp [Hid], hO1.out⟩
  case round =>
    obtain ⟨wo, rfl⟩ : ∃ wo : World, wo = wr := ⟨_, rfl⟩
    obtain ⟨k, B, vc, out, hk, rfl, rfl, hB, hout, hown⟩ := hrel
    have hszr := hB.size
    by_cases hlt : k < l.length
    · obtain ⟨b, off, D, dc, rfl, hb, g0, hD, hd1, hd2⟩ := (H1.out wo hB).sl hlt
      have hrl := HR.out l[k] (List.getElem_mem hlt)
      have hst : Hid (l.take (k + 1) = l.take k ++ [l[k]]) := List.take_succ_eq_append_getElem hlt
      obtain ⟨row, hrow⟩ : ∃ x, l[k] = x := ⟨_, rfl⟩
      rw [hrow] at g0 hD hd1 hrl hst
      have hki : (k : Int) < l.length := by omega
      have hnn : (0 : Int) ≤ k := by omega
      have hol : out.length ≤ k := by rw [hout.out]; simp; omega
      clear hrow
      have HCL := Lib.hid (cloneU64_any D dc row.length row wo rfl (hD.more (fun g hg => by have : g < n0 := hg; show g < wo.heap.size; omega)) hrl)
      clear hD
      go_wp2_with fail
      refine HCL.out.mono ?_
      rintro e w1 ⟨A4, c4, rfl, k1, k2, k3, hb1⟩
      have hsz1 := hb1.size
      have hB1 : Below n2 W0 w1 := hB.trans (hb1.mono (by omega))
      have HO1 := Lib.hid (hown.out.below hb1)
      have HLT1 : Hid (∀ g, (Value.slice B out.length vc).ownBlock = some g → g < wo.heap.size) := fun g hg => (hown.out.lt g hg).2
      have HO2 := Lib.hid (Own.alloc HO1.out (fun _ h => h.1.2) (.cells #[.slice A4 row.length c4] 72))
      have HRD : Hid ((encSl encU64).rd (w1.alloc (.cells #[.slice A4 row.length c4] 72)) (fun b => Nw n2 w1.heap.size b ∧ (Value.slice B out.length vc).ownBlock ≠ some b) [.slice A4 row.length c4] row) :=
        ⟨A4, c4, rfl, k1, k2, (k3.blk (fun g hg => Below.heap_alloc _ _ _ hg.2)).more (fun g hg => ⟨⟨by have := hg.1; omega, hg.2⟩, fun h => by have := HLT1.out g h; have := hg.1; omega⟩)⟩
      clear k3
      go_wp2_with (at_builtin; refine Hid.out ?_)
      change wpList _ _ _ _ _ _
      refine wpList_app1 (E := (encSl encU64)) tyLvls rfl _ _ rfl rfl HO2.out row [.slice A4 row.length c4] rfl HRD.out (heap_alloc_new _ _) (fun _ h => by simp; have := h.1.2; omega) (by simp; omega) (by unfold maxLen; omega) (by omega) ?_
      intro A' c' w5 hown5 hg5 hat5
      have hok5 := Lib.hid (OwnW.app (hown5.more (S' := fun b => Nw n2 (w1.alloc (.cells #[.slice A4 row.length c4] 72)).heap.size b ∧ (Value.slice B out.length vc).ownBlock ≠ some b) (fun b hb => ⟨hb.1.mono (Nat.le_refl _) (by simp), hb.2⟩) (OwnW_new hown5 hat5 HLT1.out (by simp; omega))) hg5 hat5)
      have hB5 := Lib.hid ((hB1.alloc (by omega) (.cells #[.slice A4 row.length c4] 72)).grown hg5 (by simp; omega) (fun g h => (hown.out.lt g h).1))
      clear hown5 hg5 hat5
      go_wp2
      go_roundw
      case rel =>
        refine ⟨k + 1, A', c', out ++ [row], hlt, by go_num, by simp, hB5.out, ?_, ?_⟩
        · rw [hst.out, ← hout.out]; exact rfl
        · have := hok5.out; simpa [Hid] using this
      case measure => simp [intOf]; omega
    · have hkk : k = l.length := by omega
      subst hkk
      have hE : Hid (out = l) := by rw [Hid, hout.out, List.take_length]
      have hlE : out.length = l.length := by rw [hE.out]
      obtain ⟨_, o1, o2, o3⟩ := hown.out.parts
      have HO := Lib.hid (And.intro o1 (And.intro o2 o3))
      have HLE := Lib.hid hlE
      clear o1 o2 o3 hlE
      obtain ⟨q0, q1⟩ := HRW.out wo hB
      obtain ⟨p0, p1, p2, pf⟩ := blk3 q0
      obtain ⟨z0, z1, z2, zf⟩ := blk3 q1
      have hq0 := Lib.hid q0
      have hq1 := Lib.hid q1
      clear q0 q1
      obtain ⟨W5, hW5⟩ : ∃ W5, wo.setCell ⟨n0, 2, none⟩ (.slice B out.length vc) = W5 := ⟨_, rfl⟩
      have hq5 : W5.heap[n0]? = some (.cells #[.int .i64 s, .int .i64 lf, .slice B out.length vc] 24 (0, 0)) := by
        rw [← hW5]; simp [World.setCell, Array.getElem?_modify, hq0.out]
      have hz5 : W5.heap[n0 + 1]? = some (.cells #[.int .i64 0, .int .i64 0, .slice none 0 0] 24 (0, 0)) := by
        rw [← hW5]; exact (heap_setCell_other _ ⟨n0, 2, none⟩ (n0 + 1) _ (by show n0 + 1 ≠ n0; omega)).trans hq1.out
      have hB5 : Below n0 w W5 := by rw [← hW5]; exact (hB0.trans (hB.mono (by omega))).setCell (p := ⟨n0, 2, none⟩) (Nat.le_refl _) _
      have ho5 : ∀ g, n2 ≤ g → W5.heap[g]? = wo.heap[g]? := fun g hg => by rw [← hW5]; exact heap_setCell_other _ ⟨n0, 2, none⟩ g _ (by show g ≠ n0; omega)
      have hs5 : W5.heap.size = wo.heap.size := by rw [← hW5]; simp [World.setCell]
      have HS5 := Lib.hid hs5
      clear hs5
      obtain ⟨p0, p1, p2, pf⟩ := blk3 hq5
      obtain ⟨z0, z1, z2, zf⟩ := blk3 hz5
      go_wp2_with fail
      have hz := blk3_setA hz5 (.int .i64 s) (.int .i64 lf) (.slice B out.length vc)
      have hbe := (((hB5.setCell (p := ⟨n0 + 1, 0, none⟩) (Nat.le_succ _) (.int .i64 s)).setCell (p := ⟨n0 + 1, 1, none⟩) (Nat.le_succ _) (.int .i64 lf)).setCell (p := ⟨n0 + 1, 2, none⟩) (Nat.le_succ _) (.slice B out.length vc))
      have hoth : ∀ g, n2 ≤ g → (((W5.setCell ⟨n0 + 1, 0, none⟩ (.int .i64 s)).setCell ⟨n0 + 1, 1, none⟩ (.int .i64 lf)).setCell ⟨n0 + 1, 2, none⟩ (.slice B out.length vc)).heap[g]? = wo.heap[g]? := fun g hg => by
        have hne : g ≠ n0 + 1 := by omega
        exact (heap_setCell_other _ ⟨n0 + 1, 2, none⟩ g _ hne).trans ((heap_setCell_other _ ⟨n0 + 1, 1, none⟩ g _ hne).trans ((heap_setCell_other _ ⟨n0 + 1, 0, none⟩ g _ hne).trans (ho5 g hg)))
      have hsz : (((W5.setCell ⟨n0 + 1, 0, none⟩ (.int .i64 s)).setCell ⟨n0 + 1, 1, none⟩ (.int .i64 lf)).setCell ⟨n0 + 1, 2, none⟩ (.slice B out.length vc)).heap.size = wo.heap.size := by
        rw [← HS5.out]; simp [World.setCell]
      generalize (((W5.setCell ⟨n0 + 1, 0, none⟩ (.int .i64 s)).setCell ⟨n0 + 1, 1, none⟩ (.int .i64 lf)).setCell ⟨n0 + 1, 2, none⟩ (.slice B out.length vc)) = W3 at hz hbe hoth hsz ⊢
      obtain ⟨z0, z1, z2, _⟩ := blk3 hz
      refine bodyPost_ret (v := .agg #[.int .i64 s, .int .i64 lf, .slice B out.length vc]) ?_ rfl ?_
      · simp [results, Try.results37, Try.f37, go_sem, z0, z1, z2]
      obtain ⟨o1, o2, o3⟩ := HO.out
      rw [← HLE.out]
      refine ⟨B, vc, rfl, o1, o2, ?_, hbe⟩
      rw [← hE.out]
      exact (o3.blk (fun g hg => hoth g hg.1)).more (fun g hg => ⟨by have := hg.1; omega, by have := hg.2; omega⟩)
end Go.Proofs.Ytjehedfdikdfpaa
namespace Go.Proofs.Ytjehedfdikdfpaa
open Go.RowKit Go.Shelf
attribute [local go_sem] Oper.semAt_some

set_option maxHeartbeats 4000000 in
set_option maxRecDepth 100000 in
theorem begin_any (s lf : Int) (A : Option Addr) (c n : Nat) (l : List (List Int)) (w : World) (hn : l.length = n) (h1 : SlAt (encSl encU64) w (Bl w.heap.size) A l) (hs : n ≤ 100000) (hc : n ≤ c ∧ c ≤ maxLen) (hI : I64 s ∧ I64 lf) (hlv : ∀ row ∈ l, row.length ≤ 1000000) :
    Calls Try.prog 14 #[.agg #[.int .i64 s, .int .i64 lf, .slice A n c]] w (RetW (begW (s, lf, l)) (begM (s, lf, l)) (checkT (s, lf, l)) w) := by
  subst hn
  obtain ⟨n0, hn0⟩ : ∃ n0, w.heap.size = n0 := ⟨_, rfl⟩
  obtain ⟨W0, hW0⟩ : ∃ W0, (w.alloc (.cells #[.int .i64 s, .int .i64 lf, .slice A l.length c] 24)).alloc (.cells #[.int .i64 0, .int .i64 0, .slice none 0 0, .slice none 0 0, .int .i64 0, .slice none 0 0, .int .i64 0, .bool false] 27) = W0 := ⟨_, rfl⟩
  have hB0 : Below n0 w W0 := by rw [← hW0, ← hn0]; exact ext_alloc (ext_alloc (Below.refl _ _))
  have hs0 : W0.heap.size = n0 + 2 := by rw [← hW0, ← hn0]; simp
  have hr0 : W0.heap[n0]? = some (.cells #[.int .i64 s, .int .i64 lf, .slice A l.length c] 24 (0, 0)) := by
    rw [← hW0, ← hn0]; exact (Below.heap_alloc _ _ _ (by simp)).trans (heap_alloc_new _ _)
  have hr1 : W0.heap[n0 + 1]? = some (.cells #[.int .i64 0, .int .i64 0, .slice none 0 0, .slice none 0 0, .int .i64 0, .slice none 0 0, .int .i64 0, .bool false] 27 (0, 0)) := by
    rw [← hW0, ← hn0]; exact heap_new2 _ _ _
  obtain ⟨n2, hn2⟩ : ∃ n2, W0.heap.size = n2 := ⟨_, rfl⟩
  have hn02 : n0 + 2 ≤ n2 := by omega
  have HT : Hid (∀ W, Below n2 W0 W → W.cell? ⟨n0, 0, none⟩ = some (.int .i64 s) ∧ W.cell? ⟨n0, 1, none⟩ = some (.int .i64 lf) ∧ W.cell? ⟨n0, 2, none⟩ = some (.slice A l.length c)) := fun W hb => by
    obtain ⟨a0, a1, a2, _⟩ := blk3 ((hb.block n0 (by omega)).trans hr0)
    exact ⟨a0, a1, a2⟩
  have HR : Hid (∀ W, Below n2 W0 W → W.heap[n0 + 1]? = some (.cells #[.int .i64 0, .int .i64 0, .slice none 0 0, .slice none 0 0, .int .i64 0, .slice none 0 0, .int .i64 0, .bool false] 27 (0, 0))) := fun W hb => (hb.block _ (by omega)).trans hr1
  have H1 : Hid (∀ W, Below n2 W0 W → SlAt (encSl encU64) W (Bl W.heap.size) A l) := fun W hb => by
    have h := h1
    rw [hn0] at h
    exact (h.blk (fun g hg => (hb.block g (by have : g < n0 := hg; omega)).trans (hB0.block g hg))).more (fun g hg => by have : g < n0 := hg; have := hb.size; show g < W.heap.size; omega)
  obtain ⟨r, hr⟩ : ∃ r, checkT (s, lf, l) = r := ⟨_, rfl⟩
  have HCH := Lib.hid (fun W (hb : Below n2 W0 W) => check_any s lf A c l.length l r W rfl hr (H1.out W hb) hs hc hI)
  have HCP := Lib.hid (fun W (hb : Below n2 W0 W) => copied44_any s lf A c l.length l W rfl (H1.out W hb) hs hlv)
  have HBW : Hid (r = 0 → begW (s, lf, l) = ((s, lf, l), [(0, 1)], (l.length : Int) - 1, [], 0, false)) := fun h => by unfold begW; rw [if_pos (hr.trans h)]
  have HBE : Hid (r ≠ 0 → begW (s, lf, l) = zWk ∧ begM (s, lf, l) = []) := fun h => by unfold begW begM; rw [if_neg (by rw [hr]; exact h), if_neg (by rw [hr]; exact h)]; exact ⟨rfl, rfl⟩
  have HBM : Hid (r = 0 → begM (s, lf, l) = [reqMsg (begW (s, lf, l))]) := fun h => by unfold begM; rw [if_pos (hr.trans h)]
  obtain ⟨x, hx⟩ : ∃ x, begW (s, lf, l) = x := ⟨_, rfl⟩
  obtain ⟨ms, hms⟩ : ∃ ms, begM (s, lf, l) = ms := ⟨_, rfl⟩
  rw [hx, hms] at HBE HBM
  rw [hx] at HBW
  rw [hx, hms, hr]
  have HB0 := Lib.hid hB0
  have HN0 := Lib.hid hn0
  have HN2 := Lib.hid hn2
  obtain ⟨p0, p1, p2⟩ := HT.out W0 (Below.refl _ _)
  clear h1 hr0 hr1 hr hx hms hs0
  go_enter Try.func14, Try.ntmps14
  go_wp2_with fail
  refine (HCH.out W0 (Below.refl _ _)).mono ?_
  rintro e w1 ⟨rfl, hb1⟩
  rw [hn2] at hb1
  clear p0 p1 p2
  by_cases hr0 : r = 0
  · subst hr0
    have hl0 : (0 : Int) ≤ l.length := by omega
    have hl1 : (l.length : Int) ≤ 100000 := by omega
    have hSw : Below n2 W0 w1.drew := hb1.drew
    have HX := Lib.hid (HBW.out rfl)
    have HM := Lib.hid (HBM.out rfl)
    go_upto_region 4 with (fail)
    go_cut [6] (fun e wx => ∃ bx A' c' P, e = .pointer (some ⟨bx, 0, none⟩) ∧ n2 ≤ bx ∧ WkRow wx bx s lf A' l.length c' P 1 1 ((l.length : Int) - 1) none 0 0 0 false ∧ l.length ≤ c' ∧ c' ≤ maxLen ∧ SlAt (encSl encU64) wx (Nw n2 bx) A' l ∧ SlAt encExt wx (Nw n2 bx) P [(0, 1)] ∧ Below n2 W0 wx)
    case first =>
      refine wp_region_U (fun W' => Below n2 W0 W') 12 (by kernel_rfl) ?_
      refine wpAnyU_takeD (i := 0) (v := ?_) rfl rfl (by kernel_rfl) (by kernel_rfl) (by kernel_rfl) (by kernel_rfl) (fun _ _ _ h => h) (by rfl) ?_ hSw ?_
      rotate_left 1
      · intro W9 hW9
        try dsimp only at hW9
        obtain ⟨p0, p1, p2⟩ := HT.out W9 hW9
        go_simp
        try with_reducible rfl
      try simp only [List.setIfInBounds_toArray, List.set_cons_zero, List.set_cons_succ]
      refine wpAnyU_takeD (i := 2) (v := ?_) rfl rfl (by kernel_rfl) (by kernel_rfl) (by kernel_rfl) (by kernel_rfl) (fun _ _ _ h => h) (by rfl) ?_ hSw ?_
      rotate_left 1
      · intro W9 hW9
        try dsimp only at hW9
        obtain ⟨p0, p1, p2⟩ := HT.out W9 hW9
        go_simp
        try with_reducible rfl
      try simp only [List.setIfInBounds_toArray, List.set_cons_zero, List.set_cons_succ]
      refine wpAnyU_takeD (i := 3) (v := ?_) rfl rfl (by kernel_rfl) (by kernel_rfl) (by kernel_rfl) (by kernel_rfl) (fun _ _ _ h => h) (by rfl) ?_ hSw ?_
      rotate_left 1
      · intro W9 hW9
        try dsimp only at hW9
        obtain ⟨p0, p1, p2⟩ := HT.out W9 hW9
        go_simp
        try with_reducible rfl
      try simp only [List.setIfInBounds_toArray, List.set_cons_zero, List.set_cons_succ]
      refine wpAnyU_takeD (i := 4) (v := ?_) rfl rfl (by kernel_rfl) (by kernel_rfl) (by kernel_rfl) (by kernel_rfl) (fun _ _ _ h => h) (by rfl) ?_ hSw ?_
      rotate_left 1
      · intro W9 hW9
        try dsimp only at hW9
        obtain ⟨p0, p1, p2⟩ := HT.out W9 hW9
        go_simp
        try with_reducible rfl
      try simp only [List.setIfInBounds_toArray, List.set_cons_zero, List.set_cons_succ]
      refine wpAnyU_takeD (i := 5) (v := ?_) rfl rfl (by kernel_rfl) (by kernel_rfl) (by kernel_rfl) (by kernel_rfl) (fun _ _ _ h => h) (by rfl) ?_ hSw ?_
      rotate_left 1
      · intro W9 hW9
        try dsimp only at hW9
        obtain ⟨p0, p1, p2⟩ := HT.out W9 hW9
        go_simp
        try with_reducible rfl
      try simp only [List.setIfInBounds_toArray, List.set_cons_zero, List.set_cons_succ]
      rw [IntWalk.i64_in ((l.length : Int) - 1) (by omega)]
      refine wpAnyU_takeD (i := 6) (v := ?_) rfl rfl (by kernel_rfl) (by kernel_rfl) (by kernel_rfl) (by kernel_rfl) (fun _ _ _ h => h) (by rfl) ?_ hSw ?_
      rotate_left 1
      · intro W9 hW9
        try dsimp only at hW9
        obtain ⟨p0, p1, p2⟩ := HT.out W9 hW9
        go_simp
        try with_reducible rfl
      try simp only [List.setIfInBounds_toArray, List.set_cons_zero, List.set_cons_succ]
      refine wpAnyU_two (i := 1) (j := 7) (by kernel_rfl) rfl rfl rfl rfl (fun K hK => ?_) (fun K hK => ?_)
      · go_wp2_with fail
        refine (HCP.out _ hSw).mono ?_
        rintro e w2 ⟨A', c', rfl, d1, d2, hA, hb2⟩
        have hS2 : Below n2 W0 w2 := hSw.trans (hb2.mono (by have := hSw.size; omega))
        refine hK.out _ _ (fun _ => hS2) ?_
        clear hK K
        try simp only [List.setIfInBounds_toArray, List.set_cons_zero, List.set_cons_succ]
        refine wpAnyU_op (i := 7) (by kernel_rfl) rfl rfl (fun K hK => ?_)
        go_simp
        refine hK.out _ _ (fun _ => hS2.alloc (by have := hS2.size; omega) _) ?_
        clear hK K
        try simp only [Act.put, List.setIfInBounds_toArray, List.set_cons_zero, List.set_cons_succ]
        have hSB : Hid (Below n2 W0 (w2.alloc (.cells #[.int .i64 0, .int .i64 1] 67))) := hS2.alloc (by have := hS2.size; omega) _
        have hAB : Hid (SlAt (encSl encU64) (w2.alloc (.cells #[.int .i64 0, .int .i64 1] 67)) (Nw n2 (w2.alloc (.cells #[.int .i64 0, .int .i64 1] 67)).heap.size) A' l) := (hA.blk (fun g hg => Below.heap_alloc _ _ _ hg.2)).more (fun g hg => ⟨by have := hg.1; have := hSw.size; omega, by have := hg.2; simp; omega⟩)
        have hPB : Hid (SlAt encExt (w2.alloc (.cells #[.int .i64 0, .int .i64 1] 67)) (Nw n2 (w2.alloc (.cells #[.int .i64 0, .int .i64 1] 67)).heap.size) (some ⟨w2.heap.size, 0, none⟩) [(0, 1)]) :=
          litS44 (E := encExt) (S0 := fun _ => False) (css := [[.int .i64 0, .int .i64 1]]) (heap_alloc_new _ _) rfl ⟨ext_mk (x := ((0 : Int), (1 : Int))) (by unfold I64; decide) (by unfold I64; decide), trivial⟩ (fun _ h => h.elim) ⟨by have := hS2.size; omega, by simp⟩ (fun h => h)
        clear hA hb2
        generalize (w2.alloc (.cells #[.int .i64 0, .int .i64 1] 67)) = WB at hSB hAB hPB ⊢
        refine wpAnyU_op (i := 8) (by kernel_rfl) rfl rfl (fun K hK => ?_)
        go_simp
        refine hK.out _ _ (fun _ => hSB.out) ?_
        clear hK K
        try simp only [Act.put, List.setIfInBounds_toArray, List.set_cons_zero, List.set_cons_succ]
        refine wpAnyU_op (i := 9) (by kernel_rfl) rfl rfl (fun K hK => ?_)
        go_simp
        refine hK.out _ _ (fun _ => hSB.out) ?_
        clear hK K
        try simp only [Act.put, List.setIfInBounds_toArray, List.set_cons_zero, List.set_cons_succ]
        refine wpAnyU_op (i := 10) (by kernel_rfl) rfl rfl (fun K hK => ?_)
        go_simp
        refine hK.out _ _ (fun _ => hSB.out.alloc (by have := hSB.out.size; omega) _) ?_
        clear hK K
        try simp only [Act.put, List.setIfInBounds_toArray, List.set_cons_zero, List.set_cons_succ]
        refine wpAnyU_op (i := 11) (by kernel_rfl) rfl rfl (fun K hK => ?_)
        go_simp
        refine hK.out _ _ (fun _ => hSB.out.alloc (by have := hSB.out.size; omega) _) ?_
        clear hK K
        try simp only [Act.put, List.setIfInBounds_toArray, List.set_cons_zero, List.set_cons_succ]
        refine wpAnyU_done (by kernel_rfl) ?_ _
        have hwk : Hid (WkRow (WB.alloc (.cells #[.int .i64 s, .int .i64 lf, .slice A' l.length c', .slice (some ⟨w2.heap.size, 0, none⟩) 1 1, .int .i64 ((l.length : Int) - 1), .slice none 0 0, .int .i64 0, .bool false] 88)) WB.heap.size s lf A' l.length c' (some ⟨w2.heap.size, 0, none⟩) 1 1 ((l.length : Int) - 1) none 0 0 0 false) := heap_alloc_new _ _
        go_wp2
        go_meet
        exact ⟨WB.heap.size, A', c', some ⟨w2.heap.size, 0, none⟩, rfl, by have := hSB.out.size; omega, hwk.out, d1, d2, hAB.out.blk (fun g hg => Below.heap_alloc _ _ _ hg.2), hPB.out.blk (fun g hg => Below.heap_alloc _ _ _ hg.2), hSB.out.alloc (by have := hSB.out.size; omega) _⟩
      · have hSB : Below n2 W0 (w1.drew.alloc (.cells #[.int .i64 0, .int .i64 1] 67)) := hSw.alloc (by have := hSw.size; omega) _
        have hPB0 : Hid (SlAt encExt (w1.drew.alloc (.cells #[.int .i64 0, .int .i64 1] 67)) (Nw n2 (w1.drew.alloc (.cells #[.int .i64 0, .int .i64 1] 67)).heap.size) (some ⟨w1.drew.heap.size, 0, none⟩) [(0, 1)]) :=
          litS44 (E := encExt) (S0 := fun _ => False) (css := [[.int .i64 0, .int .i64 1]]) (heap_alloc_new _ _) rfl ⟨ext_mk (x := ((0 : Int), (1 : Int))) (by unfold I64; decide) (by unfold I64; decide), trivial⟩ (fun _ h => h.elim) ⟨by have := hSw.size; omega, by simp⟩ (fun h => h)
        go_simp
        refine hK.out _ _ (fun _ => hSB) ?_
        clear hK K
        try simp only [List.setIfInBounds_toArray, List.set_cons_zero, List.set_cons_succ]
        have HSB := Lib.hid hSB
        change wpAnyU _ _ _ _ _ _ _ _ _ (w1.drew.alloc (.cells #[.int .i64 0, .int .i64 1] 67))
        obtain ⟨nb, hnb⟩ : ∃ nb, w1.drew.heap.size = nb := ⟨_, rfl⟩
        obtain ⟨Wd, hWd⟩ : ∃ Wd, w1.drew.alloc (.cells #[.int .i64 0, .int .i64 1] 67) = Wd := ⟨_, rfl⟩
        have hnb' : w1.heap.size = nb := hnb
        rw [hnb] at hPB0
        rw [hWd] at hPB0 HSB hSB ⊢
        rw [hnb']
        clear hWd
        refine wpAnyU_op (i := 1) (by kernel_rfl) rfl rfl (fun K hK => ?_)
        go_wp2_with fail
        refine (HCP.out _ HSB.out).mono ?_
        rintro e w2 ⟨A', c', rfl, d1, d2, hA, hb2⟩
        have hS2 : Below n2 W0 w2 := hSB.trans (hb2.mono (by have := hSB.size; omega))
        refine hK.out _ _ (fun _ => hS2) ?_
        clear hK K
        try simp only [List.setIfInBounds_toArray, List.set_cons_zero, List.set_cons_succ]
        have hSB := Lib.hid hS2
        have hAB : Hid (SlAt (encSl encU64) w2 (Nw n2 w2.heap.size) A' l) := hA.more (fun g hg => ⟨by have := hg.1; have := HSB.out.size; omega, hg.2⟩)
        have hPB : Hid (SlAt encExt w2 (Nw n2 w2.heap.size) (some ⟨nb, 0, none⟩) [(0, 1)]) := (hPB0.out.blk (fun g hg => hb2.block g hg.2)).more (fun g hg => ⟨hg.1, Nat.lt_of_lt_of_le hg.2 hb2.size⟩)
        clear hA hb2 hS2
        generalize w2 = WB at hSB hAB hPB ⊢
        refine wpAnyU_op (i := 8) (by kernel_rfl) rfl rfl (fun K hK => ?_)
        go_simp
        refine hK.out _ _ (fun _ => hSB.out) ?_
        clear hK K
        try simp only [Act.put, List.setIfInBounds_toArray, List.set_cons_zero, List.set_cons_succ]
        refine wpAnyU_op (i := 9) (by kernel_rfl) rfl rfl (fun K hK => ?_)
        go_simp
        refine hK.out _ _ (fun _ => hSB.out) ?_
        clear hK K
        try simp only [Act.put, List.setIfInBounds_toArray, List.set_cons_zero, List.set_cons_succ]
        refine wpAnyU_op (i := 10) (by kernel_rfl) rfl rfl (fun K hK => ?_)
        go_simp
        refine hK.out _ _ (fun _ => hSB.out.alloc (by have := hSB.out.size; omega) _) ?_
        clear hK K
        try simp only [Act.put, List.setIfInBounds_toArray, List.set_cons_zero, List.set_cons_succ]
        refine wpAnyU_op (i := 11) (by kernel_rfl) rfl rfl (fun K hK => ?_)
        go_simp
        refine hK.out _ _ (fun _ => hSB.out.alloc (by have := hSB.out.size; omega) _) ?_
        clear hK K
        try simp only [Act.put, List.setIfInBounds_toArray, List.set_cons_zero, List.set_cons_succ]
        refine wpAnyU_done (by kernel_rfl) ?_ _
        have hwk : Hid (WkRow (WB.alloc (.cells #[.int .i64 s, .int .i64 lf, .slice A' l.length c', .slice (some ⟨nb, 0, none⟩) 1 1, .int .i64 ((l.length : Int) - 1), .slice none 0 0, .int .i64 0, .bool false] 88)) WB.heap.size s lf A' l.length c' (some ⟨nb, 0, none⟩) 1 1 ((l.length : Int) - 1) none 0 0 0 false) := heap_alloc_new _ _
        go_wp2
        go_meet
        exact ⟨WB.heap.size, A', c', some ⟨nb, 0, none⟩, rfl, by have := hSB.out.size; omega, hwk.out, d1, d2, hAB.out.blk (fun g hg => Below.heap_alloc _ _ _ hg.2), hPB.out.blk (fun g hg => Below.heap_alloc _ _ _ hg.2), hSB.out.alloc (by have := hSB.out.size; omega) _⟩
    case rest =>
      obtain ⟨bx, A', c', P, rfl, hbx, hrow, d1, d2, hA, hP, hS2⟩ := hcut
      have hbw : bx < wc.heap.size := hrow.lt
      have HRW := Lib.hid (fun W (hb : BelX (n0 + 1) wc W) => hrow.of_blk (hb bx hbw (by omega)))
      have hPW := Lib.hid (hP.blk (w' := wc.drew) (fun g hg => rfl))
      have hSw : BelX (n0 + 1) wc wc.drew := fun _ _ _ => rfl
      have HA := Lib.hid hA
      have HP := Lib.hid hP
      clear hrow hP hA
      go_upto_region 5 with (fail)
      refine wp_region_U (fun W' => BelX (n0 + 1) wc W') 10 (by kernel_rfl) ?_
      refine wpAnyU_takeD (i := 0) (v := ?_) rfl rfl (by kernel_rfl) (by kernel_rfl) (by kernel_rfl) (by kernel_rfl) (fun _ _ _ h => h) (by rfl) ?_ hSw ?_
      rotate_left 1
      · intro W9 hW9
        try dsimp only at hW9
        obtain ⟨⟨k0, k1, k2⟩, k3, k4, k5, k6, k7⟩ := (HRW.out W9 hW9).cells
        go_simp
        try with_reducible rfl
      try simp only [List.setIfInBounds_toArray, List.set_cons_zero, List.set_cons_succ]
      refine wpAnyU_takeD (i := 1) (v := ?_) rfl rfl (by kernel_rfl) (by kernel_rfl) (by kernel_rfl) (by kernel_rfl) (fun _ _ _ h => h) (by rfl) ?_ hSw ?_
      rotate_left 1
      · intro W9 hW9
        try dsimp only at hW9
        obtain ⟨⟨k0, k1, k2⟩, k3, k4, k5, k6, k7⟩ := (HRW.out W9 hW9).cells
        go_simp
        try with_reducible rfl
      try simp only [List.setIfInBounds_toArray, List.set_cons_zero, List.set_cons_succ]
      refine wpAnyU_takeD (i := 2) (v := ?_) rfl rfl (by kernel_rfl) (by kernel_rfl) (by kernel_rfl) (by kernel_rfl) (fun _ _ _ h => h) (by rfl) ?_ hSw ?_
      rotate_left 1
      · intro W9 hW9
        try dsimp only at hW9
        obtain ⟨⟨k0, k1, k2⟩, k3, k4, k5, k6, k7⟩ := (HRW.out W9 hW9).cells
        go_simp
        try with_reducible rfl
      try simp only [List.setIfInBounds_toArray, List.set_cons_zero, List.set_cons_succ]
      refine wpAnyU_takeD (i := 3) (v := ?_) rfl rfl (by kernel_rfl) (by kernel_rfl) (by kernel_rfl) (by kernel_rfl) (fun _ _ _ h => h) (by rfl) ?_ hSw ?_
      rotate_left 1
      · intro W9 hW9
        try dsimp only at hW9
        obtain ⟨⟨k0, k1, k2⟩, k3, k4, k5, k6, k7⟩ := (HRW.out W9 hW9).cells
        go_simp
        try with_reducible rfl
      try simp only [List.setIfInBounds_toArray, List.set_cons_zero, List.set_cons_succ]
      refine wpAnyU_op (i := 4) (by kernel_rfl) rfl rfl (fun K hK => ?_)
      go_simp
      refine hK.out _ _ (fun _ => hSw) ?_
      clear hK K
      try simp only [Act.put, List.setIfInBounds_toArray, List.set_cons_zero, List.set_cons_succ]
      refine wpAnyU_op (i := 5) (by kernel_rfl) rfl rfl (fun K hK => ?_)
      go_wp2_with fail
      refine ((request_any bx l.length c' 1 0 0 s lf ((l.length : Int) - 1) A' P none 0 false [(0, 1)] _ (by simp) hI (HRW.out _ hSw) (hPW.out.more (fun g hg => Nat.lt_of_lt_of_le hg.2 (Nat.le_of_lt (by show bx < wc.heap.size; omega)))))).mono ?_
      rintro e w3 ⟨V, vc, rfl, ⟨v1, v2, v3⟩, hb3'⟩; have hb3 : Below wc.heap.size wc w3 := bUn hb3'
      refine hK.out _ _ (fun _ => (belX_of hb3)) ?_
      clear hK K
      try simp only [Act.put, List.setIfInBounds_toArray, List.set_cons_zero, List.set_cons_succ]
      have hrr := (hb3.block (n0 + 1) (by omega)).trans (HR.out wc hS2)
      obtain ⟨z0, z1, z2, z3, z4, z5, z6, z7, zf⟩ := blk8 hrr
      have hsz3 := hb3.size
      have hB3 : Below w.heap.size w w3 := by rw [HN0.out]; exact HB0.out.trans ((hS2.mono (by omega)).trans (hb3.mono (by omega)))
      have hv3 : WkVal w3 (fun g => w.heap.size ≤ g ∧ g < w3.heap.size ∧ g ≠ n0 + 1) x (.agg #[.int .i64 s, .int .i64 lf, .slice A' l.length c', .slice P 1 1, .int .i64 ((l.length : Int) - 1), .slice none 0 0, .int .i64 0, .bool false]) := by
        rw [HX.out]
        exact ⟨A', c', P, 1, none, 0, rfl, ⟨d1, d2, (HA.out.blk (fun g hg => hb3.block g (Nat.lt_trans hg.2 hbw))).more (fun g hg => ⟨by have := hg.1; have := HN0.out; omega, by have := hg.2; omega, by have := hg.1; omega⟩)⟩, ⟨Nat.le_refl _, by unfold maxLen; decide, (HP.out.blk (fun g hg => hb3.block g (Nat.lt_trans hg.2 hbw))).more (fun g hg => ⟨by have := hg.1; have := HN0.out; omega, by have := hg.2; omega, by have := hg.1; omega⟩)⟩, ⟨Nat.zero_le _, Nat.zero_le _, SlAt.nil_⟩, hI.1, hI.2, by unfold I64; show _ ∧ _; simp only; omega, by unfold I64; show _ ∧ _; simp only; omega⟩
      have hrq : Hid (reqL x.1.1 x.1.2.1 x.2.1 = reqL s lf [(0, 1)] ∧ x.2.2.1 = (l.length : Int) - 1) := by rw [Hid, HX.out]; exact ⟨rfl, rfl⟩
      have hend := wk_req_end (w := w) hrr (by omega) hB3 hv3 (V := V) (vc := vc) (n := (reqL s lf [(0, 1)]).length) (by rw [hrq.out.1]) (by rw [hrq.out.1]; exact ⟨v1, v2, v3.more (fun g hg => ⟨by have := hg.1; have : wc.heap.size ≤ g := this; have := HN0.out; omega, hg.2, by have := hg.1; have : wc.heap.size ≤ g := this; omega⟩)⟩)
      rw [hrq.out.2] at hend
      have HEND := Lib.hid hend
      clear hend hv3 v3
      have hbX : BelX (n0 + 1) wc (set8 w3 (n0 + 1) (.int .i64 s) (.int .i64 lf) (.slice A' l.length c') (.slice P 1 1) (.int .i64 ((l.length : Int) - 1)) (.slice none 0 0) (.int .i64 0) (.bool false)) := fun g h1 h2 => (set8_other h2 _ _ _ _ _ _ _ _).trans (hb3.block g h1)
      have hs8 : (set8 w3 (n0 + 1) (.int .i64 s) (.int .i64 lf) (.slice A' l.length c') (.slice P 1 1) (.int .i64 ((l.length : Int) - 1)) (.slice none 0 0) (.int .i64 0) (.bool false)).heap.size = w3.heap.size := set8_sz
      have hsa := fun o => set8_alloc (w := w3) (o := o) (b := n0 + 1) (.int .i64 s) (.int .i64 lf) (.slice A' l.length c') (.slice P 1 1) (.int .i64 ((l.length : Int) - 1)) (.slice none 0 0) (.int .i64 0) (.bool false) (by omega)
      refine wpAnyU_two (i := 6) (j := 7) (by kernel_rfl) rfl rfl rfl rfl (fun K hK => ?_) (fun K hK => ?_)
      · have hrr' := (Below.heap_alloc w3 (.cells #[.int .i64 13, .int .i64 0, .int .i64 0, .int .i64 ((l.length : Int) - 1), .int .i64 0, .int .i64 0, .slice V (reqL s lf [(0, 1)]).length vc, .slice none 0 0] 45) (n0 + 1) (by omega)).trans hrr
        go_simp
        refine hK.out _ _ (fun _ => fun g h1 h2 => (Below.heap_alloc _ _ _ (by omega)).trans (hb3.block g h1)) ?_
        clear hK K z0 z1 z2 z3 z4 z5 z6 z7 zf
        obtain ⟨z0, z1, z2, z3, z4, z5, z6, z7, zf⟩ := blk8 hrr'
        refine wpAnyU_op (i := 7) (by kernel_rfl) rfl rfl (fun K hK => ?_)
        go_simp
        refine hK.out _ _ (fun _ => fun g h1 h2 => (set8_other h2 _ _ _ _ _ _ _ _).trans ((Below.heap_alloc _ _ _ (by omega)).trans (hb3.block g h1))) ?_
        clear hK K z0 z1 z2 z3 z4 z5 z6 z7 zf
        change wpAnyU _ _ _ _ _ _ _ _ _ (set8 (w3.alloc (.cells #[.int .i64 13, .int .i64 0, .int .i64 0, .int .i64 ((l.length : Int) - 1), .int .i64 0, .int .i64 0, .slice V (reqL s lf [(0, 1)]).length vc, .slice none 0 0] 45)) (n0 + 1) (.int .i64 s) (.int .i64 lf) (.slice A' l.length c') (.slice P 1 1) (.int .i64 ((l.length : Int) - 1)) (.slice none 0 0) (.int .i64 0) (.bool false))
        rw [hsa]
        clear hsa hrr'
        generalize set8 w3 (n0 + 1) (.int .i64 s) (.int .i64 lf) (.slice A' l.length c') (.slice P 1 1) (.int .i64 ((l.length : Int) - 1)) (.slice none 0 0) (.int .i64 0) (.bool false) = W7 at HEND hs8 hbX ⊢
        refine wpAnyU_op (i := 8) (by kernel_rfl) rfl rfl (fun K hK => ?_)
        go_simp
        refine hK.out _ _ (fun _ => (fun g h1 h2 => (Below.heap_alloc _ _ _ (by omega)).trans (hbX g h1 h2))) ?_
        clear hK K
        try simp only [Act.put, List.setIfInBounds_toArray, List.set_cons_zero, List.set_cons_succ]
        refine wpAnyU_op (i := 9) (by kernel_rfl) rfl rfl (fun K hK => ?_)
        go_simp
        refine hK.out _ _ (fun _ => (fun g h1 h2 => (Below.heap_alloc _ _ _ (by omega)).trans (hbX g h1 h2))) ?_
        clear hK K
        try simp only [Act.put, List.setIfInBounds_toArray, List.set_cons_zero, List.set_cons_succ]
        refine wpAnyU_done (by kernel_rfl) ?_ _
        obtain ⟨hz, hret⟩ := HEND.out
        generalize W7.alloc (.cells #[.int .i64 13, .int .i64 0, .int .i64 0, .int .i64 ((l.length : Int) - 1), .int .i64 0, .int .i64 0, .slice V (reqL s lf [(0, 1)]).length vc, .slice none 0 0] 45) = W9 at hz hret ⊢
        obtain ⟨z0, z1, z2, z3, z4, z5, z6, z7, _⟩ := blk8 hz
        go_wp2_with fail
        refine bodyPost_ret (v := .tuple #[.agg #[.int .i64 s, .int .i64 lf, .slice A' l.length c', .slice P 1 1, .int .i64 ((l.length : Int) - 1), .slice none 0 0, .int .i64 0, .bool false], .slice (some ⟨w3.heap.size, 0, none⟩) 1 1, .int .i64 0]) ?_ rfl ?_
        · simp [results, Try.results14, Try.f14, go_sem, z0, z1, z2, z3, z4, z5, z6, z7]
        rw [HM.out]
        exact hret
      · go_simp
        refine hK.out _ _ (fun _ => hbX) ?_
        clear hK K z0 z1 z2 z3 z4 z5 z6 z7 zf hsa
        change wpAnyU _ _ _ _ _ _ _ _ _ (set8 w3 (n0 + 1) (.int .i64 s) (.int .i64 lf) (.slice A' l.length c') (.slice P 1 1) (.int .i64 ((l.length : Int) - 1)) (.slice none 0 0) (.int .i64 0) (.bool false))
        generalize set8 w3 (n0 + 1) (.int .i64 s) (.int .i64 lf) (.slice A' l.length c') (.slice P 1 1) (.int .i64 ((l.length : Int) - 1)) (.slice none 0 0) (.int .i64 0) (.bool false) = W7 at HEND hs8 hbX ⊢
        refine wpAnyU_op (i := 6) (by kernel_rfl) rfl rfl (fun K hK => ?_)
        go_simp
        refine hK.out _ _ (fun _ => (fun g h1 h2 => (Below.heap_alloc _ _ _ (by omega)).trans (hbX g h1 h2))) ?_
        clear hK K
        try simp only [Act.put, List.setIfInBounds_toArray, List.set_cons_zero, List.set_cons_succ]
        try rw [hs8]
        refine wpAnyU_op (i := 8) (by kernel_rfl) rfl rfl (fun K hK => ?_)
        go_simp
        refine hK.out _ _ (fun _ => (fun g h1 h2 => (Below.heap_alloc _ _ _ (by omega)).trans (hbX g h1 h2))) ?_
        clear hK K
        try simp only [Act.put, List.setIfInBounds_toArray, List.set_cons_zero, List.set_cons_succ]
        refine wpAnyU_op (i := 9) (by kernel_rfl) rfl rfl (fun K hK => ?_)
        go_simp
        refine hK.out _ _ (fun _ => (fun g h1 h2 => (Below.heap_alloc _ _ _ (by omega)).trans (hbX g h1 h2))) ?_
        clear hK K
        try simp only [Act.put, List.setIfInBounds_toArray, List.set_cons_zero, List.set_cons_succ]
        refine wpAnyU_done (by kernel_rfl) ?_ _
        obtain ⟨hz, hret⟩ := HEND.out
        generalize W7.alloc (.cells #[.int .i64 13, .int .i64 0, .int .i64 0, .int .i64 ((l.length : Int) - 1), .int .i64 0, .int .i64 0, .slice V (reqL s lf [(0, 1)]).length vc, .slice none 0 0] 45) = W9 at hz hret ⊢
        obtain ⟨z0, z1, z2, z3, z4, z5, z6, z7, _⟩ := blk8 hz
        go_wp2_with fail
        refine bodyPost_ret (v := .tuple #[.agg #[.int .i64 s, .int .i64 lf, .slice A' l.length c', .slice P 1 1, .int .i64 ((l.length : Int) - 1), .slice none 0 0, .int .i64 0, .bool false], .slice (some ⟨w3.heap.size, 0, none⟩) 1 1, .int .i64 0]) ?_ rfl ?_
        · simp [results, Try.results14, Try.f14, go_sem, z0, z1, z2, z3, z4, z5, z6, z7]
        rw [HM.out]
        exact hret
  · obtain ⟨hz, hm⟩ := HBE.out hr0
    have HZ := Lib.hid (And.intro hz hm)
    obtain ⟨z0, z1, z2, z3, z4, z5, z6, z7, zf⟩ := blk8 (HR.out w1 hb1)
    have hrow := Lib.hid (HR.out w1 hb1)
    clear hz hm
    have hBw := HB0.out.trans (hb1.mono (by omega : n0 ≤ n2))
    go_wp2_with fail
    rw [HZ.out.1, HZ.out.2]
    rw [← HN0.out] at hBw
    have hend := wk_end (w := w) (u0 := (.int .i64 0)) (u1 := (.int .i64 0)) (u2 := (.slice none 0 0)) (u3 := (.slice none 0 0)) (u4 := (.int .i64 0)) (u5 := (.slice none 0 0)) (u6 := (.int .i64 0)) (u7 := (.bool false)) hrow.out (by omega) hBw wkVal_zero (B := none) (n := 0) (bc := 0) (rfl : ([] : List Msg).length = 0) ⟨Nat.le_refl 0, Nat.zero_le _, SlAt.nil_⟩ r
    obtain ⟨hz, hret⟩ := hend
    change bodyPost _ _ _ _ _ (set8 w1 (n0 + 1) (.int .i64 0) (.int .i64 0) (.slice none 0 0) (.slice none 0 0) (.int .i64 0) (.slice none 0 0) (.int .i64 0) (.bool false))
    generalize set8 w1 (n0 + 1) (.int .i64 0) (.int .i64 0) (.slice none 0 0) (.slice none 0 0) (.int .i64 0) (.slice none 0 0) (.int .i64 0) (.bool false) = W3 at hz hret ⊢
    obtain ⟨z0, z1, z2, z3, z4, z5, z6, z7, _⟩ := blk8 hz
    refine bodyPost_ret (v := .tuple #[.agg #[(.int .i64 0), (.int .i64 0), (.slice none 0 0), (.slice none 0 0), (.int .i64 0), (.slice none 0 0), (.int .i64 0), (.bool false)], .slice none 0 0, .int .i64 r]) ?_ rfl ?_
    · simp [results, Try.results14, Try.f14, go_sem, z0, z1, z2, z3, z4, z5, z6, z7]
    exact hret
end Go.Proofs.Ytjehedfdikdfpaa
namespace Go.Proofs.Ytjehedfdikdfpaa
open Go.RowKit Go.Shelf
attribute [local go_sem] Oper.semAt_some

set_option maxHeartbeats 4000000 in
set_option maxRecDepth 100000 in
theorem find_any (b n c pn pc fn fc L lc s lf : Nat) (lv : Int) (A P F LA : Option Addr) (sent : Int) (done : Bool) (is : List Nat) (r : List Ext) (w : World) (hL : (toI is).length = L) (hl : L ≤ 4096) (hs : s ≤ 4096) (hm : 1 ≤ lf ∧ lf ≤ 4096) (hi : ∀ i ∈ is, i < leavesN s lf) (hr : opL or (is.map (leafE s lf)) [] = r)
    (hrow : WkRow w b (s : Int) (lf : Int) A n c P pn pc lv F fn fc sent done) (h1 : SlAt encInt w (fun g => g < w.heap.size ∧ g ≠ b) LA (toI is)) :
    Calls Try.prog 52 #[.pointer (some ⟨b, 0, none⟩), .slice LA L lc] w fun e w' => ∃ F' fc', e = .returned (.tuple #[]) ∧ r.length ≤ fc' ∧ fc' ≤ maxLen ∧ WkRow w' b (s : Int) (lf : Int) A n c none 0 0 0 F' r.length fc' sent true ∧ SlAt encExt w' (Nw w.heap.size w'.heap.size) F' r ∧ Below b w w' := by
  subst hL
  obtain ⟨hm1, hm2⟩ := hm
  have hsI : (s : Int) ≤ 4096 := by omega
  have hmI : (lf : Int) ≤ 4096 := by omega
  have hmI1 : (1 : Int) ≤ lf := by omega
  have HI := Lib.hid hi; clear hi
  rw [toI_len] at hl
  have hbl : b < w.heap.size := hrow.lt
  obtain ⟨c0, c1, c2, c3, c4, c5, c6, c7, cf⟩ := blk8 hrow
  obtain ⟨W0, hW0⟩ : ∃ W0, w.setCell ⟨b, 5, none⟩ (.slice none 0 0) = W0 := ⟨_, rfl⟩
  have hz0 : W0.heap.size = w.heap.size := by rw [← hW0]; simp [World.setCell]
  have hR0 : WkRow W0 b (s : Int) (lf : Int) A n c P pn pc lv none 0 0 sent done := by rw [← hW0]; exact hrow.setF
  have hB0 : Below b w W0 := by rw [← hW0]; exact (Below.refl _ _).setCell (p := ⟨b, 5, none⟩) (Nat.le_refl _) _
  obtain ⟨n1, hn1⟩ : ∃ n1, W0.heap.size = n1 := ⟨_, rfl⟩
  have hwn : w.heap.size = n1 := by omega
  have hbn : b < n1 := by omega
  have H1 : Hid (∀ w', Below n1 W0 w' → SlAt encInt w' (Bl n1) LA (toI is)) := fun w' hb => by
    have h := h1.blk (w' := w') (fun g hg => by
      rw [hb.block g (by omega), ← hW0]; exact heap_setCell_other _ ⟨b, 5, none⟩ g _ hg.2)
    exact h.more (fun g hg => by have := hg.1; show g < n1; omega)
  have HROW : Hid (∀ W, Below n1 W0 W → WkRow W b (s : Int) (lf : Int) A n c P pn pc lv none 0 0 sent done) := fun W hb => hR0.of_blk (hb.block b hbn)
  have HW0 := Lib.hid hwn
  have HZ0 := Lib.hid hz0
  have HN1 := Lib.hid hn1
  clear h1 hrow hwn hz0
  go_enter Try.func52, Try.ntmps52
  go_upto_region 1 with (fail)
  try rw [hW0]
  clear c0 c1 c2 c3 c4 c5 c6 c7 cf hW0 hR0
  go_wp2_with fail
  go_loopw [4, 14] (fun v i wr => ∃ (k : Nat) (B : Option Addr) (vc : Nat) (out : List Ext), k ≤ is.length ∧ i = .int .i64 k ∧ v = .slice B out.length vc ∧ Below n1 W0 wr ∧ Hid (out = (is.take k).map (leafE s lf)) ∧ Hid (Own encExt wr n1 67 (fun _ => False) (.slice B out.length vc) out)) (fun _ i _ => is.length - (intOf i).toNat)
  case atStart => exact ⟨0, none, 0, [], by omega, rfl, rfl, Below.refl _ _, rfl, Own.nil_⟩
  case round =>
    obtain ⟨wo, rfl⟩ : ∃ wo : World, wo = wr := ⟨_, rfl⟩
    obtain ⟨k, B, vc, out, hk, rfl, rfl, hB, hout, hown⟩ := hrel
    have hszo := hB.size
    have hol : out.length ≤ 4096 := by rw [hout.out]; simp; omega
    by_cases hlt : k < is.length
    · have hlt' : k < (toI is).length := by rw [toI_len]; exact hlt
      have hki : (k : Int) < (toI is).length := by omega
      have hnn : (0 : Int) ≤ k := by omega
      obtain ⟨b2, off, rfl, hb2, hc, hi64⟩ := (H1.out wo hB).int hlt'
      rw [toI_at hlt] at hc
      have hib := HI.out is[k] (List.getElem_mem hlt)
      have hlf := leaf_lt hm1 hib
      have hst : Hid ((is.take (k + 1)).map (leafE s lf) = out ++ [leafE s lf is[k]]) := by
        rw [Hid, List.take_succ_eq_append_getElem hlt, List.map_append, List.map_singleton, ← hout.out]
      obtain ⟨i, hi⟩ : ∃ i, is[k] = i := ⟨_, rfl⟩
      rw [hi] at hc hib hlf hst
      obtain ⟨a, ha⟩ : ∃ a, i * lf = a := ⟨_, rfl⟩
      have hmul : (i : Int) * (lf : Int) = (a : Int) := by rw [← ha]; simp
      rw [ha] at hlf
      obtain ⟨q, hq⟩ : ∃ q : Int, min (lf : Int) ((s : Int) - a) = q := ⟨_, rfl⟩
      have hee : leafE s lf i = ((a : Int), q) := by unfold leafE; rw [ha, ← hq]; congr 1; omega
      rw [hee] at hst
      have hi0 : (0 : Int) ≤ i := by omega
      have hi4 : (i : Int) ≤ 4096 := by
        have := leavesN_le (n := s) (m := lf) hm1; omega
      have ha0 : (0 : Int) ≤ a := by omega
      have ha4 : (a : Int) < s := by omega
      obtain ⟨c0, c1, c2, c3, c4, c5, c6, c7, cf⟩ := blk8 (HROW.out wo hB)
      have i1 : I64 (a : Int) := by unfold I64; omega
      have i2 : I64 q := by unfold I64; omega
      clear hee hi ha hib hi64 hlt'
      go_upto_region 6 with (fail)
      have HC : Hid (∀ W', Below n1 W0 W' → W'.cell? ⟨b, 0, none⟩ = some (.int .i64 (s : Int)) ∧ W'.cell? ⟨b, 1, none⟩ = some (.int .i64 (lf : Int))) := fun W' hb => by
        obtain ⟨c0, c1, _⟩ := blk8 (HROW.out W' hb)
        exact ⟨c0, c1⟩
      have hSw : Below n1 W0 wo.drew := hB.drew
      have HQ := Lib.hid hq
      have hwr := Lib.hid (IntWalk.i64_in ((s : Int) - a) (by omega))
      have hq4 : q ≤ 4096 := by omega
      clear hq
      clear c0 c1 c2 c3 c4 c5 c6 c7 cf hc hmul
      refine wp_region_U (fun W' => Below n1 W0 W') 21 (by kernel_rfl) ?_
      refine wpAnyU_takeD (i := 0) (v := ?_) rfl rfl (by kernel_rfl) (by kernel_rfl) (by kernel_rfl) (by kernel_rfl) (fun _ _ _ h => h) (by rfl) ?_ hSw ?_
      rotate_left 1
      · intro W9 hW9
        try dsimp only at hW9
        obtain ⟨e0, e1⟩ := HC.out W9 hW9
        go_simp
        try with_reducible rfl
      try simp only [List.setIfInBounds_toArray, List.set_cons_zero, List.set_cons_succ]
      refine wpAnyU_takeD (i := 1) (v := ?_) rfl rfl (by kernel_rfl) (by kernel_rfl) (by kernel_rfl) (by kernel_rfl) (fun _ _ _ h => h) (by rfl) ?_ hSw ?_
      rotate_left 1
      · intro W9 hW9
        try dsimp only at hW9
        obtain ⟨e0, e1⟩ := HC.out W9 hW9
        go_simp
        try with_reducible rfl
      try simp only [List.setIfInBounds_toArray, List.set_cons_zero, List.set_cons_succ]
      refine wpAnyU_takeD (i := 2) (v := ?_) rfl rfl (by kernel_rfl) (by kernel_rfl) (by kernel_rfl) (by kernel_rfl) (fun _ _ _ h => h) (by rfl) ?_ hSw ?_
      rotate_left 1
      · intro W9 hW9
        try dsimp only at hW9
        obtain ⟨e0, e1⟩ := HC.out W9 hW9
        go_simp
        try with_reducible rfl
      try simp only [List.setIfInBounds_toArray, List.set_cons_zero, List.set_cons_succ]
      refine wpAnyU_takeD (i := 3) (v := ?_) rfl rfl (by kernel_rfl) (by kernel_rfl) (by kernel_rfl) (by kernel_rfl) (fun _ _ _ h => h) (by rfl) ?_ hSw ?_
      rotate_left 1
      · intro W9 hW9
        try dsimp only at hW9
        obtain ⟨e0, e1⟩ := HC.out W9 hW9
        go_simp
        try with_reducible rfl
      try simp only [List.setIfInBounds_toArray, List.set_cons_zero, List.set_cons_succ]
      refine wpAnyU_takeD (i := 4) (v := ?_) rfl rfl (by kernel_rfl) (by kernel_rfl) (by kernel_rfl) (by kernel_rfl) (fun _ _ _ h => h) (by rfl) ?_ hSw ?_
      rotate_left 1
      · intro W9 hW9
        try dsimp only at hW9
        obtain ⟨e0, e1⟩ := HC.out W9 hW9
        go_simp
        try with_reducible rfl
      try simp only [List.setIfInBounds_toArray, List.set_cons_zero, List.set_cons_succ]
      refine wpAnyU_takeD (i := 5) (v := ?_) rfl rfl (by kernel_rfl) (by kernel_rfl) (by kernel_rfl) (by kernel_rfl) (fun _ _ _ h => h) (by rfl) ?_ hSw ?_
      rotate_left 1
      · intro W9 hW9
        try dsimp only at hW9
        obtain ⟨e0, e1⟩ := HC.out W9 hW9
        go_simp
        try with_reducible rfl
      try simp only [List.setIfInBounds_toArray, List.set_cons_zero, List.set_cons_succ]
      refine wpAnyU_takeD (i := 6) (v := ?_) rfl rfl (by kernel_rfl) (by kernel_rfl) (by kernel_rfl) (by kernel_rfl) (fun _ _ _ h => h) (by rfl) ?_ hSw ?_
      rotate_left 1
      · intro W9 hW9
        try dsimp only at hW9
        obtain ⟨e0, e1⟩ := HC.out W9 hW9
        go_simp
        try with_reducible rfl
      try simp only [List.setIfInBounds_toArray, List.set_cons_zero, List.set_cons_succ]
      refine wpAnyU_takeD (i := 7) (v := ?_) rfl rfl (by kernel_rfl) (by kernel_rfl) (by kernel_rfl) (by kernel_rfl) (fun _ _ _ h => h) (by rfl) ?_ hSw ?_
      rotate_left 1
      · intro W9 hW9
        try dsimp only at hW9
        obtain ⟨e0, e1⟩ := HC.out W9 hW9
        go_simp
        try with_reducible rfl
      try simp only [List.setIfInBounds_toArray, List.set_cons_zero, List.set_cons_succ]
      refine wpAnyU_takeD (i := 8) (v := ?_) rfl rfl (by kernel_rfl) (by kernel_rfl) (by kernel_rfl) (by kernel_rfl) (fun _ _ _ h => h) (by rfl) ?_ hSw ?_
      rotate_left 1
      · intro W9 hW9
        try dsimp only at hW9
        obtain ⟨e0, e1⟩ := HC.out W9 hW9
        go_simp
        try with_reducible rfl
      try simp only [List.setIfInBounds_toArray, List.set_cons_zero, List.set_cons_succ]
      refine wpAnyU_takeD (i := 9) (v := ?_) rfl rfl (by kernel_rfl) (by kernel_rfl) (by kernel_rfl) (by kernel_rfl) (fun _ _ _ h => h) (by rfl) ?_ hSw ?_
      rotate_left 1
      · intro W9 hW9
        try dsimp only at hW9
        obtain ⟨e0, e1⟩ := HC.out W9 hW9
        go_simp
        try with_reducible rfl
      try simp only [List.setIfInBounds_toArray, List.set_cons_zero, List.set_cons_succ]
      refine wpAnyU_takeD (i := 10) (v := ?_) rfl rfl (by kernel_rfl) (by kernel_rfl) (by kernel_rfl) (by kernel_rfl) (fun _ _ _ h => h) (by rfl) ?_ hSw ?_
      rotate_left 1
      · intro W9 hW9
        try dsimp only at hW9
        obtain ⟨e0, e1⟩ := HC.out W9 hW9
        go_simp
        try with_reducible rfl
      try simp only [List.setIfInBounds_toArray, List.set_cons_zero, List.set_cons_succ]
      refine wpAnyU_takeD (i := 11) (v := ?_) rfl rfl (by kernel_rfl) (by kernel_rfl) (by kernel_rfl) (by kernel_rfl) (fun _ _ _ h => h) (by rfl) ?_ hSw ?_
      rotate_left 1
      · intro W9 hW9
        try dsimp only at hW9
        obtain ⟨e0, e1⟩ := HC.out W9 hW9
        go_simp
        try with_reducible rfl
      try simp only [List.setIfInBounds_toArray, List.set_cons_zero, List.set_cons_succ]
      refine wpAnyU_takeD (i := 12) (v := ?_) rfl rfl (by kernel_rfl) (by kernel_rfl) (by kernel_rfl) (by kernel_rfl) (fun _ _ _ h => h) (by rfl) ?_ hSw ?_
      rotate_left 1
      · intro W9 hW9
        try dsimp only at hW9
        obtain ⟨e0, e1⟩ := HC.out W9 hW9
        go_simp
        try with_reducible rfl
      try simp only [List.setIfInBounds_toArray, List.set_cons_zero, List.set_cons_succ]
      refine wpAnyU_takeD (i := 13) (v := ?_) rfl rfl (by kernel_rfl) (by kernel_rfl) (by kernel_rfl) (by kernel_rfl) (fun _ _ _ h => h) (by rfl) ?_ hSw ?_
      rotate_left 1
      · intro W9 hW9
        try dsimp only at hW9
        obtain ⟨e0, e1⟩ := HC.out W9 hW9
        go_simp
        try with_reducible rfl
      try simp only [List.setIfInBounds_toArray, List.set_cons_zero, List.set_cons_succ]
      refine wpAnyU_takeD (i := 14) (v := ?_) rfl rfl (by kernel_rfl) (by kernel_rfl) (by kernel_rfl) (by kernel_rfl) (fun _ _ _ h => h) (by rfl) ?_ hSw ?_
      rotate_left 1
      · intro W9 hW9
        try dsimp only at hW9
        obtain ⟨e0, e1⟩ := HC.out W9 hW9
        go_simp
        try with_reducible rfl
      try simp only [List.setIfInBounds_toArray, List.set_cons_zero, List.set_cons_succ]
      refine wpAnyU_op (i := 15) (by kernel_rfl) rfl rfl (fun K hK => ?_)
      go_simp
      refine hK.out _ _ (fun _ => hSw) ?_
      clear hK K
      try simp only [Act.put, List.setIfInBounds_toArray, List.set_cons_zero, List.set_cons_succ]
      rw [hwr.out]
      refine wpAnyU_op (i := 16) (by kernel_rfl) rfl rfl (fun K hK => ?_)
      go_simp
      refine hK.out _ _ (fun _ => hSw) ?_
      clear hK K
      try simp only [Act.put, List.setIfInBounds_toArray, List.set_cons_zero, List.set_cons_succ]
      rw [HQ.out]
      refine wpAnyU_op (i := 17) (by kernel_rfl) rfl rfl (fun K hK => ?_)
      go_simp
      refine hK.out _ _ (fun _ => hSw) ?_
      clear hK K
      try simp only [Act.put, List.setIfInBounds_toArray, List.set_cons_zero, List.set_cons_succ]
      refine wpAnyU_op (i := 18) (by kernel_rfl) rfl rfl (fun K hK => ?_)
      go_simp
      refine hK.out _ _ (fun _ => hSw.alloc (by show n1 ≤ wo.heap.size; have := HN1.out; omega) _) ?_
      clear hK K
      try simp only [Act.put, List.setIfInBounds_toArray, List.set_cons_zero, List.set_cons_succ]
      have hown2 := Lib.hid ((hown.out.below (w' := wo.drew.alloc (.cells #[.int .i64 (a : Int), .int .i64 q] 67)) (ext_alloc (Below.refl _ _).drew) (fun _ h => h.elim)))
      refine wpAnyU_one (i := 19) (by kernel_rfl) rfl (fun K hK => ?_)
      refine step_app1 (E := encExt) tyExtsI rfl _ _ rfl rfl hown2.out ((a : Int), q) [.int .i64 (a : Int), .int .i64 q] rfl (ext_mk (x := ((a : Int), q)) i1 i2) (heap_alloc_new _ _) (fun _ h => h.elim) (by simp; have := HN1.out; omega) (by unfold maxLen; omega) (by omega) ?_
      intro A' c' w1 hown3 hg hat
      have hlt5 := hown2.out.lt
      have hx1 : Below n1 W0 w1 := (hSw.alloc (by show n1 ≤ wo.heap.size; have := HN1.out; omega) _).grown hg (by simp; have := HN1.out; omega) (fun g h => (hlt5 g h).1)
      refine hK.out _ _ (fun _ => hx1) ?_
      clear hK K
      simp only [Act.put, List.setIfInBounds_toArray, List.set_cons_zero, List.set_cons_succ]
      refine wpAnyU_op (i := 20) (by kernel_rfl) rfl rfl (fun K hK => ?_)
      go_simp
      refine hK.out _ _ (fun _ => hx1) ?_
      clear hK K
      try simp only [Act.put, List.setIfInBounds_toArray, List.set_cons_zero, List.set_cons_succ]
      refine wpAnyU_done (by kernel_rfl) ?_ _
      go_wp2
      go_roundw
      case rel =>
        refine ⟨k + 1, A', c', out ++ [((a : Int), q)], hlt, by go_num, by simp, hx1, ?_, ?_⟩
        · exact hst.out.symm
        · simpa [Hid] using hown3
      case measure => simp [intOf]; omega
    · have hkk : k = is.length := by omega
      subst hkk
      have hE : Hid (out = is.map (leafE s lf)) := by rw [Hid, hout.out, List.take_length]
      have hki : ¬ ((is.length : Nat) : Int) < (toI is).length := by rw [toI_len]; omega
      have hw : OwnW encExt wo n1 n1 67 (.slice B out.length vc) out := Own.more hown.out (fun _ h => h.elim) (fun g e h => h.2 e)
      obtain ⟨_, p1, p2, p3⟩ := hw.parts
      have HU := Lib.hid (union_any B none vc 0 out.length 0 out [] r rfl rfl (by rw [hE.out]; exact hr) wo (p3.more (fun g hg => hg.2)) SlAt.nil_ (by omega) (by omega) ⟨p1, p2⟩ (by unfold maxLen; omega))
      clear p1 p2 p3 hw
      go_wp2_with fail
      refine HU.out.mono ?_
      rintro e w2 ⟨A2, c2', rfl, u1, u2, u3, hb2⟩
      have hB2 : Below n1 W0 w2 := hB.trans (hb2.mono (by have := HN1.out; omega))
      have hr2 := HROW.out w2 hB2
      obtain ⟨c0, c1, c2, c3, c4, c5, c6, c7, cf⟩ := blk8 hr2
      obtain ⟨W3, hW3⟩ : ∃ W3, w2.setCell ⟨b, 5, none⟩ (.slice A2 r.length c2') = W3 := ⟨_, rfl⟩
      have hr3 : WkRow W3 b (s : Int) (lf : Int) A n c P pn pc lv A2 r.length c2' sent done := by rw [← hW3]; exact hr2.setF
      have HF := Lib.hid (finish_any b n c pn pc r.length c2' (s : Int) (lf : Int) lv A P A2 sent done W3 hr3)
      have hB3 : Below b w W3 := by
        rw [← hW3]; exact (hB0.trans (hB2.mono (by omega))).setCell (p := ⟨b, 5, none⟩) (Nat.le_refl _) _
      have hz3 : W3.heap.size = w2.heap.size := by rw [← hW3]; simp [World.setCell]
      have hoth : Hid (∀ g, g ≠ b → W3.heap[g]? = w2.heap[g]?) := fun g hg => by rw [← hW3]; exact heap_setCell_other _ ⟨b, 5, none⟩ g _ hg
      have HU3 := Lib.hid u3
      have HZ3 := Lib.hid hz3
      have hzo := hb2.size
      clear u3 hz3 hr2 hr3
      go_wp2_with fail
      refine HF.out.mono ?_
      rintro e w4 ⟨rfl, hr4, hg4⟩
      go_wp2
      go_end0
      have hz4 := hg4.size
      exact ⟨A2, c2', rfl, u1, u2, hr4, (HU3.out.blk (fun g hg => (hg4.block g (by have := HZ3.out; have := hg.2; omega) (fun e => by have := hg.1; have := HN1.out; injection e with e; omega)).trans (hoth.out g (by have := hg.1; have := HN1.out; omega)))).more (fun g hg => ⟨by have := hg.1; have := HN1.out; have := HW0.out; omega, by have := hg.2; have := HZ3.out; omega⟩), hB3.grown hg4 (by have := HZ3.out; have := hB0.size; omega) (fun k e => by injection e with e; omega)⟩
end Go.Proofs.Ytjehedfdikdfpaa
namespace Go.Proofs.Ytjehedfdikdfpaa
open Go.RowKit Go.Shelf
attribute [local go_sem] Oper.semAt_some

def natE (x : Nat) : Array Value := #[.int .i64 (x : Int)]
/-- a round keeps some blocks, and all extents -/
def KpN (S : Nat → Prop) (W W' : World) : Prop := (∀ g, S g → W'.heap[g]? = W.heap[g]?) ∧ W.heap.size ≤ W'.heap.size ∧ ∀ (i : Nat) (cs : Array Value) (fr : Nat × Nat), W.heap[i]? = some (.cells cs 67 fr) → W'.heap[i]? = W.heap[i]?
theorem KpN.refl (S : Nat → Prop) (W : World) : KpN S W W := ⟨fun _ _ => rfl, Nat.le_refl _, fun _ _ _ _ => rfl⟩
theorem KpN.trans {S : Nat → Prop} {W W' W'' : World} (h : KpN S W W') (k : KpN S W' W'') : KpN S W W'' :=
  ⟨fun g hg => (k.1 g hg).trans (h.1 g hg), Nat.le_trans h.2.1 k.2.1, fun i cs fr hi => by
    have h1 := h.2.2 i cs fr hi
    exact (k.2.2 i cs fr (h1.trans hi)).trans h1⟩
theorem KpN.alloc {S : Nat → Prop} {W W' : World} (h : KpN S W W') (o : Obj) (hS : ∀ g, S g → g < W.heap.size) : KpN S W (W'.alloc o) :=
  h.trans ⟨fun g hg => Below.heap_alloc W' o g (by have := hS g hg; have := h.2.1; omega), by simp, fun i cs fr hi => Below.heap_alloc W' o i (Array.getElem?_eq_some_iff.1 hi).1⟩
set_option maxRecDepth 100000 in
set_option maxHeartbeats 4000000 in
theorem numbers_in (n : Nat) (hn : 1 ≤ n) (y Bs c : Nat) (S : Nat → Prop) (A : Option Addr) (l : List Ext) (hlen : l.length ≤ 100000) (hex : ∀ e ∈ l, 0 ≤ e.1 ∧ 0 < e.2 ∧ e.1 + e.2 ≤ 4096) (J Jx : List Nat → World → Prop)
    (hJ : ∀ s W o, J s W → J s (W.alloc o))
    (hY : ∀ pre x W, J pre W → pre.length < (numsL l).length → x ∈ numsL l → YieldAt Fence.wide (n - 1) Try.prog y (natE x) W fun e W' =>
      (e = .returned (.bool true) ∧ J (pre ++ [x]) W' ∧ KpN S W W') ∨ (e = .returned (.bool false) ∧ Jx (pre ++ [x]) W'))
    (W : World) (hS : ∀ g, S g → g < W.heap.size) (hBs : S Bs) (hc : W.cell? ⟨Bs, 0, none⟩ = some (.slice A l.length c)) (hw : SlAt encExt W S A l) (h0 : J [] W) :
    CallsIn Fence.wide n Try.prog 74 #[.func (.yield y) #[] #[], .pointer (some ⟨Bs, 0, none⟩)] W fun e W' => (∃ v, e = .returned v) ∧
      ((∃ ys : List Nat, ys = numsL l ∧ J ys W') ∨ (∃ pre : List Nat, True ∧ Jx pre W')) := by
  have HW : Hid (∀ W', KpN S W W' → SlAt encExt W' S A l) := fun W' h => hw.blk h.1
  have HEX := Lib.hid hex
  clear hw hex
  refine callsIn_of_wp Try.func74 rfl trivial ?_ rfl
  simp only [Try.ntmps74, List.size_toArray, List.length_cons, List.length_nil, Nat.reduceAdd, Nat.reduceSub, Array.replicate_succ, Array.replicate_zero, List.push_toArray, List.append_toArray, List.nil_append, List.cons_append]
  gi_wp2
  gi_loopw [8] (fun i wr => ∃ (k : Nat) (pre : List Nat), k ≤ l.length ∧ i = .int .i64 (k : Int) ∧ Hid (pre = numsL (l.take k)) ∧ J pre wr ∧ KpN S W wr) (fun i _ => l.length - (intOf i).toNat)
  case atStart => exact ⟨0, [], Nat.zero_le _, rfl, rfl, h0, KpN.refl _ _⟩
  case round =>
    obtain ⟨k, pre, hk, rfl, hpre, hJs, hB⟩ := hrel
    have hcs := (World.cell?_of_block (a := ⟨Bs, 0, none⟩) (hB.1 Bs hBs)).trans hc
    clear hc
    by_cases hlt : k < l.length
    · obtain ⟨b, off, rfl, hb, c0, c1, hi1, hi2⟩ := (HW.out wr hB).ext hlt
      obtain ⟨he0, he1, he2⟩ := HEX.out l[k] (List.getElem_mem hlt)
      have hsucc := Lib.hid (numsL_take_succ hlt)
      have HLN : Hid (∀ m, m < l[k].2.toNat → (numsL (l.take k)).length + m < (numsL l).length) := fun m hm => numsL_len_take hlt hm
      have HMEM : Hid (∀ m, m < l[k].2.toNat → l[k].1.toNat + m ∈ numsL l) := fun m hm => numsL_mem hlt hm
      obtain ⟨x, hx⟩ : ∃ x, l[k] = x := ⟨_, rfl⟩
      rw [hx] at c0 c1 hi1 hi2 he0 he1 he2 hsucc HLN HMEM
      obtain ⟨st, ct⟩ := x
      simp only at c0 c1 hi1 hi2 he0 he1 he2 hsucc HLN HMEM
      obtain ⟨s, rfl⟩ : ∃ s : Nat, st = s := ⟨st.toNat, by omega⟩
      obtain ⟨d, rfl⟩ : ∃ d : Nat, ct = d := ⟨ct.toNat, by omega⟩
      simp only [Int.toNat_natCast] at hsucc HLN HMEM
      have hnn : (0 : Int) ≤ k := by omega
      have hki : (k : Int) < l.length := by omega
      obtain ⟨W0, hW0⟩ : ∃ W0, wr.alloc (.cells #[.int .i64 s, .int .i64 d] 67) = W0 := ⟨_, rfl⟩
      obtain ⟨bx, hbx⟩ : ∃ bx, wr.heap.size = bx := ⟨_, rfl⟩
      have hJ0 : J pre W0 := by rw [← hW0]; exact hJ _ _ _ hJs
      have hB0 : KpN S W W0 := by rw [← hW0]; exact hB.alloc _ hS
      have hr0 : W0.heap[bx]? = some (.cells #[.int .i64 s, .int .i64 d] 67 (0, 0)) := by rw [← hW0, ← hbx]; exact heap_alloc_new _ _
      obtain ⟨y0, y1, _⟩ := blk2 hr0
      clear hx
      gi_wp2
      try rw [hW0]
      try rw [hbx]
      clear c0 c1 y0 y1 hW0 hbx hcs
      gi_loopw [14] (fun i wr => ∃ (m : Nat) (pre : List Nat), m ≤ d ∧ i = .int .i64 (m : Int) ∧ Hid (pre = numsL (l.take k) ++ (List.range m).map fun i => s + i) ∧ J pre wr ∧ Hid (wr.heap[bx]? = some (.cells #[.int .i64 s, .int .i64 d] 67 (0, 0))) ∧ KpN S W wr) (fun i _ => d - (intOf i).toNat)
      case atStart => exact ⟨0, pre, Nat.zero_le _, rfl, by rw [Hid, hpre.out]; simp, hJ0, hr0, hB0⟩
      case round =>
        clear hpre hB hJs hJ0 hB0 hr0
        obtain ⟨m, pre, hm, rfl, hpre, hJs, hrow, hB⟩ := hrel
        obtain ⟨y0, y1, _⟩ := blk2 hrow.out
        by_cases hlm : m < d
        · have hmm : (0 : Int) ≤ m := by omega
          have hmi : (m : Int) < d := by omega
          have hpl : pre.length < (numsL l).length := by
            rw [hpre.out, List.length_append, List.length_map, List.length_range]; exact HLN.out m hlm
          have hsum : (s : Int) + m = ((s + m : Nat) : Int) := by omega
          obtain ⟨fn, tmps, assign, body, hy, hR⟩ := hY pre (s + m) wr hJs hpl (HMEM.out m hlm)
          simp only [natE, Int.natCast_add] at hy
          clear hsum
          gi_wp2
          refine hR.mono ?_
          have HY := Lib.hid hy; clear hy
          rintro e W3 (⟨rfl, hJ3, hk3⟩ | ⟨rfl, hJx3⟩)
          · gi_wp2
            go_roundw
            case rel => exact ⟨m + 1, pre ++ [s + m], hlm, by go_num, by rw [Hid, hpre.out, List.range_succ, List.map_append, List.append_assoc]; rfl, hJ3, (hk3.2.2 bx _ _ hrow.out).trans hrow.out, hB.trans hk3⟩
            case measure => simp [intOf]; omega
          · gi_wp2
            refine bodyPost_ret (results_none rfl _ _ _) rfl ?_
            exact ⟨⟨_, rfl⟩, .inr ⟨_, trivial, hJx3⟩⟩
        · have hmm : m = d := by omega
          have hmi : ¬ (m : Int) < d := by omega
          have hE : Hid (pre = numsL (l.take (k + 1))) := by rw [Hid, hpre.out, hsucc.out, hmm]
          clear hmm
          gi_wp2
          go_roundw
          case rel => exact ⟨k + 1, pre, hlt, by go_num, hE.out, hJs, hB⟩
          case measure => simp [intOf]; omega
    · have hki : ¬ (k : Int) < l.length := by omega
      have hE : Hid (pre = numsL l) := by rw [Hid, hpre.out, List.take_of_length_le (by omega)]
      gi_wp2
      go_end0
      have hF : J (numsL l) wr := by rw [← hE.out]; exact hJs
      first
      | exact ⟨⟨_, rfl⟩, .inl hF⟩
      | exact ⟨⟨_, rfl⟩, .inl ⟨_, rfl, hF⟩⟩
/-- a number of some extents -/
abbrev NumOf (l : List Ext) := {x : Nat // x ∈ numsL l}
theorem numbers_stops (n : Nat) (hn : 1 ≤ n) (Bs c : Nat) (S : Nat → Prop) (A : Option Addr) (l : List Ext) (hlen : l.length ≤ 100000) (hex : ∀ e ∈ l, 0 ≤ e.1 ∧ 0 < e.2 ∧ e.1 + e.2 ≤ 4096) (w : World) (hS : ∀ g, S g → g < w.heap.size) (hBs : S Bs) (hc : w.cell? ⟨Bs, 0, none⟩ = some (.slice A l.length c)) (hw : SlAt encExt w S A l) :
    SeqStopsT (fun _ => False) Fence.wide n Try.prog 74 #[.pointer (some ⟨Bs, 0, none⟩)] (fun x : NumOf l => natE x.1) (KpN S) (fun ys => ys.map (·.1) = numsL l) (fun _ => True) (numsL l).length w :=
  fun y J Jx W hW hJ hJx hY h0 => (numbers_in n hn y Bs c S A l hlen hex (fun xs W => ∃ ys : List (NumOf l), ys.map (·.1) = xs ∧ J ys W) (fun xs W => ∃ ys : List (NumOf l), ys.map (·.1) = xs ∧ Jx ys W)
    (fun s W o h => by
      obtain ⟨ys, h1, h2⟩ := h
      exact ⟨ys, h1, hJ ys W _ none h2 (World.grownBy_alloc W o none) (fun r e => by cases e)⟩)
    (fun pre x W h hl hx => by
      obtain ⟨ys, rfl, h2⟩ := h
      obtain ⟨fn, tmps, assign, body, hy, hR⟩ := hY ys ⟨x, hx⟩ W h2 (by simpa using hl)
      refine ⟨fn, tmps, assign, body, hy, hR.mono ?_⟩
      rintro e W3 (⟨h1, h2, h3⟩ | ⟨h1, h2⟩)
      · exact .inl ⟨h1, ⟨_, by simp, h2⟩, h3⟩
      · exact .inr ⟨h1, ⟨_, by simp, h2⟩⟩)
    W (fun g hg => by have := hS g hg; have := hW.size; omega) hBs ((hW.cell (p := ⟨Bs, 0, none⟩) (hS Bs hBs)).trans hc) (hw.blk (fun g hg => hW.block g (hS g hg))) ⟨[], rfl, h0⟩).mono (by
    rintro e W' ⟨hv, h⟩
    refine ⟨hv, ?_⟩
    rcases h with ⟨xs, rfl, ys, h1, h2⟩ | ⟨pre, _, ys, _, h2⟩
    · exact .inl ⟨ys, h1, h2⟩
    · exact .inr ⟨ys, trivial, h2⟩)
theorem numbers_any (A : Option Addr) (n c : Nat) (w : World) : Calls Try.prog 46 #[.slice A n c] w fun e w' => e = .returned (.func (.func 74) #[] #[.pointer (some ⟨w.heap.size, 0, none⟩)]) ∧ w' = w.alloc (.cells #[.slice A n c] 25) := by
  go_enter Try.func46, Try.ntmps46
  go_wp2
  go_ret
  exact ⟨rfl, rfl⟩
end Go.Proofs.Ytjehedfdikdfpaa
namespace Go.Proofs.Ytjehedfdikdfpaa
open Go.RowKit Go.Shelf
attribute [local go_sem] Oper.semAt_some

set_option maxHeartbeats 4000000 in
theorem eqBytes_any (A A' : Option Addr) (c c' n n' : Nat) (S S' : Nat → Prop) (l m : List Int) (r : Bool) (w : World) (hn : l.length = n) (hn' : m.length = n') (hr : decide (l = m) = r) (h1 : SlAt encU8 w S A l) (h2 : SlAt encU8 w S' A' m) (hs : n ≤ 9223372036854775807) (ht : n' ≤ 9223372036854775807) :
    Calls Try.prog 75 #[.slice A n c, .slice A' n' c'] w fun e w' => e = .returned (.bool r) ∧ Drew w w' := by
  subst hn hn'
  have HR := Lib.hid hr; clear hr
  by_cases hl : l.length = m.length
  · have hl' : (((l.length : Nat) : Int) != (m.length : Int)) = false := by simp [hl]
    have HL := Lib.hid hl; clear hl
    go_enter Try.func75, Try.ntmps75
    go_wp2
    go_loopw [13] (fun i wr => ∃ k : Nat, k ≤ l.length ∧ i = .int .i64 k ∧ Drew w wr ∧ Hid (l.take k = m.take k)) (fun i _ => l.length - (intOf i).toNat)
    case atStart => exact ⟨0, by omega, rfl, Drew.refl _, by simp [Hid]⟩
    case round =>
      obtain ⟨wo, rfl⟩ : ∃ wo : World, wo = wr := ⟨_, rfl⟩
      obtain ⟨k, hk, rfl, hd, hp⟩ := hrel
      replace h1 := h1.drew hd
      replace h2 := h2.drew hd
      by_cases hlt : k < l.length
      · have hlt2 : k < m.length := by have := HL.out; omega
        obtain ⟨b, off, rfl, _, g0, _, _⟩ := h1.u8 hlt
        obtain ⟨b', off', rfl, _, g0', _, _⟩ := h2.u8 hlt2
        have hnn : (0 : Int) ≤ k := by omega
        have hki : (k : Int) < l.length := by omega
        have hki2 : (k : Int) < m.length := by omega
        obtain ⟨x, hx⟩ : ∃ x, Hid (x = l[k]'hlt) := ⟨_, Lib.hid rfl⟩
        obtain ⟨y, hy⟩ : ∃ y, Hid (y = m[k]'hlt2) := ⟨_, Lib.hid rfl⟩
        rw [← hx.out] at g0; rw [← hy.out] at g0'
        by_cases hxy : x = y
        · have hxy' : (x == y) = true := by simp [hxy]
          have HXY := Lib.hid hxy; clear hxy
          go_wp2_with fail
          go_quiet (fail)
          go_wp2
          go_roundw
          case rel => exact ⟨k + 1, hlt, by go_num, hd.step _, take_step hlt hlt2 hp.out (by rw [← hx.out, ← hy.out]; exact HXY.out)⟩
          case measure => simp [intOf]; omega
        · have hxy' : (x == y) = false := by simp [hxy]
          have hne : Hid (decide (l = m) = false) := by
            rw [Hid, decide_eq_false_iff_not]
            rintro rfl
            exact hxy (hx.out.trans hy.out.symm)
          clear hxy
          go_wp2_with fail
          go_quiet (fail)
          go_wp2
          go_ret
          rw [← HR.out, hne.out]
          exact ⟨rfl, hd.step _⟩
      · have hkk : k = l.length := by omega
        subst hkk
        go_wp2
        go_ret
        have e := hp.out
        rw [List.take_length, HL.out, List.take_length] at e
        rw [← HR.out]
        exact ⟨by simp [e], hd⟩
  · have hl' : (((l.length : Nat) : Int) != (m.length : Int)) = true := by simp; omega
    have hne : Hid (decide (l = m) = false) := by
      rw [Hid, decide_eq_false_iff_not]
      rintro rfl
      exact hl rfl
    clear hl
    go_enter Try.func75, Try.ntmps75
    go_wp2
    go_ret
    rw [← HR.out, hne.out]
    exact ⟨rfl, Drew.refl _⟩
set_option maxHeartbeats 4000000 in
theorem eqInts44_any (A A' : Option Addr) (c c' n n' : Nat) (S S' : Nat → Prop) (l m : List Int) (r : Bool) (w : World) (hn : l.length = n) (hn' : m.length = n') (hr : decide (l = m) = r) (h1 : SlAt encInt w S A l) (h2 : SlAt encInt w S' A' m) (hs : n ≤ 9223372036854775807) (ht : n' ≤ 9223372036854775807) :
    Calls Try.prog 35 #[.slice A n c, .slice A' n' c'] w fun e w' => e = .returned (.bool r) ∧ Drew w w' := by
  subst hn hn'
  have HR := Lib.hid hr; clear hr
  by_cases hl : l.length = m.length
  · have hl' : (((l.length : Nat) : Int) != (m.length : Int)) = false := by simp [hl]
    have HL := Lib.hid hl; clear hl
    go_enter Try.func35, Try.ntmps35
    go_wp2
    go_loopw [13] (fun i wr => ∃ k : Nat, k ≤ l.length ∧ i = .int .i64 k ∧ Drew w wr ∧ Hid (l.take k = m.take k)) (fun i _ => l.length - (intOf i).toNat)
    case atStart => exact ⟨0, by omega, rfl, Drew.refl _, by simp [Hid]⟩
    case round =>
      obtain ⟨wo, rfl⟩ : ∃ wo : World, wo = wr := ⟨_, rfl⟩
      obtain ⟨k, hk, rfl, hd, hp⟩ := hrel
      replace h1 := h1.drew hd
      replace h2 := h2.drew hd
      by_cases hlt : k < l.length
      · have hlt2 : k < m.length := by have := HL.out; omega
        obtain ⟨b, off, rfl, _, g0, _, _⟩ := h1.int hlt
        obtain ⟨b', off', rfl, _, g0', _, _⟩ := h2.int hlt2
        have hnn : (0 : Int) ≤ k := by omega
        have hki : (k : Int) < l.length := by omega
        have hki2 : (k : Int) < m.length := by omega
        obtain ⟨x, hx⟩ : ∃ x, Hid (x = l[k]'hlt) := ⟨_, Lib.hid rfl⟩
        obtain ⟨y, hy⟩ : ∃ y, Hid (y = m[k]'hlt2) := ⟨_, Lib.hid rfl⟩
        rw [← hx.out] at g0; rw [← hy.out] at g0'
        by_cases hxy : x = y
        · have hxy' : (x == y) = true := by simp [hxy]
          have HXY := Lib.hid hxy; clear hxy
          go_wp2_with fail
          go_quiet (fail)
          go_wp2
          go_roundw
          case rel => exact ⟨k + 1, hlt, by go_num, hd.step _, take_step hlt hlt2 hp.out (by rw [← hx.out, ← hy.out]; exact HXY.out)⟩
          case measure => simp [intOf]; omega
        · have hxy' : (x == y) = false := by simp [hxy]
          have hne : Hid (decide (l = m) = false) := by
            rw [Hid, decide_eq_false_iff_not]
            rintro rfl
            exact hxy (hx.out.trans hy.out.symm)
          clear hxy
          go_wp2_with fail
          go_quiet (fail)
          go_wp2
          go_ret
          rw [← HR.out, hne.out]
          exact ⟨rfl, hd.step _⟩
      · have hkk : k = l.length := by omega
        subst hkk
        go_wp2
        go_ret
        have e := hp.out
        rw [List.take_length, HL.out, List.take_length] at e
        rw [← HR.out]
        exact ⟨by simp [e], hd⟩
  · have hl' : (((l.length : Nat) : Int) != (m.length : Int)) = true := by simp; omega
    have hne : Hid (decide (l = m) = false) := by
      rw [Hid, decide_eq_false_iff_not]
      rintro rfl
      exact hl rfl
    clear hl
    go_enter Try.func35, Try.ntmps35
    go_wp2
    go_ret
    rw [← HR.out, hne.out]
    exact ⟨rfl, Drew.refl _⟩
end Go.Proofs.Ytjehedfdikdfpaa

/-
  ref44.Learn: the walk.
-/
import Derived.Test.YtjehedfdikdfpaaZ07
import Derived.Test.YtjehedfdikdfpaaZ13
import Derived.Test.YtjehedfdikdfpaaZ14
import Derived.Test.YtjehedfdikdfpaaZ17
set_option linter.unusedVariables false
set_option linter.unusedSimpArgs false
set_option linter.unusedSectionVars false
set_option linter.unnecessarySimpa false
namespace Go.Proofs.Ytjehedfdikdfpaa
open Go.RowKit Go.Shelf
attribute [local go_sem] Oper.semAt_some

theorem dfr_sub {lev : List Int} : ∀ {ns : List Nat} {b : List Int}, (dfr lev b ns).Sublist ns
  | [], _ => by unfold dfr; exact List.Sublist.refl _
  | n :: ns, b => by
    unfold dfr
    split
    · exact (dfr_sub (ns := ns)).cons n
    · exact (dfr_sub (ns := ns)).cons_cons n
theorem nums_asc {N : Int} {es : List Ext} (h : extE es N = 0) : (numsL es).Pairwise (· < ·) := by
  have h2 : exE N 0 es = 0 := by
    unfold extE at h
    split at h
    · omega
    · exact h
  obtain ⟨m1, m2⟩ := exE_mem h2
  unfold numsL
  rw [List.pairwise_flatMap]
  refine ⟨fun e he => ?_, ?_⟩
  · rw [List.pairwise_map]
    exact List.pairwise_lt_range.imp (fun h => by omega)
  · refine List.Pairwise.imp_of_mem (fun {a b} ha hb hab => ?_) m2
    have ha := m1 a ha
    have hb := m1 b hb
    intro x hx y hy
    obtain ⟨i, hi, rfl⟩ := List.mem_map.1 hx
    obtain ⟨j, hj, rfl⟩ := List.mem_map.1 hy
    have := List.mem_range.1 hi
    omega
theorem dfr_step {lev body : List Int} {ns : List Nat} {i : Nat} (hi : i < ns.length) (hb : ∀ x ∈ body, 0 ≤ x ∧ x < 256) (hl : 8 * i + 8 ≤ body.length) (hu : 0 ≤ lev.getD ns[i] 0 ∧ lev.getD ns[i] 0 < 18446744073709551616) :
    dfr lev body (ns.take (i + 1)) = dfr lev body (ns.take i) ++ (if digP body (8 * i) 8 = lev.getD ns[i] 0 then [] else [ns[i]]) := by
  rw [List.take_succ_eq_append_getElem hi, dfr_snoc, List.length_take, Nat.min_eq_left (by omega)]
  congr 1
  by_cases h : digP body (8 * i) 8 = lev.getD ns[i] 0
  · rw [if_pos h, if_pos ((digP_eq hb hl hu).1 h)]
  · rw [if_neg h, if_neg (fun h2 => h ((digP_eq hb hl hu).2 h2))]
set_option maxHeartbeats 8000000 in
set_option maxRecDepth 100000 in
theorem refLearn_any (S : Nat → Prop) (s lf lv sent kind fr tt num val ep : Int) (done : Bool) (A P F V Bd : Option Addr) (c pc fc n pn fn vn vc bn bc : Nat) (l : List (List Int)) (p f : List Ext) (vals body : List Int) (w : World) (hn : l.length = n) (hpn : p.length = pn) (hfn : f.length = fn) (hvn : vals.length = vn) (hbn : body.length = bn)
    (hS : ∀ g, S g → g < w.heap.size) (h1 : SlAt (encSl encU64) w S A l) (hP : SlAt encExt w (Bl w.heap.size) P p) (hF : SlAt encExt w (Bl w.heap.size) F f) (hV : SlAt encInt w (Bl w.heap.size) V vals) (hBd : SlAt encU8 w (Bl w.heap.size) Bd body)
    (hs : n ≤ 100000) (hc : n ≤ c ∧ c ≤ maxLen) (hpl : pn ≤ 100000) (hfl : fn ≤ 100000) (hvl : vn ≤ 100000000) (hbl : bn ≤ 100000000) (hI : I64 s ∧ I64 lf ∧ I64 lv ∧ I64 sent) (hlv : ∀ row ∈ l, row.length ≤ 1000000) :
    Calls Try.prog 25 #[.agg #[.int .i64 s, .int .i64 lf, .slice A n c, .slice P pn pc, .int .i64 lv, .slice F fn fc, .int .i64 sent, .bool done], .agg #[.int .i64 kind, .int .i64 fr, .int .i64 tt, .int .i64 num, .int .i64 val, .int .i64 ep, .slice V vn vc, .slice Bd bn bc]] w
      (RetWS S (learnW ((s, lf, l), p, lv, f, sent, done) (kind, fr, tt, num, val, ep, vals, body)) (learnM ((s, lf, l), p, lv, f, sent, done) (kind, fr, tt, num, val, ep, vals, body)) (learnE ((s, lf, l), p, lv, f, sent, done) (kind, fr, tt, num, val, ep, vals, body)) w) := by
  subst hn hpn hfn hvn hbn
  obtain ⟨n0, hn0⟩ : ∃ n0, w.heap.size = n0 := ⟨_, rfl⟩
  obtain ⟨W0, hW0⟩ : ∃ W0, ((w.alloc (.cells #[.int .i64 s, .int .i64 lf, .slice A l.length c, .slice P p.length pc, .int .i64 lv, .slice F f.length fc, .int .i64 sent, .bool done] 27)).alloc (.cells #[.int .i64 kind, .int .i64 fr, .int .i64 tt, .int .i64 num, .int .i64 val, .int .i64 ep, .slice V vals.length vc, .slice Bd body.length bc] 45)).alloc (.cells #[.int .i64 0, .int .i64 0, .slice none 0 0, .slice none 0 0, .int .i64 0, .slice none 0 0, .int .i64 0, .bool false] 27) = W0 := ⟨_, rfl⟩
  have hB0 : Below n0 w W0 := by rw [← hW0, ← hn0]; exact ext_alloc (ext_alloc (ext_alloc (Below.refl _ _)))
  have hs0 : W0.heap.size = n0 + 3 := by rw [← hW0, ← hn0]; simp
  have hr0 : W0.heap[n0]? = some (.cells #[.int .i64 s, .int .i64 lf, .slice A l.length c, .slice P p.length pc, .int .i64 lv, .slice F f.length fc, .int .i64 sent, .bool done] 27 (0, 0)) := by
    rw [← hW0, ← hn0]; exact (Below.heap_alloc _ _ _ (by simp; omega)).trans ((Below.heap_alloc _ _ _ (by simp)).trans (heap_alloc_new _ _))
  have hr1 : W0.heap[n0 + 1]? = some (.cells #[.int .i64 kind, .int .i64 fr, .int .i64 tt, .int .i64 num, .int .i64 val, .int .i64 ep, .slice V vals.length vc, .slice Bd body.length bc] 45 (0, 0)) := by
    rw [← hW0, ← hn0]; exact (Below.heap_alloc _ _ _ (by simp)).trans (heap_new2 _ _ _)
  have hr2 : W0.heap[n0 + 1 + 1]? = some (.cells #[.int .i64 0, .int .i64 0, .slice none 0 0, .slice none 0 0, .int .i64 0, .slice none 0 0, .int .i64 0, .bool false] 27 (0, 0)) := by
    rw [← hW0, ← hn0]; exact heap_new3 _ _ _ _
  obtain ⟨n2, hn2⟩ : ∃ n2, W0.heap.size = n2 := ⟨_, rfl⟩
  have hn02 : n0 + 3 ≤ n2 := by omega
  have HALL : Hid (∀ W, Below n2 W0 W → W.heap[n0]? = some (.cells #[.int .i64 s, .int .i64 lf, .slice A l.length c, .slice P p.length pc, .int .i64 lv, .slice F f.length fc, .int .i64 sent, .bool done] 27 (0, 0)) ∧ W.heap[n0 + 1]? = some (.cells #[.int .i64 kind, .int .i64 fr, .int .i64 tt, .int .i64 num, .int .i64 val, .int .i64 ep, .slice V vals.length vc, .slice Bd body.length bc] 45 (0, 0)) ∧
      W.heap[n0 + 1 + 1]? = some (.cells #[.int .i64 0, .int .i64 0, .slice none 0 0, .slice none 0 0, .int .i64 0, .slice none 0 0, .int .i64 0, .bool false] 27 (0, 0)) ∧ Below w.heap.size w W) := fun W hb =>
    ⟨(hb.block _ (by omega)).trans hr0, (hb.block _ (by omega)).trans hr1, (hb.block _ (by omega)).trans hr2, by rw [hn0]; exact hB0.trans (hb.mono (by omega))⟩
  have hS0 : ∀ g, S g → g < n0 := fun g hg => by rw [← hn0]; exact hS g hg
  have up : ∀ {α : Type} {E : Enc α} {A : Option Addr} {l : List α} {S : Nat → Prop}, SlAt E w S A l → (∀ g, S g → g < n0) → ∀ W : World, Below n2 W0 W → SlAt E W S A l := fun h hS W hb => h.blk (fun g hg => (hb.block g (by have := hS g hg; omega)).trans (hB0.block g (hS g hg)))
  rw [hn0] at hP hF hV hBd
  have H1 := Lib.hid (up h1 hS0)
  have HP := Lib.hid (up hP (fun _ h => h))
  have HF := Lib.hid (up hF (fun _ h => h))
  have HV := Lib.hid (up hV (fun _ h => h))
  have HBD := Lib.hid (up hBd (fun _ h => h))
  have mo : ∀ {W : World} {g : Nat}, Below n2 W0 W → g < n0 → Bl W.heap.size g := fun h hg => by have := h.size; show _ < _; omega
  obtain ⟨x, hx⟩ : ∃ x, wkE ((s, lf, l), p, lv, f, sent, done) = x := ⟨_, rfl⟩
  have HCH := Lib.hid (fun W (hb : Below n2 W0 W) => refWk_any s lf lv sent done A P F c pc fc l.length p.length f.length l p f x W rfl rfl rfl hx ((H1.out W hb).more (fun g hg => mo hb (hS0 g hg))) ((HP.out W hb).more (fun g hg => mo hb hg)) ((HF.out W hb).more (fun g hg => mo hb hg)) hs hc hI (by omega) (by omega) hlv)
  have HX := Lib.hid hx
  have HZ : Hid (∀ q, q ≠ 0 → learnE ((s, lf, l), p, lv, f, sent, done) (kind, fr, tt, num, val, ep, vals, body) = q → learnW ((s, lf, l), p, lv, f, sent, done) (kind, fr, tt, num, val, ep, vals, body) = zWk ∧ learnM ((s, lf, l), p, lv, f, sent, done) (kind, fr, tt, num, val, ep, vals, body) = [] ∧ True) := fun q h0 h => ⟨by unfold learnW; rw [if_pos (by rw [h]; exact h0)], by unfold learnM; rw [if_pos (by rw [h]; exact h0)], trivial⟩
  have HB0 := Lib.hid hB0
  have HN0 := Lib.hid hn0
  have HS0 := Lib.hid hS0
  obtain ⟨p0, p1, p2, p3, p4, p5, p6, p7, _⟩ := blk8 (HALL.out W0 (Below.refl _ _)).1
  clear h1 hP hF hV hBd hr0 hr1 hr2 hs0 up hx hS0 hS
  go_enter Try.func25, Try.ntmps25
  go_wp2_with fail
  refine (HCH.out W0 (Below.refl _ _)).mono ?_
  rintro e w1 ⟨rfl, hb1⟩
  rw [hn2] at hb1
  clear p0 p1 p2 p3 p4 p5 p6 p7 hW0
  by_cases hx0 : x = 0
  · subst hx0
    obtain ⟨p0, p1, p2, p3, p4, p5, p6, p7, pf⟩ := blk8 (HALL.out w1 hb1).1
    obtain ⟨e0, e1, e2, e3, e4, e5, e6, e7, _⟩ := blk8 (HALL.out w1 hb1).2.1
    obtain ⟨hck, ⟨k, rfl, hk⟩, hs0, hs8, hnd⟩ := wkE_ok HX.out
    have HLE : Hid (∀ q, (if done = true then (12 : Int) else if kind ≠ 14 then 1 else if num ≠ (k : Int) ∨ vals ≠ reqL s lf p then 22 else if body.length ≠ 8 * (numsL p).length then 3 else 0) = q → learnE ((s, lf, l), p, (k : Int), f, sent, done) (kind, fr, tt, num, val, ep, vals, body) = q) := fun q h => by
      rw [← h, learnE, if_neg (by rw [HX.out]; simp)]; rfl
    have HCK := Lib.hid hck
    clear hck
    cases done with
    | true =>
      have HE : Hid (learnE ((s, lf, l), p, (k : Int), f, sent, true) (kind, fr, tt, num, val, ep, vals, body) = 12) := HLE.out 12 (by rw [if_pos rfl])
      have hrow := Lib.hid ((HALL.out w1 hb1).2.2.1)
      have hBw := Lib.hid ((HALL.out w1 hb1).2.2.2)
      obtain ⟨z0, z1, z2, z3, z4, z5, z6, z7, zf⟩ := blk8 hrow.out
      go_wp2_with fail
      rw [(HZ.out 12 (by decide) HE.out).1, (HZ.out 12 (by decide) HE.out).2.1, HE.out]
      have hend := wk_endS (w := w) (S := S) (u0 := (.int .i64 0)) (u1 := (.int .i64 0)) (u2 := (.slice none 0 0)) (u3 := (.slice none 0 0)) (u4 := (.int .i64 0)) (u5 := (.slice none 0 0)) (u6 := (.int .i64 0)) (u7 := (.bool false)) hrow.out (by omega) hBw.out wkVal_zero (B := none) (n := 0) (bc := 0) (rfl : ([] : List Msg).length = 0) ⟨Nat.le_refl 0, Nat.zero_le _, SlAt.nil_⟩ 12
      obtain ⟨hz, hret⟩ := hend
      change bodyPost _ _ _ _ _ (set8 w1 (n0 + 1 + 1) (.int .i64 0) (.int .i64 0) (.slice none 0 0) (.slice none 0 0) (.int .i64 0) (.slice none 0 0) (.int .i64 0) (.bool false))
      generalize set8 w1 (n0 + 1 + 1) (.int .i64 0) (.int .i64 0) (.slice none 0 0) (.slice none 0 0) (.int .i64 0) (.slice none 0 0) (.int .i64 0) (.bool false) = W3 at hz hret ⊢
      obtain ⟨z0, z1, z2, z3, z4, z5, z6, z7, _⟩ := blk8 hz
      refine bodyPost_ret (v := .tuple #[.agg #[(.int .i64 0), (.int .i64 0), (.slice none 0 0), (.slice none 0 0), (.int .i64 0), (.slice none 0 0), (.int .i64 0), (.bool false)], .slice none 0 0, .int .i64 12]) ?_ rfl ?_
      · simp [results, Try.results25, Try.f25, go_sem, z0, z1, z2, z3, z4, z5, z6, z7]
      exact hret
    | false =>
      obtain ⟨hpne, hfe, hext⟩ := hnd rfl
      rw [levT_at hk] at hext
      have HEXT := Lib.hid hext
      subst hfe
      have hp0 : 0 < p.length := List.length_pos_iff.2 hpne
      clear hnd hpne hext
      by_cases hk14 : kind = 14
      · subst hk14
        have HRQ := Lib.hid (refReq_any s lf (k : Int) sent false A P F l.length c p.length pc 0 fc p w1 rfl hpl ⟨hI.1, hI.2.1⟩ ((HP.out w1 hb1).more (fun g hg => mo hb1 hg)))
        go_wp2_with fail
        refine HRQ.out.mono ?_
        rintro e w2 ⟨V9, vc9, rfl, ⟨v1, v2, v3⟩, hb2⟩
        have hz1 := hb1.size
        have hz2 := hb2.size
        have hb02 : Below n2 W0 w2 := hb1.trans (hb2.mono (by omega))
        obtain ⟨rb, hrb⟩ : ∃ rb, w2.heap.size = rb := ⟨_, rfl⟩
        obtain ⟨m9, hm9⟩ : ∃ m9, (reqL s lf p).length = m9 := ⟨_, rfl⟩
        rw [hm9] at v1 ⊢
        have HM9 := Lib.hid hm9
        have HRB := Lib.hid hrb
        obtain ⟨W6, hW6⟩ : ∃ W6, w2.alloc (.cells #[.int .i64 14 , .int .i64 0, .int .i64 0, .int .i64 (k : Int), .int .i64 0, .int .i64 0, .slice V9 m9 vc9, .slice none 0 0] 45) = W6 := ⟨_, rfl⟩
        clear W6 hW6
        obtain ⟨W6, hW6⟩ : ∃ W6, w2.alloc (.cells #[.int .i64 13, .int .i64 0, .int .i64 0, .int .i64 (k : Int), .int .i64 0, .int .i64 0, .slice V9 m9 vc9, .slice none 0 0] 45) = W6 := ⟨_, rfl⟩
        have hb6 : Below rb w2 W6 := by rw [← hW6, ← hrb]; exact ext_alloc (Below.refl _ _)
        have hr6 : W6.heap[rb]? = some (.cells #[.int .i64 13, .int .i64 0, .int .i64 0, .int .i64 (k : Int), .int .i64 0, .int .i64 0, .slice V9 m9 vc9, .slice none 0 0] 45 (0, 0)) := by rw [← hW6, ← hrb]; exact heap_alloc_new _ _
        have hz6 : rb < W6.heap.size := by rw [← hW6, ← hrb]; simp
        have hb06 : Below n2 W0 W6 := hb02.trans (hb6.mono (by omega))
        have HVR := Lib.hid (v3.blk (w' := W6) (fun g hg => hb6.block g (by have := hg.2; omega)))
        have HR6 := Lib.hid hr6
        have HW6 := Lib.hid hW6
        clear p0 p1 p2 p3 p4 p5 p6 p7 pf e0 e1 e2 e3 e4 e5 e6 e7 v3 hW6 hr6
        go_upto_region 9 with (fail)
        rw [HW6.out]
        clear hrb
        obtain ⟨p0, p1, p2, p3, p4, p5, p6, p7, pf⟩ := blk8 (HALL.out W6 hb06).1
        obtain ⟨e0, e1, e2, e3, e4, e5, e6, e7, _⟩ := blk8 (HALL.out W6 hb06).2.1
        obtain ⟨q0, q1, q2, q3, q4, q5, q6, q7, _⟩ := blk8 HR6.out
        by_cases hnum : num = (k : Int)
        · subst hnum
          have HEQ := Lib.hid (sameInts15_any V V9 vc vc9 (Bl n0) (Nw w1.heap.size w2.heap.size) vals (reqL s lf p) W6 (HV.out W6 hb06) HVR.out (by omega) (by have := HM9.out; rw [reqL_len] at this ⊢; omega))
          rw [HM9.out] at HEQ
          obtain ⟨rq, hrq⟩ : ∃ rq : Bool, (vals == reqL s lf p) = rq := ⟨_, rfl⟩
          rw [hrq] at HEQ
          have HRQD := Lib.hid hrq
          clear hrq
          go_wp2_with fail
          refine HEQ.out.mono ?_
          rintro e w7 ⟨rfl, hd7⟩
          have hb07 : Below n2 W0 w7 := hb06.trans (hd7.below _)
          clear p0 p1 p2 p3 p4 p5 p6 p7 pf e0 e1 e2 e3 e4 e5 e6 e7 q0 q1 q2 q3 q4 q5 q6 q7 hd7
          cases rq with
          | false =>
            have HE : Hid (learnE ((s, lf, l), p, (k : Int), [], sent, false) (14, fr, tt, (k : Int), val, ep, vals, body) = 22) := HLE.out 22 (by rw [if_neg (by simp), if_neg (by simp), if_pos (Or.inr (by have := HRQD.out; simpa using this))])
            have hrow := Lib.hid ((HALL.out w7 hb07).2.2.1)
            have hBw := Lib.hid ((HALL.out w7 hb07).2.2.2)
            obtain ⟨z0, z1, z2, z3, z4, z5, z6, z7, zf⟩ := blk8 hrow.out
            go_wp2_with fail
            rw [(HZ.out 22 (by decide) HE.out).1, (HZ.out 22 (by decide) HE.out).2.1, HE.out]
            have hend := wk_endS (w := w) (S := S) (u0 := (.int .i64 0)) (u1 := (.int .i64 0)) (u2 := (.slice none 0 0)) (u3 := (.slice none 0 0)) (u4 := (.int .i64 0)) (u5 := (.slice none 0 0)) (u6 := (.int .i64 0)) (u7 := (.bool false)) hrow.out (by omega) hBw.out wkVal_zero (B := none) (n := 0) (bc := 0) (rfl : ([] : List Msg).length = 0) ⟨Nat.le_refl 0, Nat.zero_le _, SlAt.nil_⟩ 22
            obtain ⟨hz, hret⟩ := hend
            change bodyPost _ _ _ _ _ (set8 w7 (n0 + 1 + 1) (.int .i64 0) (.int .i64 0) (.slice none 0 0) (.slice none 0 0) (.int .i64 0) (.slice none 0 0) (.int .i64 0) (.bool false))
            generalize set8 w7 (n0 + 1 + 1) (.int .i64 0) (.int .i64 0) (.slice none 0 0) (.slice none 0 0) (.int .i64 0) (.slice none 0 0) (.int .i64 0) (.bool false) = W3 at hz hret ⊢
            obtain ⟨z0, z1, z2, z3, z4, z5, z6, z7, _⟩ := blk8 hz
            refine bodyPost_ret (v := .tuple #[.agg #[(.int .i64 0), (.int .i64 0), (.slice none 0 0), (.slice none 0 0), (.int .i64 0), (.slice none 0 0), (.int .i64 0), (.bool false)], .slice none 0 0, .int .i64 22]) ?_ rfl ?_
            · simp [results, Try.results25, Try.f25, go_sem, z0, z1, z2, z3, z4, z5, z6, z7]
            exact hret
          | true =>
            have hve : vals = reqL s lf p := by have := HRQD.out; simpa using this
            have HLE2 : Hid (∀ q, (if body.length ≠ 8 * (numsL p).length then (3 : Int) else 0) = q → learnE ((s, lf, l), p, (k : Int), [], sent, false) (14, fr, tt, (k : Int), val, ep, vals, body) = q) := fun q h => HLE.out q (by rw [if_neg (by simp), if_neg (by simp), if_neg (by rintro (h | h); exact h rfl; exact h hve)]; exact h)
            have hcl := nums_canon HEXT.out
            have hasc := nums_asc HEXT.out
            have hmem := mem_nums HEXT.out
            have hub := (union_canon HEXT.out).2.1
            have hk4 : (l[k].length : Int) ≤ 4096 := by
              have h2 := HEXT.out
              unfold extE at h2
              split at h2 <;> omega
            have hcan : ∀ e ∈ p, 0 ≤ e.1 ∧ 0 < e.2 ∧ e.1 + e.2 ≤ 4096 := fun e he => by have := hub e he; omega
            have HND := Lib.hid (refNodes_any P pc p.length p w7 rfl ((HP.out w7 hb07).more (fun g hg => mo hb07 hg)) hpl hcan (by omega))
            obtain ⟨ns, hns⟩ : ∃ ns, numsL p = ns := ⟨_, rfl⟩
            rw [hns] at hcl hasc hmem HND
            have HLE2' : Hid (∀ q, (if body.length ≠ 8 * ns.length then (3 : Int) else 0) = q → learnE ((s, lf, l), p, (k : Int), [], sent, false) (14, fr, tt, (k : Int), val, ep, vals, body) = q) := by rw [← hns]; exact HLE2.out
            have HNS := Lib.hid hns
            have HASC := Lib.hid hasc
            have HMEM := Lib.hid hmem
            clear HLE2 HLE hns hasc hmem hcan hve HEQ
            obtain ⟨p0, p1, p2, p3, p4, p5, p6, p7, pf⟩ := blk8 (HALL.out w7 hb07).1
            go_wp2_with fail
            refine HND.out.mono ?_
            rintro e w8 ⟨N, nc, rfl, hn1, hn2', hN, hb8⟩
            rw [toI_len] at hn1 ⊢
            have hz7 := hb07.size
            have hb08 : Below n2 W0 w8 := hb07.trans (hb8.mono (by omega))
            clear p0 p1 p2 p3 p4 p5 p6 p7 pf
            obtain ⟨e0, e1, e2, e3, e4, e5, e6, e7, _⟩ := blk8 (HALL.out w8 hb08).2.1
            by_cases hbn : body.length = 8 * ns.length
            · have HE0 : Hid (learnE ((s, lf, l), p, (k : Int), [], sent, false) (14, fr, tt, (k : Int), val, ep, vals, body) = 0) := HLE2'.out 0 (by rw [if_neg (by omega)])
              have hne : ((body.length : Int) != 8 * (ns.length : Int)) = false := by simp only [bne_eq_false_iff_eq]; omega
              have HSL := Lib.hid (fun W (hb : Below n2 W0 W) => (H1.out W hb).sl hk)
              have hlev : Hid (levT (s, lf, l) (k : Int) = l[k]) := levT_at hk
              obtain ⟨row, hrow⟩ : ∃ row, l[k] = row := ⟨_, rfl⟩
              rw [hrow] at hlev HMEM hk4
              have HROW := Lib.hid hrow
              have HIS : Hid (learnD ((s, lf, l), p, (k : Int), [], sent, false) (14, fr, tt, (k : Int), val, ep, vals, body) = dfr row body ns) := by
                rw [Hid]; unfold learnD; simp only; rw [hlev.out, HNS.out]
              obtain ⟨nD, hnD⟩ : ∃ nD, w8.heap.size = nD := ⟨_, rfl⟩
              have hz8 := hb8.size
              have hz08 := hb08.size
              have hnD2 : n2 ≤ nD := by omega
              have HN8 := Lib.hid (hN.more (S' := fun g => g < nD) (fun g hg => by have := hg.2; omega))
              have HB08 := Lib.hid hb08
              have HND2 := Lib.hid hnD
              have hb8b : Hid (∀ x ∈ body, 0 ≤ x ∧ x < 256) := fun x hx => by
                obtain ⟨q, hq, rfl⟩ := List.mem_iff_getElem.1 hx
                obtain ⟨_, _, _, _, _, h0, h1⟩ := (HBD.out w8 hb08).u8 hq
                exact ⟨h0, h1⟩
              have HBN := Lib.hid hbn
              clear hrow hN hnD hb8 hz8 hbn
              go_wp2_with fail
              clear e0 e1 e2 e3 e4 e5 e6 e7 hne
              go_loopw [10, 11] (fun v i wr => ∃ (j : Nat) (B : Option Addr) (ec : Nat) (out : List Int), j ≤ ns.length ∧ i = .int .i64 j ∧ v = .slice B out.length ec ∧ Hid (Below nD w8 wr) ∧ Hid (out = toI (dfr row body (ns.take j))) ∧ Hid (OwnX (fun _ => False) encInt wr nD 3 (.slice B out.length ec) out)) (fun _ i _ => ns.length - (intOf i).toNat)
              case atStart => exact ⟨0, none, 0, [], by omega, rfl, rfl, Below.refl _ _, by simp [Hid, dfr, toI], OwnX.nil_⟩
              case round =>
                obtain ⟨wo, rfl⟩ : ∃ wo : World, wo = wr := ⟨_, rfl⟩
                obtain ⟨i, B, ec, out, hi, rfl, rfl, hB, hout, hown⟩ := hrel
                have hzo : nD ≤ wo.heap.size := by have := hB.out.size; have := HND2.out; omega
                have hb0o : Below n2 W0 wo := HB08.out.trans (hB.out.mono (by omega))
                have hol : out.length ≤ 4096 := by
                  have h := dfr_len row (ns.take i) body
                  rw [hout.out, toI_len]
                  rw [List.length_take] at h
                  omega
                by_cases hlt : i < ns.length
                · have hii : (i : Int) < ns.length := by omega
                  have hi0 : (0 : Int) ≤ i := by omega
                  have hlt' : i < (toI ns).length := by rw [toI_len]; exact hlt
                  obtain ⟨bN, oN, rfl, hbN, gN, _⟩ := (HN8.out.blk (w' := wo) (fun g hg => hB.out.block g hg)).int hlt'
                  rw [toI_at hlt] at gN
                  have hxr := HMEM.out ns[i] (List.getElem_mem hlt)
                  obtain ⟨b2, off2, D, dc, rfl, hb2', g0, hD, hd1, hd2⟩ := HSL.out wo hb0o
                  rw [HROW.out] at g0 hD hd1
                  have hxl : ns[i] < row.length := by omega
                  obtain ⟨bD, oD, rfl, hbD, gD, d0, d1⟩ := hD.u64 hxl
                  have hgd : row.getD ns[i] 0 = row[ns[i]] := by rw [List.getD_eq_getElem?_getD, List.getElem?_eq_getElem hxl]; rfl
                  have hst := dfr_step (lev := row) (body := body) hlt hb8b.out (by have := HBN.out; omega) (by rw [hgd]; exact ⟨d0, d1⟩)
                  rw [hgd] at hst
                  obtain ⟨d, hd⟩ : ∃ d, row[ns[i]] = d := ⟨_, rfl⟩
                  rw [hd] at gD d0 d1 hst
                  obtain ⟨x, hx⟩ : ∃ x, ns[i] = x := ⟨_, rfl⟩
                  rw [hx] at hxr gN hst
                  have gD' : wo.cell? ⟨bD, oD + x, none⟩ = some (.int .u64 d) := by rw [← hx]; exact gD
                  have hxl' : x < row.length := by rw [← hx]; exact hxl
                  have HST := Lib.hid hst
                  have HDG := Lib.hid (fun W (hb : Below n2 W0 W) => digest44_any Bd bc body.length i body W (Bl n0) rfl (HBD.out W hb) (by have := HBN.out; omega) hbl)
                  obtain ⟨dg, hdg⟩ : ∃ dg, digP body (8 * i) 8 = dg := ⟨_, rfl⟩
                  rw [hdg] at HDG hst
                  rw [hdg] at HST
                  have hx0 : (0 : Int) ≤ x := by omega
                  have hxi : (x : Int) < row.length := by omega
                  have hki : (k : Int) < l.length := by omega
                  have hk0 : (0 : Int) ≤ k := by omega
                  have hb2w : b2 < wo.heap.size := by have := HS0.out b2 hb2'; omega
                  have hbDw : bD < wo.heap.size := by have := HS0.out bD hbD; omega
                  have hbNw : bN < wo.heap.size := by have : bN < nD := hbN; omega
                  have HC : Hid (∀ W, Below wo.heap.size wo W → (W.cell? ⟨n0 + 1, 7, none⟩ = some (.slice Bd body.length bc) ∧ W.cell? ⟨n0, 2, none⟩ = some (.slice (some ⟨b2, off2, none⟩) l.length c) ∧ W.cell? ⟨n0, 4, none⟩ = some (.int .i64 (k : Int))) ∧ W.cell? ⟨b2, off2 + k, none⟩ = some (.slice (some ⟨bD, oD, none⟩) row.length dc) ∧ W.cell? ⟨bN, oN + i, none⟩ = some (.int .i64 (x : Int)) ∧ W.cell? ⟨bD, oD + x, none⟩ = some (.int .u64 d)) := fun W hb => by
                    have hb0 := hb0o.trans (hb.mono (by omega))
                    obtain ⟨_, _, a2, _, a4, _⟩ := blk8 (HALL.out W hb0).1
                    obtain ⟨_, _, _, _, _, _, _, a7, _⟩ := blk8 (HALL.out W hb0).2.1
                    exact ⟨⟨a7, a2, a4⟩, (World.cell?_of_block (hb.block b2 hb2w)).trans g0, (World.cell?_of_block (hb.block bN hbNw)).trans gN, (World.cell?_of_block (hb.block bD hbDw)).trans gD'⟩
                  have hSw : Below wo.heap.size wo wo.drew := (Below.refl _ _).drew
                  clear hst hx hd hgd gN g0 gD gD' hD hxl
                  go_upto_region 18 with (fail)
                  refine wp_region_U (fun W' => Below wo.heap.size wo W') 18 (by kernel_rfl) ?_
                  refine wpAnyU_takeD (i := 0) (v := ?_) rfl rfl (by kernel_rfl) (by kernel_rfl) (by kernel_rfl) (by kernel_rfl) (fun _ _ _ h => h) (by rfl) ?_ hSw ?_
                  rotate_left 1
                  · intro W9 hW9
                    try dsimp only at hW9
                    obtain ⟨⟨k0, k1, k2⟩, k3, k4, k5⟩ := HC.out W9 hW9
                    go_simp
                    try with_reducible rfl
                  try simp only [List.setIfInBounds_toArray, List.set_cons_zero, List.set_cons_succ]
                  refine wpAnyU_takeD (i := 1) (v := ?_) rfl rfl (by kernel_rfl) (by kernel_rfl) (by kernel_rfl) (by kernel_rfl) (fun _ _ _ h => h) (by rfl) ?_ hSw ?_
                  rotate_left 1
                  · intro W9 hW9
                    try dsimp only at hW9
                    obtain ⟨⟨k0, k1, k2⟩, k3, k4, k5⟩ := HC.out W9 hW9
                    go_simp
                    try with_reducible rfl
                  try simp only [List.setIfInBounds_toArray, List.set_cons_zero, List.set_cons_succ]
                  refine wpAnyU_takeD (i := 2) (v := ?_) rfl rfl (by kernel_rfl) (by kernel_rfl) (by kernel_rfl) (by kernel_rfl) (fun _ _ _ h => h) (by rfl) ?_ hSw ?_
                  rotate_left 1
                  · intro W9 hW9
                    try dsimp only at hW9
                    obtain ⟨⟨k0, k1, k2⟩, k3, k4, k5⟩ := HC.out W9 hW9
                    go_simp
                    try with_reducible rfl
                  try simp only [List.setIfInBounds_toArray, List.set_cons_zero, List.set_cons_succ]
                  refine wpAnyU_takeD (i := 4) (v := ?_) rfl rfl (by kernel_rfl) (by kernel_rfl) (by kernel_rfl) (by kernel_rfl) (fun _ _ _ h => h) (by rfl) ?_ hSw ?_
                  rotate_left 1
                  · intro W9 hW9
                    try dsimp only at hW9
                    obtain ⟨⟨k0, k1, k2⟩, k3, k4, k5⟩ := HC.out W9 hW9
                    go_simp
                    try with_reducible rfl
                  try simp only [List.setIfInBounds_toArray, List.set_cons_zero, List.set_cons_succ]
                  refine wpAnyU_takeD (i := 5) (v := ?_) rfl rfl (by kernel_rfl) (by kernel_rfl) (by kernel_rfl) (by kernel_rfl) (fun _ _ _ h => h) (by rfl) ?_ hSw ?_
                  rotate_left 1
                  · intro W9 hW9
                    try dsimp only at hW9
                    obtain ⟨⟨k0, k1, k2⟩, k3, k4, k5⟩ := HC.out W9 hW9
                    go_simp
                    try with_reducible rfl
                  try simp only [List.setIfInBounds_toArray, List.set_cons_zero, List.set_cons_succ]
                  refine wpAnyU_takeD (i := 6) (v := ?_) rfl rfl (by kernel_rfl) (by kernel_rfl) (by kernel_rfl) (by kernel_rfl) (fun _ _ _ h => h) (by rfl) ?_ hSw ?_
                  rotate_left 1
                  · intro W9 hW9
                    try dsimp only at hW9
                    obtain ⟨⟨k0, k1, k2⟩, k3, k4, k5⟩ := HC.out W9 hW9
                    go_simp
                    try with_reducible rfl
                  try simp only [List.setIfInBounds_toArray, List.set_cons_zero, List.set_cons_succ]
                  refine wpAnyU_takeD (i := 7) (v := ?_) rfl rfl (by kernel_rfl) (by kernel_rfl) (by kernel_rfl) (by kernel_rfl) (fun _ _ _ h => h) (by rfl) ?_ hSw ?_
                  rotate_left 1
                  · intro W9 hW9
                    try dsimp only at hW9
                    obtain ⟨⟨k0, k1, k2⟩, k3, k4, k5⟩ := HC.out W9 hW9
                    go_simp
                    try with_reducible rfl
                  try simp only [List.setIfInBounds_toArray, List.set_cons_zero, List.set_cons_succ]
                  refine wpAnyU_takeD (i := 8) (v := ?_) rfl rfl (by kernel_rfl) (by kernel_rfl) (by kernel_rfl) (by kernel_rfl) (fun _ _ _ h => h) (by rfl) ?_ hSw ?_
                  rotate_left 1
                  · intro W9 hW9
                    try dsimp only at hW9
                    obtain ⟨⟨k0, k1, k2⟩, k3, k4, k5⟩ := HC.out W9 hW9
                    go_simp
                    try with_reducible rfl
                  try simp only [List.setIfInBounds_toArray, List.set_cons_zero, List.set_cons_succ]
                  refine wpAnyU_takeD (i := 9) (v := ?_) rfl rfl (by kernel_rfl) (by kernel_rfl) (by kernel_rfl) (by kernel_rfl) (fun _ _ _ h => h) (by rfl) ?_ hSw ?_
                  rotate_left 1
                  · intro W9 hW9
                    try dsimp only at hW9
                    obtain ⟨⟨k0, k1, k2⟩, k3, k4, k5⟩ := HC.out W9 hW9
                    go_simp
                    try with_reducible rfl
                  try simp only [List.setIfInBounds_toArray, List.set_cons_zero, List.set_cons_succ]
                  refine wpAnyU_takeD (i := 10) (v := ?_) rfl rfl (by kernel_rfl) (by kernel_rfl) (by kernel_rfl) (by kernel_rfl) (fun _ _ _ h => h) (by rfl) ?_ hSw ?_
                  rotate_left 1
                  · intro W9 hW9
                    try dsimp only at hW9
                    obtain ⟨⟨k0, k1, k2⟩, k3, k4, k5⟩ := HC.out W9 hW9
                    go_simp
                    try with_reducible rfl
                  try simp only [List.setIfInBounds_toArray, List.set_cons_zero, List.set_cons_succ]
                  refine wpAnyU_takeD (i := 11) (v := ?_) rfl rfl (by kernel_rfl) (by kernel_rfl) (by kernel_rfl) (by kernel_rfl) (fun _ _ _ h => h) (by rfl) ?_ hSw ?_
                  rotate_left 1
                  · intro W9 hW9
                    try dsimp only at hW9
                    obtain ⟨⟨k0, k1, k2⟩, k3, k4, k5⟩ := HC.out W9 hW9
                    go_simp
                    try with_reducible rfl
                  try simp only [List.setIfInBounds_toArray, List.set_cons_zero, List.set_cons_succ]
                  refine wpAnyU_takeD (i := 12) (v := ?_) rfl rfl (by kernel_rfl) (by kernel_rfl) (by kernel_rfl) (by kernel_rfl) (fun _ _ _ h => h) (by rfl) ?_ hSw ?_
                  rotate_left 1
                  · intro W9 hW9
                    try dsimp only at hW9
                    obtain ⟨⟨k0, k1, k2⟩, k3, k4, k5⟩ := HC.out W9 hW9
                    go_simp
                    try with_reducible rfl
                  try simp only [List.setIfInBounds_toArray, List.set_cons_zero, List.set_cons_succ]
                  refine wpAnyU_takeD (i := 13) (v := ?_) rfl rfl (by kernel_rfl) (by kernel_rfl) (by kernel_rfl) (by kernel_rfl) (fun _ _ _ h => h) (by rfl) ?_ hSw ?_
                  rotate_left 1
                  · intro W9 hW9
                    try dsimp only at hW9
                    obtain ⟨⟨k0, k1, k2⟩, k3, k4, k5⟩ := HC.out W9 hW9
                    go_simp
                    try with_reducible rfl
                  try simp only [List.setIfInBounds_toArray, List.set_cons_zero, List.set_cons_succ]
                  refine wpAnyU_takeD (i := 14) (v := ?_) rfl rfl (by kernel_rfl) (by kernel_rfl) (by kernel_rfl) (by kernel_rfl) (fun _ _ _ h => h) (by rfl) ?_ hSw ?_
                  rotate_left 1
                  · intro W9 hW9
                    try dsimp only at hW9
                    obtain ⟨⟨k0, k1, k2⟩, k3, k4, k5⟩ := HC.out W9 hW9
                    go_simp
                    try with_reducible rfl
                  try simp only [List.setIfInBounds_toArray, List.set_cons_zero, List.set_cons_succ]
                  refine wpAnyU_takeD (i := 15) (v := ?_) rfl rfl (by kernel_rfl) (by kernel_rfl) (by kernel_rfl) (by kernel_rfl) (fun _ _ _ h => h) (by rfl) ?_ hSw ?_
                  rotate_left 1
                  · intro W9 hW9
                    try dsimp only at hW9
                    obtain ⟨⟨k0, k1, k2⟩, k3, k4, k5⟩ := HC.out W9 hW9
                    go_simp
                    try with_reducible rfl
                  try simp only [List.setIfInBounds_toArray, List.set_cons_zero, List.set_cons_succ]
                  refine wpAnyU_takeD (i := 16) (v := ?_) rfl rfl (by kernel_rfl) (by kernel_rfl) (by kernel_rfl) (by kernel_rfl) (fun _ _ _ h => h) (by rfl) ?_ hSw ?_
                  rotate_left 1
                  · intro W9 hW9
                    try dsimp only at hW9
                    obtain ⟨⟨k0, k1, k2⟩, k3, k4, k5⟩ := HC.out W9 hW9
                    go_simp
                    try with_reducible rfl
                  try simp only [List.setIfInBounds_toArray, List.set_cons_zero, List.set_cons_succ]
                  refine wpAnyU_op (i := 3) (by kernel_rfl) rfl rfl (fun K hK => ?_)
                  go_wp2_with fail
                  refine ((HDG.out _ hb0o.drew)).mono ?_
                  rintro e w3 ⟨rfl, hb3'⟩; have hb3 : Below wo.heap.size wo w3 := bUn (hb3'.below _)
                  refine hK.out _ _ (fun _ => hb3) ?_
                  clear hK K
                  try simp only [Act.put, List.setIfInBounds_toArray, List.set_cons_zero, List.set_cons_succ]
                  refine wpAnyU_op (i := 17) (by kernel_rfl) rfl rfl (fun K hK => ?_)
                  go_simp
                  refine hK.out _ _ (fun _ => hb3) ?_
                  clear hK K
                  try simp only [Act.put, List.setIfInBounds_toArray, List.set_cons_zero, List.set_cons_succ]
                  refine wpAnyU_done (by kernel_rfl) ?_ _
                  have hB3 : Below nD w8 w3 := hB.out.trans (hb3.mono (by omega))
                  have hown3 := hown.out.below hb3
                  by_cases hq : dg = d
                  · have hqb : (dg != d) = false := by simp [hq]
                    have hst2 : Hid (dfr row body (ns.take (i + 1)) = dfr row body (ns.take i)) := by rw [Hid, HST.out, if_pos hq, List.append_nil]
                    have hO3 := Lib.hid hown3
                    clear hown3 hq
                    go_wp2_with fail
                    go_roundw
                    case rel => exact ⟨i + 1, B, ec, out, hlt, by go_num, rfl, hB3, by rw [Hid, hst2.out, hout.out], hO3.out⟩
                    case measure => simp [intOf]; omega
                  · have hqb : (dg != d) = true := by simp [hq]
                    have hst2 : Hid (dfr row body (ns.take (i + 1)) = dfr row body (ns.take i) ++ [x]) := by rw [Hid, HST.out, if_neg hq]
                    obtain ⟨_, _, k4, _⟩ := HC.out w3 hb3
                    have hlt5 := hown3.lt
                    have hz3 := hb3.size
                    have HO5 := Lib.hid (hown3.alloc (.cells #[.int .i64 (x : Int)] 3))
                    have HO5o := Lib.hid HO5.out.1
                    have HRD : Hid (encInt.rd (w3.alloc (.cells #[.int .i64 (x : Int)] 3)) (fun b => Nw nD (w3.alloc (.cells #[.int .i64 (x : Int)] 3)).heap.size b ∧ ¬ (fun _ => False) b ∧ (Value.slice B out.length ec).ownBlock ≠ some b) [.int .i64 (x : Int)] (x : Int)) := ⟨rfl, by unfold I64; omega⟩
                    have HB3 := Lib.hid hB3
                    clear hown3 hq hB3
                    go_wp2_with (at_builtin; refine Hid.out ?_)
                    change wpList _ _ _ _ _ _
                    refine wpList_app1 (E := encInt) tyInts44 rfl _ _ rfl rfl HO5o.out (x : Int) [.int .i64 (x : Int)] rfl HRD.out (heap_alloc_new _ _) (fun _ h => h.1.2) (by simp; omega) (by unfold maxLen; omega) (by omega) ?_
                    intro A' c' w5 hown5 hg5 hat5
                    have hO7 := Lib.hid (HO5.out.app hown5 hg5 hat5 (fun g h => h.elim))
                    have hB7 : Hid (Below nD w8 w5) := (HB3.out.alloc (by omega) (.cells #[.int .i64 (x : Int)] 3)).grown hg5 (by simp; omega) (fun g h => (hlt5 g h).1)
                    clear hown5 hg5 hat5 hlt5 k4
                    go_wp2_with fail
                    go_roundw
                    case rel =>
                      refine ⟨i + 1, A', c', out ++ [(x : Int)], hlt, by go_num, by simp, hB7.out, ?_, ?_⟩
                      · rw [Hid, hst2.out, toI_snoc, hout.out]
                      · have := hO7.out; simpa [Hid] using this
                    case measure => simp [intOf]; omega
                · have hii : i = ns.length := by omega
                  subst hii
                  have hng : ¬ (ns.length : Int) < ns.length := by omega
                  obtain ⟨is, his⟩ : ∃ is, dfr row body ns = is := ⟨_, rfl⟩
                  have hE1 : Hid (out = toI is) := by rw [Hid, hout.out, List.take_length, his]
                  have hisA : Hid (is.Pairwise (· < ·)) := by rw [Hid, ← his]; exact HASC.out.sublist dfr_sub
                  have hisM : Hid (∀ i ∈ is, i < row.length) := fun i hi => by have := HMEM.out i (dfr_mem i (by rw [his]; exact hi)); omega
                  rw [his] at HIS
                  obtain ⟨_, o1, o2, o3⟩ := hown.out.parts
                  have hLo : Hid (out.length = is.length) := by rw [Hid, hE1.out, toI_len]
                  obtain ⟨n', m', rfl, rfl, tk⟩ := checkT_TOk HCK.out
                  obtain ⟨hlk, _, _, hlk4⟩ := tk.at_ k hk
                  rw [HROW.out] at hlk
                  have HLK := Lib.hid hlk
                  have HO3 : Hid (SlAt encInt wo (Nw nD wo.heap.size) B (toI is)) := by rw [← hE1.out]; exact o3.more (fun g hg => hg.1)
                  obtain ⟨bx, hbx⟩ : ∃ bx, wo.heap.size = bx := ⟨_, rfl⟩
                  rw [hbx] at HO3
                  obtain ⟨W3, hW3⟩ : ∃ W3, wo.alloc (.cells #[.int .i64 (n' : Int), .int .i64 (m' : Int), .slice A l.length c, .slice none 0 0, .int .i64 0, .slice none 0 0, .int .i64 (sent + (ns.length : Int)), .bool false] 27) = W3 := ⟨_, rfl⟩
                  have hb3 : Below bx wo W3 := by rw [← hW3, ← hbx]; exact ext_alloc (Below.refl _ _)
                  have hr3 : W3.heap[bx]? = some (.cells #[.int .i64 (n' : Int), .int .i64 (m' : Int), .slice A l.length c, .slice none 0 0, .int .i64 0, .slice none 0 0, .int .i64 (sent + (ns.length : Int)), .bool false] 27 (0, 0)) := by rw [← hW3, ← hbx]; exact heap_alloc_new _ _
                  have hz3 : bx < W3.heap.size := by rw [← hW3, ← hbx]; simp
                  have hbxn : n2 ≤ bx := by omega
                  have hbxD : nD ≤ bx := by omega
                  have hb03 : Below n2 W0 W3 := hb0o.trans (hb3.mono hbxn)
                  have HD3 : Hid (∀ W, Below bx W3 W → SlAt encInt W (fun g => nD ≤ g ∧ g < bx) B (toI is)) := fun W hb => (HO3.out.blk (fun g hg => (hb.block g hg.2).trans (hb3.block g hg.2))).more (fun g hg => hg)
                  have hwr : IntKind.i64.wrap (sent + (ns.length : Int)) = sent + (ns.length : Int) := IntWalk.i64_in _ (by omega)
                  obtain ⟨p0, p1, p2, p3, p4, p5, p6, p7, pf⟩ := blk8 (HALL.out wo hb0o).1
                  have HW3 := Lib.hid hW3
                  have HR3 := Lib.hid hr3
                  clear hW3 hr3 hown hout his hlk o3 hb3
                  go_upto_region 21 with (fail)
                  rw [HW3.out]
                  clear p0 p1 p2 p3 p4 p5 p6 p7 pf hbx
                  obtain ⟨p0, p1, p2, p3, p4, p5, p6, p7, pf⟩ := blk8 (HALL.out W3 hb03).1
                  obtain ⟨a0, a1, a2, a3, a4, a5, a6, a7, af⟩ := blk8 HR3.out
                  obtain ⟨W4, hW4⟩ : ∃ W4, W3.setCell ⟨bx, 7, none⟩ (.bool true) = W4 := ⟨_, rfl⟩
                  have hr4 : Hid (W4.heap[bx]? = some (.cells #[.int .i64 (n' : Int), .int .i64 (m' : Int), .slice A l.length c, .slice none 0 0, .int .i64 0, .slice none 0 0, .int .i64 (sent + (ns.length : Int)), .bool true] 27 (0, 0))) := by
                    rw [Hid, ← hW4]; simp [World.setCell, Array.getElem?_modify, HR3.out]
                  have hb34 : Below bx W3 W4 := by rw [← hW4]; exact (Below.refl bx W3).setCell (p := ⟨bx, 7, none⟩) (Nat.le_refl _) _
                  have hb04 : Below n2 W0 W4 := hb03.trans (hb34.mono hbxn)
                  by_cases hkz : k = 0
                  · subst hkz
                    have hlf : ∀ i ∈ is, i < leavesN n' m' := fun i hi => by have h1 := hisM.out i hi; rw [HLK.out] at h1; exact h1
                    obtain ⟨r, hr⟩ : ∃ r, extsL (is.map (leafE n' m')) = r := ⟨_, rfl⟩
                    have hEX := refExts_any n' m' out.length ec B is W4 (by rw [← hE1.out]) tk.n2 ⟨tk.m1, tk.m2⟩ hisA.out hlf ((HD3.out W4 hb34).more (fun g hg => by have := hb34.size; have := hg.2; show g < W4.heap.size; omega)) hol
                    rw [hr] at hEX
                    have HEX := Lib.hid hEX
                    have HLW : Hid (learnW (((n' : Int), (m' : Int), l), p, ((0 : Nat) : Int), [], sent, false) (14, fr, tt, ((0 : Nat) : Int), val, ep, vals, body) = (((n' : Int), (m' : Int), l), [], 0, r, sent + (ns.length : Int), true)) := by
                      obtain ⟨q1, q2⟩ := leaf_exts tk.n2 tk.m1 hisA.out hlf
                      rw [Hid, learnW, if_neg (by rw [HE0.out]; simp), if_pos (by simp), HIS.out, ← hr, ← opL_exts q1 q2]
                      simp only
                      rw [HNS.out]; rfl
                    have HLM : Hid (learnM (((n' : Int), (m' : Int), l), p, ((0 : Nat) : Int), [], sent, false) (14, fr, tt, ((0 : Nat) : Int), val, ep, vals, body) = []) := by
                      rw [Hid, learnM, if_neg (by rw [HE0.out]; simp), if_pos (Or.inl (by simp))]
                    obtain ⟨pp0, pp1, pp2, pp3, pp4, pp5, pp6, pp7, _⟩ := blk8 (HALL.out W4 hb04).1
                    clear hr hEX hlf
                    go_wp2_with fail
                    refine HEX.out.mono ?_
                    rintro e w5 ⟨F2, fc2, rfl, f1, f2, hF2, hb5⟩
                    have hr5 := (hb5.block bx (by have := hb34.size; omega)).trans hr4.out
                    have hz4 := hb34.size
                    clear hW4 p0 p1 p2 p3 p4 p5 p6 p7 pf a0 a1 a2 a3 a4 a5 a6 a7 af pp0 pp1 pp2 pp3 pp4 pp5 pp6 pp7
                    obtain ⟨a0, a1, a2, a3, a4, a5, a6, a7, af⟩ := blk8 hr5
                    obtain ⟨W6, hW6⟩ : ∃ W6, w5.setCell ⟨bx, 5, none⟩ (.slice F2 r.length fc2) = W6 := ⟨_, rfl⟩
                    have hr6 : Hid (W6.heap[bx]? = some (.cells #[.int .i64 (n' : Int), .int .i64 (m' : Int), .slice A l.length c, .slice none 0 0, .int .i64 0, .slice F2 r.length fc2, .int .i64 (sent + (ns.length : Int)), .bool true] 27 (0, 0))) := by
                      rw [Hid, ← hW6]; simp [World.setCell, Array.getElem?_modify, hr5]
                    have hb06 : Below n2 W0 W6 := by
                      rw [← hW6]
                      exact (hb04.trans (hb5.mono (by omega))).setCell (p := ⟨bx, 5, none⟩) (by show n2 ≤ bx; omega) _
                    have hz6 : W6.heap.size = w5.heap.size := by rw [← hW6]; simp [World.setCell]
                    have ho6 : ∀ g, g ≠ bx → W6.heap[g]? = w5.heap[g]? := fun g hg => by rw [← hW6]; exact heap_setCell_other _ ⟨bx, 5, none⟩ g _ hg
                    have HF2 : Hid (SlAt encExt W6 (fun g => (S g ∨ w.heap.size ≤ g) ∧ g < W6.heap.size ∧ g ≠ n0 + 1 + 1) F2 r) := (hF2.blk (fun g hg => ho6 g (by have := hg.1; omega))).more (fun g hg => ⟨Or.inr (by have := hg.1; have := HN0.out; omega), by have := hg.2; omega, by have := hg.1; omega⟩)
                    have hz6' : w5.heap.size ≤ W6.heap.size := by omega
                    have HW6 := Lib.hid hW6
                    clear hF2 hb5 hz6 ho6 hW6
                    go_upto_region 25 with (fail)
                    rw [HW6.out]
                    clear a0 a1 a2 a3 a4 a5 a6 a7 af hr5
                    have hrow' := Lib.hid ((HALL.out W6 hb06).2.2.1)
                    have hBw' := Lib.hid ((HALL.out W6 hb06).2.2.2)
                    have hAA := Lib.hid (H1.out W6 hb06)
                    have hzW := hb06.size
                    obtain ⟨z0, z1, z2, z3, z4, z5, z6, z7, zf⟩ := blk8 hrow'.out
                    obtain ⟨a0, a1, a2, a3, a4, a5, a6, a7, _⟩ := blk8 hr6.out
                    go_wp2_with fail
                    rw [HLW.out, HLM.out, HE0.out]
                    have hv : WkVal W6 (fun g => (S g ∨ w.heap.size ≤ g) ∧ g < W6.heap.size ∧ g ≠ n0 + 1 + 1) (((n' : Int), (m' : Int), l), [], 0, r, sent + (ns.length : Int), true) (.agg #[.int .i64 (n' : Int), .int .i64 (m' : Int), .slice A l.length c, .slice none 0 0, .int .i64 0, .slice F2 r.length fc2, .int .i64 (sent + (ns.length : Int)), .bool true]) :=
                      ⟨A, c, none, 0, F2, fc2, rfl, ⟨hc.1, hc.2, hAA.out.more (fun g hg => ⟨Or.inl hg, by have := HS0.out g hg; omega, by have := HS0.out g hg; omega⟩)⟩, ⟨Nat.zero_le _, Nat.zero_le _, SlAt.nil_⟩, ⟨f1, f2, HF2.out⟩, hI.1, hI.2.1, i64_small 0 (by omega), i64_small _ (by simp only; omega)⟩
                    have hend := wk_endS (w := w) (S := S) (u0 := (.int .i64 (n' : Int))) (u1 := (.int .i64 (m' : Int))) (u2 := (.slice A l.length c)) (u3 := (.slice none 0 0)) (u4 := (.int .i64 0)) (u5 := (.slice F2 r.length fc2)) (u6 := (.int .i64 (sent + (ns.length : Int)))) (u7 := (.bool true)) hrow'.out (by omega) hBw'.out hv (B := none) (n := 0) (bc := 0) (rfl : ([] : List Msg).length = 0) ⟨Nat.le_refl 0, Nat.zero_le _, SlAt.nil_⟩ 0
                    obtain ⟨hz, hret⟩ := hend
                    change bodyPost _ _ _ _ _ (set8 W6 (n0 + 1 + 1) (.int .i64 (n' : Int)) (.int .i64 (m' : Int)) (.slice A l.length c) (.slice none 0 0) (.int .i64 0) (.slice F2 r.length fc2) (.int .i64 (sent + (ns.length : Int))) (.bool true))
                    generalize set8 W6 (n0 + 1 + 1) (.int .i64 (n' : Int)) (.int .i64 (m' : Int)) (.slice A l.length c) (.slice none 0 0) (.int .i64 0) (.slice F2 r.length fc2) (.int .i64 (sent + (ns.length : Int))) (.bool true) = W3 at hz hret ⊢
                    obtain ⟨z0, z1, z2, z3, z4, z5, z6, z7, _⟩ := blk8 hz
                    refine bodyPost_ret (v := .tuple #[.agg #[(.int .i64 (n' : Int)), (.int .i64 (m' : Int)), (.slice A l.length c), (.slice none 0 0), (.int .i64 0), (.slice F2 r.length fc2), (.int .i64 (sent + (ns.length : Int))), (.bool true)], .slice none 0 0, .int .i64 0]) ?_ rfl ?_
                    · simp [results, Try.results25, Try.f25, go_sem, z0, z1, z2, z3, z4, z5, z6, z7]
                    exact hret
                  · obtain ⟨k', hkk⟩ : ∃ k', k = k' + 1 := ⟨k - 1, by omega⟩
                    have HKK := Lib.hid hkk
                    have hk0 : ¬ ((k : Int) = 0) := by omega
                    have hkb : ((k : Int) == 0) = false := by rw [beq_eq_false_iff_ne]; exact hk0
                    by_cases his0 : is.length = 0
                    · clear hkk
                      have hisn : is = [] := List.eq_nil_of_length_eq_zero his0
                      have HLW : Hid (learnW (((n' : Int), (m' : Int), l), p, (k : Int), [], sent, false) (14, fr, tt, (k : Int), val, ep, vals, body) = (((n' : Int), (m' : Int), l), [], 0, [], sent + (ns.length : Int), true)) := by
                        rw [Hid, learnW, if_neg (by rw [HE0.out]; simp), if_neg hk0, if_pos (by rw [HIS.out]; exact hisn)]
                        simp only
                        rw [HNS.out]
                      have HLM : Hid (learnM (((n' : Int), (m' : Int), l), p, (k : Int), [], sent, false) (14, fr, tt, (k : Int), val, ep, vals, body) = []) := by
                        rw [Hid, learnM, if_neg (by rw [HE0.out]; simp), if_pos (Or.inr (by rw [HIS.out]; exact hisn))]
                      have hob : ((out.length : Int) == 0) = true := by rw [beq_iff_eq]; have := hLo.out; omega
                      obtain ⟨pp0, pp1, pp2, pp3, pp4, pp5, pp6, pp7, _⟩ := blk8 (HALL.out W4 hb04).1
                      clear hisn
                      go_upto_region 25 with (fail)
                      clear hW4 p0 p1 p2 p3 p4 p5 p6 p7 pf a0 a1 a2 a3 a4 a5 a6 a7 af pp0 pp1 pp2 pp3 pp4 pp5 pp6 pp7
                      have hrow' := Lib.hid ((HALL.out W4 hb04).2.2.1)
                      have hBw' := Lib.hid ((HALL.out W4 hb04).2.2.2)
                      have hAA := Lib.hid (H1.out W4 hb04)
                      have hzW := hb04.size
                      obtain ⟨z0, z1, z2, z3, z4, z5, z6, z7, zf⟩ := blk8 hrow'.out
                      obtain ⟨a0, a1, a2, a3, a4, a5, a6, a7, _⟩ := blk8 hr4.out
                      go_wp2_with fail
                      rw [HLW.out, HLM.out, HE0.out]
                      have hv : WkVal W4 (fun g => (S g ∨ w.heap.size ≤ g) ∧ g < W4.heap.size ∧ g ≠ n0 + 1 + 1) (((n' : Int), (m' : Int), l), [], 0, [], sent + (ns.length : Int), true) (.agg #[.int .i64 (n' : Int), .int .i64 (m' : Int), .slice A l.length c, .slice none 0 0, .int .i64 0, .slice none 0 0, .int .i64 (sent + (ns.length : Int)), .bool true]) :=
                        ⟨A, c, none, 0, none, 0, rfl, ⟨hc.1, hc.2, hAA.out.more (fun g hg => ⟨Or.inl hg, by have := HS0.out g hg; omega, by have := HS0.out g hg; omega⟩)⟩, ⟨Nat.zero_le _, Nat.zero_le _, SlAt.nil_⟩, ⟨Nat.zero_le _, Nat.zero_le _, SlAt.nil_⟩, hI.1, hI.2.1, i64_small 0 (by omega), i64_small _ (by simp only; omega)⟩
                      have hend := wk_endS (w := w) (S := S) (u0 := (.int .i64 (n' : Int))) (u1 := (.int .i64 (m' : Int))) (u2 := (.slice A l.length c)) (u3 := (.slice none 0 0)) (u4 := (.int .i64 0)) (u5 := (.slice none 0 0)) (u6 := (.int .i64 (sent + (ns.length : Int)))) (u7 := (.bool true)) hrow'.out (by omega) hBw'.out hv (B := none) (n := 0) (bc := 0) (rfl : ([] : List Msg).length = 0) ⟨Nat.le_refl 0, Nat.zero_le _, SlAt.nil_⟩ 0
                      obtain ⟨hz, hret⟩ := hend
                      change bodyPost _ _ _ _ _ (set8 W4 (n0 + 1 + 1) (.int .i64 (n' : Int)) (.int .i64 (m' : Int)) (.slice A l.length c) (.slice none 0 0) (.int .i64 0) (.slice none 0 0) (.int .i64 (sent + (ns.length : Int))) (.bool true))
                      generalize set8 W4 (n0 + 1 + 1) (.int .i64 (n' : Int)) (.int .i64 (m' : Int)) (.slice A l.length c) (.slice none 0 0) (.int .i64 0) (.slice none 0 0) (.int .i64 (sent + (ns.length : Int))) (.bool true) = W3 at hz hret ⊢
                      obtain ⟨z0, z1, z2, z3, z4, z5, z6, z7, _⟩ := blk8 hz
                      refine bodyPost_ret (v := .tuple #[.agg #[(.int .i64 (n' : Int)), (.int .i64 (m' : Int)), (.slice A l.length c), (.slice none 0 0), (.int .i64 0), (.slice none 0 0), (.int .i64 (sent + (ns.length : Int))), (.bool true)], .slice none 0 0, .int .i64 0]) ?_ rfl ?_
                      · simp [results, Try.results25, Try.f25, go_sem, z0, z1, z2, z3, z4, z5, z6, z7]
                      exact hret
                    · clear hW4 hr4 hb34 hb04
                      have hob : ((out.length : Int) == 0) = false := by rw [beq_eq_false_iff_ne]; have := hLo.out; omega
                      have hisn : is ≠ [] := fun h => his0 (by rw [h]; rfl)
                      obtain ⟨hlk', _, _, hlk4'⟩ := tk.at_ k' (by omega)
                      have hkl : k' < l.length := by omega
                      obtain ⟨rw', hrw'⟩ : ∃ rw', l[k'] = rw' := ⟨_, rfl⟩
                      rw [hrw'] at hlk'
                      obtain ⟨M, hM⟩ : ∃ M, rw'.length = M := ⟨_, rfl⟩
                      have hki : ∀ i ∈ is, 2 * i < M ∧ i ≤ 4096 := fun i hi => by have h := hisM.out i hi; have h2 := HLK.out; rw [hkk, nk_succ, ← hlk', hM] at h2; omega
                      have hM4 : M ≤ 4096 := by omega
                      have HKI := Lib.hid hki
                      have hlt : Hid (∀ j ∈ kids M is, j < 4096) := fun j hj => by
                        have h := kids_lt (n := M) (m := (M + 1) / 2) rfl (p := is) (fun i hi => by have := hki i hi; omega) j hj
                        omega
                      have hkasc : Hid ((kids M is).Pairwise (· < ·)) := kids_asc M hisA.out
                      have hklen : Hid ((kids M is).length ≤ 8192) := by have := kids_len M is; have h2 := hLo.out; rw [Hid]; omega
                      have hisl : is.length ≤ 4096 := by have := hLo.out; omega
                      have HSL2 : Hid (∀ W, Below n2 W0 W → ∃ b off D dc, A = some ⟨b, off, none⟩ ∧ W.cell? ⟨b, off + k', none⟩ = some (.slice D M dc)) := fun W hb => by
                        obtain ⟨b, off, D, dc, h1, _, h2, _⟩ := (H1.out W hb).sl hkl
                        rw [hrw', hM] at h2
                        exact ⟨b, off, D, dc, h1, h2⟩
                      obtain ⟨jl, hjl⟩ : ∃ jl, joinN (kids M is) = jl := ⟨_, rfl⟩
                      have HLW : Hid (learnW (((n' : Int), (m' : Int), l), p, (k : Int), [], sent, false) (14, fr, tt, (k : Int), val, ep, vals, body) = (((n' : Int), (m' : Int), l), jl, (k' : Int), [], sent + (ns.length : Int), false)) := by
                        have hlt : levT ((n' : Int), (m' : Int), l) ((k' : Int)) = rw' := by rw [levT_at hkl, hrw']
                        have hm1 : (k : Int) - 1 = (k' : Int) := by omega
                        rw [Hid, learnW, if_neg (by rw [HE0.out]; simp), if_neg hk0, if_neg (by rw [HIS.out]; exact hisn), HIS.out]
                        simp only
                        rw [hm1, hlt, hM, hjl, HNS.out]
                      have HLM : Hid (learnM (((n' : Int), (m' : Int), l), p, (k : Int), [], sent, false) (14, fr, tt, (k : Int), val, ep, vals, body) = [reqMsg (((n' : Int), (m' : Int), l), jl, (k' : Int), [], sent + (ns.length : Int), false)]) := by
                        rw [Hid, learnM, if_neg (by rw [HE0.out]; simp), if_neg (by rw [HIS.out]; intro h; rcases h with h | h; exact hk0 h; exact hisn h), HLW.out]
                      obtain ⟨W5, hW5⟩ : ∃ W5, W3.setCell ⟨bx, 4, none⟩ (.int .i64 ((k : Int) - 1)) = W5 := ⟨_, rfl⟩
                      have hr5 : Hid (W5.heap[bx]? = some (.cells #[.int .i64 (n' : Int), .int .i64 (m' : Int), .slice A l.length c, .slice none 0 0, .int .i64 (k' : Int), .slice none 0 0, .int .i64 (sent + (ns.length : Int)), .bool false] 27 (0, 0))) := by
                        have e : (k' : Int) = (k : Int) - 1 := by omega
                        rw [Hid, ← hW5, e]; simp [World.setCell, Array.getElem?_modify, HR3.out]
                      have hb35 : Below bx W3 W5 := by rw [← hW5]; exact (Below.refl bx W3).setCell (p := ⟨bx, 4, none⟩) (Nat.le_refl _) _
                      have hb05 : Below n2 W0 W5 := hb03.trans (hb35.mono hbxn)
                      obtain ⟨nK, hnK⟩ : ∃ nK, W5.heap.size = nK := ⟨_, rfl⟩
                      have hbK : bx < nK := by have := hb35.size; omega
                      have HD5 := Lib.hid (HD3.out W5 hb35)
                      have HB05 := Lib.hid hb05
                      have HNK := Lib.hid hnK
                      have HJL := Lib.hid hjl
                      have hHL := Lib.hid hLo.out
                      clear hkk hki hjl hisn hrw' hM hlk' hlk4' hb35 hb05 hnK
                      go_upto_region 28 with (fail)
                      clear hW5 p0 p1 p2 p3 p4 p5 p6 p7 pf a0 a1 a2 a3 a4 a5 a6 a7 af
                      go_wp2_with fail
                      go_loopw [13, 14] (fun v i wr => ∃ (j : Nat) (B : Option Addr) (ec : Nat) (bl : List Int), j ≤ is.length ∧ i = .int .i64 j ∧ v = .slice B bl.length ec ∧ Hid (Below nK W5 wr) ∧ Hid (bl = toI (kids M (is.take j))) ∧ Hid (OwnX (fun _ => False) encInt wr nK 3 (.slice B bl.length ec) bl)) (fun _ i _ => is.length - (intOf i).toNat)
                      case atStart => exact ⟨0, none, 0, [], by omega, rfl, rfl, Below.refl _ _, by simp [Hid, kids, toI], OwnX.nil_⟩
                      case round =>
                        obtain ⟨wo, rfl⟩ : ∃ wo : World, wo = wr := ⟨_, rfl⟩
                        obtain ⟨j, Bk, ekc, bl, hj, rfl, rfl, hB, hbl, hown⟩ := hrel
                        have HF : Hid (∀ W, Below nK W5 W → Below n2 W0 W ∧ W.heap[bx]? = some (.cells #[.int .i64 (n' : Int), .int .i64 (m' : Int), .slice A l.length c, .slice none 0 0, .int .i64 (k' : Int), .slice none 0 0, .int .i64 (sent + (ns.length : Int)), .bool false] 27 (0, 0)) ∧ SlAt encInt W (fun g => nD ≤ g ∧ g < bx) B (toI is) ∧ nK ≤ W.heap.size) := fun W hb =>
                          ⟨HB05.out.trans (hb.mono (by omega)), (hb.block bx hbK).trans hr5.out, HD5.out.blk (fun g hg => hb.block g (by have := hg.2; omega)), by have := hb.size; have := HNK.out; omega⟩
                        by_cases hlt2 : j < is.length
                        · have hji : (j : Int) < out.length := by have := hHL.out; omega
                          have hj0 : (0 : Int) ≤ j := by omega
                          have hlt' : j < (toI is).length := by rw [toI_len]; exact hlt2
                          obtain ⟨hb0w, hrx, hDw, hzw⟩ := HF.out wo hB.out
                          have HND5 := Lib.hid (fun W (hb : Below nK W5 W) => (HF.out W hb).2.2.1.int hlt')
                          obtain ⟨bB, oB, rfl, hbB, gB, _⟩ := HND5.out wo hB.out
                          obtain ⟨hx2, hx4⟩ := HKI.out is[j] (List.getElem_mem hlt2)
                          have hst := kids_take_succ M hlt2
                          have HGB : Hid (∀ W, Below nK W5 W → W.cell? ⟨bB, oB + j, none⟩ = some (.int .i64 (is[j] : Int))) := fun W hb => by
                            obtain ⟨b', o', he, _, g', _⟩ := HND5.out W hb
                            injection he with he
                            injection he with he1 he2
                            subst he1 he2
                            rw [toI_at hlt2] at g'
                            exact g'
                          have gB2 := HGB.out wo hB.out
                          have hkl0 := kids_len M (is.take j)
                          rw [List.length_take] at hkl0
                          obtain ⟨x, hx⟩ : ∃ x, is[j] = x := ⟨_, rfl⟩
                          rw [hx] at hx2 hx4 hst HGB gB2
                          have HST := Lib.hid hst
                          obtain ⟨y, hy⟩ : ∃ y, 2 * x = y := ⟨_, rfl⟩
                          have hyi : (2 : Int) * (x : Int) = (y : Int) := by omega
                          have hy8 : y ≤ 8192 := by omega
                          have hyM : y < M := by omega
                          rw [hy] at HST
                          have hbl0 : bl.length ≤ 8192 := by rw [hbl.out, toI_len]; omega
                          have HY := Lib.hid hy
                          clear gB hst hx hx2 hy hkl0 hDw hrx
                          go_wp2_with fail
                          clear gB2
                          go_loopw [13, 15] (fun v i wr => ∃ (t z : Nat) (B : Option Addr) (ec : Nat) (bl' : List Int), t ≤ 2 ∧ Hid (z = y + t) ∧ (t = 2 → y + 1 < M) ∧ i = .int .i64 (z : Int) ∧ v = .slice B bl'.length ec ∧ Hid (Below nK W5 wr) ∧ Hid (bl' = bl ++ toI ((List.range t).map fun q => y + q)) ∧ Hid (OwnX (fun _ => False) encInt wr nK 3 (.slice B bl'.length ec) bl')) (fun _ i _ => y + 2 - (intOf i).toNat)
                          case atStart => exact ⟨0, y, Bk, ekc, bl, by omega, rfl, by omega, rfl, rfl, hB.out, by simp [Hid, toI], hown.out⟩
                          case round =>
                            have HBL := hbl
                            clear hB hown hbl hb0w hzw
                            obtain ⟨wo, rfl⟩ : ∃ wo : World, wo = wr := ⟨_, rfl⟩
                            obtain ⟨t, z, Bk, ekc, bl', ht, hz, htM, rfl, rfl, hB, hbl, hown⟩ := hrel
                            obtain ⟨hb0w, hrx, hDw, hzw⟩ := HF.out wo hB.out
                            obtain ⟨p0, p1, p2, p3, p4, p5, p6, p7, pf⟩ := blk8 (HALL.out wo hb0w).1
                            obtain ⟨a0, a1, a2, a3, a4, a5, a6, a7, af⟩ := blk8 hrx
                            obtain ⟨b2, off2, D, dc, rfl, g2⟩ := HSL2.out wo hb0w
                            have gB2 := HGB.out wo hB.out
                            have hki : (k' : Int) < l.length := by omega
                            have hk0' : (0 : Int) ≤ k' := by omega
                            have hbl1 : bl'.length ≤ 8194 := by rw [hbl.out, List.length_append, toI_len, List.length_map, List.length_range]; omega
                            have hzz : z ≤ 8194 := by have := hz.out; omega
                            by_cases ht2 : t = 2
                            · have hstop : ¬ ((z : Int) ≤ (y : Int) + 1) := by have := hz.out; omega
                              have hy1 : y + 1 < M := htM ht2
                              have hfin : Hid (bl' = toI (kids M (is.take (j + 1)))) := by
                                rw [Hid, hbl.out, HBL.out, HST.out, if_pos hy1, ht2]
                                simp [toI, List.range_succ]
                              clear hrx hDw
                              go_wp2_with fail
                              go_roundw
                              case rel => exact ⟨j + 1, Bk, ekc, bl', hlt2, by go_num, rfl, hB.out, hfin.out, hown.out⟩
                              case measure => simp [intOf]; omega
                            · have hgo : (z : Int) ≤ (y : Int) + 1 := by have := hz.out; omega
                              by_cases hzM : z < M
                              · have hzMi : (z : Int) < M := by omega
                                have hbl2 : Hid (bl' ++ [(z : Int)] = bl ++ toI ((List.range (t + 1)).map fun q => y + q)) := by
                                  rw [Hid, hbl.out, hz.out, List.append_assoc]
                                  simp [toI, List.range_succ]
                                have hzI : I64 (z : Int) := by unfold I64; omega
                                have hlt5 := hown.out.lt
                                have HO5 := Lib.hid (hown.out.alloc (.cells #[.int .i64 (z : Int)] 3))
                                have HO5o := Lib.hid HO5.out.1
                                have HRD : Hid (encInt.rd (wo.alloc (.cells #[.int .i64 (z : Int)] 3)) (fun b => Nw nK (wo.alloc (.cells #[.int .i64 (z : Int)] 3)).heap.size b ∧ ¬ (fun _ => False) b ∧ (Value.slice Bk bl'.length ekc).ownBlock ≠ some b) [.int .i64 (z : Int)] (z : Int)) := ⟨rfl, hzI⟩
                                clear hrx hDw
                                go_wp2_with (at_builtin; refine Hid.out ?_)
                                change wpList _ _ _ _ _ _
                                refine wpList_app1 (E := encInt) tyInts44 rfl _ _ rfl rfl HO5o.out (z : Int) [.int .i64 (z : Int)] rfl HRD.out (heap_alloc_new _ _) (fun _ h => h.1.2) (by simp; omega) (by unfold maxLen; omega) (by omega) ?_
                                intro A' c' w5 hown5 hg5 hat5
                                have hO7 := Lib.hid (HO5.out.app hown5 hg5 hat5 (fun g h => h.elim))
                                have hB7 : Hid (Below nK W5 w5) := (hB.out.alloc (by omega) (.cells #[.int .i64 (z : Int)] 3)).grown hg5 (by simp; omega) (fun g h => (hlt5 g h).1)
                                clear hown5 hg5 hat5 hlt5 p0 p1 p2 p3 p4 p5 p6 p7 pf a0 a1 a2 a3 a4 a5 a6 a7 af g2 gB2
                                go_wp2_with fail
                                go_roundw
                                case rel =>
                                  refine ⟨t + 1, z + 1, A', c', bl' ++ [(z : Int)], by omega, by rw [Hid, hz.out]; omega, fun h => by have := hz.out; omega, by go_num, by simp, hB7.out, hbl2.out, ?_⟩
                                  have := hO7.out; simpa [Hid] using this
                                case measure => have := hz.out; simp [intOf]; omega
                              · have hzMi : ¬ (z : Int) < M := by omega
                                have hfin : Hid (bl' = toI (kids M (is.take (j + 1)))) := by
                                  have ht1 : t = 1 := by have := hz.out; omega
                                  rw [Hid, hbl.out, HBL.out, HST.out, if_neg (by have := hz.out; omega), ht1]
                                  simp [toI, List.range_succ]
                                clear hrx hDw
                                go_wp2_with fail
                                go_roundw
                                case rel => exact ⟨j + 1, Bk, ekc, bl', hlt2, by go_num, rfl, hB.out, hfin.out, hown.out⟩
                                case measure => simp [intOf]; omega
                        · have hjj : j = is.length := by omega
                          subst hjj
                          have hjj : ¬ ((is.length : Int) < out.length) := by have := hHL.out; omega
                          obtain ⟨hb0w, hrx, _, hzw⟩ := HF.out wo hB.out
                          have hE2 : Hid (bl = toI (kids M is)) := by rw [Hid, hbl.out, List.take_length]
                          obtain ⟨_, e1, e2, e3⟩ := hown.out.parts
                          have HEX := Lib.hid (refExtents_any bl.length ekc Bk (kids M is) wo (by rw [← hE2.out]) hkasc.out hlt.out (by rw [← hE2.out]; exact e3.more (fun g hg => hg.1.2)) (by rw [hE2.out, toI_len]; exact hklen.out))
                          rw [HJL.out] at HEX
                          have hjll : jl.length ≤ 8192 := by rw [← HJL.out]; have := joinN_len (kids M is); have := hklen.out; omega
                          have hzo6 := HNK.out
                          have hrxw := Lib.hid hrx
                          clear e3 hrx
                          go_wp2_with fail
                          refine HEX.out.mono ?_
                          rintro e w5 ⟨P2, pc2, rfl, f1, f2, hP2, hb5⟩
                          have hbxw : bx < wo.heap.size := by omega
                          have hr6 := (hb5.block bx hbxw).trans hrxw.out
                          obtain ⟨a0, a1, a2, a3, a4, a5, a6, a7, af⟩ := blk8 hr6
                          have hz5 := hb5.size
                          obtain ⟨W6, hW6⟩ : ∃ W6, w5.setCell ⟨bx, 3, none⟩ (.slice P2 jl.length pc2) = W6 := ⟨_, rfl⟩
                          have hr7 : W6.heap[bx]? = some (.cells #[.int .i64 (n' : Int), .int .i64 (m' : Int), .slice A l.length c, .slice P2 jl.length pc2, .int .i64 (k' : Int), .slice none 0 0, .int .i64 (sent + (ns.length : Int)), .bool false] 27 (0, 0)) := by
                            rw [← hW6]; simp [World.setCell, Array.getElem?_modify, hr6]
                          have ho6 : ∀ g, g ≠ bx → W6.heap[g]? = w5.heap[g]? := fun g hg => by rw [← hW6]; exact heap_setCell_other _ ⟨bx, 3, none⟩ g _ hg
                          have hz6 : W6.heap.size = w5.heap.size := by rw [← hW6]; simp [World.setCell]
                          have hb06 : Below n2 W0 W6 := by
                            rw [← hW6]
                            exact (hb0w.trans (hb5.mono (by omega))).setCell (p := ⟨bx, 3, none⟩) (by show n2 ≤ bx; omega) _
                          have HP6 : Hid (SlAt encExt W6 (fun g => bx < g ∧ g < W6.heap.size) P2 jl) := (hP2.blk (fun g hg => ho6 g (by have := hg.1; omega))).more (fun g hg => ⟨by have := hg.1; omega, by rw [hz6]; exact hg.2⟩)
                          have hQB : n0 + 1 + 1 < W6.heap.size := by omega
                          have hQB0 : w.heap.size ≤ n0 + 1 + 1 := by have := HN0.out; omega
                          have hbXx : bx < W6.heap.size := by omega
                          have hneX : bx ≠ n0 + 1 + 1 := by omega
                          have HRWX := Lib.hid (fun W (hb : BelX (n0 + 1 + 1) W6 W) => (hb bx hbXx hneX).trans hr7)
                          have HROW := Lib.hid ((HALL.out W6 hb06).2.2.1)
                          have HBQ := Lib.hid ((HALL.out W6 hb06).2.2.2)
                          have HREQ := Lib.hid (refReq_any (n' : Int) (m' : Int) (k' : Int) (sent + (ns.length : Int)) false A P2 none l.length c jl.length pc2 0 0 jl W6.drew rfl (by omega) ⟨hI.1, hI.2.1⟩ ((HP6.out.blk (w' := W6.drew) (fun _ _ => rfl)).more (fun g hg => by show g < W6.heap.size; exact hg.2)))
                          have HAQ := Lib.hid (H1.out W6 hb06)
                          have hi1 : I64 (k' : Int) := i64_small _ (by omega)
                          have hi2 : I64 (sent + (ns.length : Int)) := i64_small _ (by omega)
                          have hz06 := hb06.size
                          have HV3 : Hid (∀ w3, Below W6.heap.size W6 w3 → WkVal w3 (fun g => (S g ∨ w.heap.size ≤ g) ∧ g < w3.heap.size ∧ g ≠ n0 + 1 + 1) (((n' : Int), (m' : Int), l), jl, (k' : Int), [], sent + (ns.length : Int), false) (.agg #[.int .i64 (n' : Int), .int .i64 (m' : Int), .slice A l.length c, .slice P2 jl.length pc2, .int .i64 (k' : Int), .slice none 0 0, .int .i64 (sent + (ns.length : Int)), .bool false])) := fun w3 hb => by
                            have hz := hb.size
                            have hn := HN0.out
                            exact ⟨A, c, P2, pc2, none, 0, rfl, ⟨hc.1, hc.2, (HAQ.out.blk (fun g hg => hb.block g (by have := HS0.out g hg; omega))).more (fun g hg => ⟨Or.inl hg, by have := HS0.out g hg; omega, by have := HS0.out g hg; omega⟩)⟩, ⟨f1, f2, (HP6.out.blk (fun g hg => hb.block g hg.2)).more (fun g hg => ⟨Or.inr (by have := hg.1; omega), by have := hg.2; omega, by have := hg.1; omega⟩)⟩, ⟨Nat.zero_le _, Nat.zero_le _, SlAt.nil_⟩, hI.1, hI.2.1, hi1, hi2⟩
                          have HW6 := Lib.hid hW6
                          clear hW6 hr7 ho6 hP2 hb5
                          go_upto_region 36 with (fail)
                          rw [HW6.out]
                          clear a0 a1 a2 a3 a4 a5 a6 a7 af hr6 hz6
                          have hSw : BelX (n0 + 1 + 1) W6 W6.drew := fun _ _ _ => rfl
                          refine wp_region_U (fun W' => BelX (n0 + 1 + 1) W6 W') 7 (by kernel_rfl) ?_
                          refine wpAnyU_takeD (i := 0) (v := ?_) rfl rfl (by kernel_rfl) (by kernel_rfl) (by kernel_rfl) (by kernel_rfl) (fun _ _ _ h => h) (by rfl) ?_ hSw ?_
                          rotate_left 1
                          · intro W9 hW9
                            try dsimp only at hW9
                            obtain ⟨k0, k1, k2, k3, k4, k5, k6, k7, _⟩ := blk8 (HRWX.out W9 hW9)
                            go_simp
                            try with_reducible rfl
                          try simp only [List.setIfInBounds_toArray, List.set_cons_zero, List.set_cons_succ]
                          obtain ⟨k0, k1, k2, k3, k4, k5, k6, k7, _⟩ := blk8 (HRWX.out _ hSw)
                          refine wpAnyU_op (i := 1) (by kernel_rfl) rfl rfl (fun K hK => ?_)
                          go_simp
                          refine hK.out _ _ (fun _ => hSw) ?_
                          clear hK K
                          try simp only [Act.put, List.setIfInBounds_toArray, List.set_cons_zero, List.set_cons_succ]
                          clear k0 k1 k2 k3 k4 k5 k6 k7
                          refine wpAnyU_op (i := 2) (by kernel_rfl) rfl rfl (fun K hK => ?_)
                          go_wp2_with fail
                          refine (HREQ.out).mono ?_
                          rintro e w3 ⟨V, vc, rfl, ⟨v1, v2, v3⟩, hb3'⟩; have hb3 : Below W6.heap.size W6 w3 := bUn hb3'
                          refine hK.out _ _ (fun _ => (belX_of hb3)) ?_
                          clear hK K
                          try simp only [Act.put, List.setIfInBounds_toArray, List.set_cons_zero, List.set_cons_succ]
                          have hrr := (hb3.block (n0 + 1 + 1) hQB).trans HROW.out
                          obtain ⟨z0, z1, z2, z3, z4, z5, z6, z7, zf⟩ := blk8 hrr
                          have hsz3 := hb3.size
                          have hB3 : Below w.heap.size w w3 := HBQ.out.trans (hb3.mono HBQ.out.size)
                          have hend := wk_req_endS (w := w) (S := S) hrr hQB0 hB3 (HV3.out w3 hb3) (V := V) (vc := vc) rfl ⟨v1, v2, v3.more (fun g hg => ⟨Nat.le_trans HBQ.out.size hg.1, hg.2, by have := hg.1; have h9 : W6.drew.heap.size = W6.heap.size := rfl; omega⟩)⟩
                          have HEND := Lib.hid hend
                          clear hend v3
                          have hbX : BelX (n0 + 1 + 1) W6 (set8 w3 (n0 + 1 + 1) (.int .i64 (n' : Int)) (.int .i64 (m' : Int)) (.slice A l.length c) (.slice P2 jl.length pc2) (.int .i64 (k' : Int)) (.slice none 0 0) (.int .i64 (sent + (ns.length : Int))) (.bool false)) := fun g h1 h2 => (set8_other h2 _ _ _ _ _ _ _ _).trans (hb3.block g h1)
                          have hs8 : (set8 w3 (n0 + 1 + 1) (.int .i64 (n' : Int)) (.int .i64 (m' : Int)) (.slice A l.length c) (.slice P2 jl.length pc2) (.int .i64 (k' : Int)) (.slice none 0 0) (.int .i64 (sent + (ns.length : Int))) (.bool false)).heap.size = w3.heap.size := set8_sz
                          have hsa := fun o => set8_alloc (w := w3) (o := o) (b := n0 + 1 + 1) (.int .i64 (n' : Int)) (.int .i64 (m' : Int)) (.slice A l.length c) (.slice P2 jl.length pc2) (.int .i64 (k' : Int)) (.slice none 0 0) (.int .i64 (sent + (ns.length : Int))) (.bool false) (by omega)
                          refine wpAnyU_two (i := 3) (j := 4) (by kernel_rfl) rfl rfl rfl rfl (fun K hK => ?_) (fun K hK => ?_)
                          · have hrr' := (Below.heap_alloc w3 (.cells #[.int .i64 13, .int .i64 0, .int .i64 0, .int .i64 (k' : Int), .int .i64 0, .int .i64 0, .slice V (reqL (n' : Int) (m' : Int) jl).length vc, .slice none 0 0] 45) (n0 + 1 + 1) (by omega)).trans hrr
                            go_simp
                            refine hK.out _ _ (fun _ => fun g h1 h2 => (Below.heap_alloc _ _ _ (by omega)).trans (hb3.block g h1)) ?_
                            clear hK K z0 z1 z2 z3 z4 z5 z6 z7 zf
                            obtain ⟨z0, z1, z2, z3, z4, z5, z6, z7, zf⟩ := blk8 hrr'
                            refine wpAnyU_op (i := 4) (by kernel_rfl) rfl rfl (fun K hK => ?_)
                            go_simp
                            refine hK.out _ _ (fun _ => fun g h1 h2 => (set8_other h2 _ _ _ _ _ _ _ _).trans ((Below.heap_alloc _ _ _ (by omega)).trans (hb3.block g h1))) ?_
                            clear hK K z0 z1 z2 z3 z4 z5 z6 z7 zf
                            change wpAnyU _ _ _ _ _ _ _ _ _ (set8 (w3.alloc (.cells #[.int .i64 13, .int .i64 0, .int .i64 0, .int .i64 (k' : Int), .int .i64 0, .int .i64 0, .slice V (reqL (n' : Int) (m' : Int) jl).length vc, .slice none 0 0] 45)) (n0 + 1 + 1) (.int .i64 (n' : Int)) (.int .i64 (m' : Int)) (.slice A l.length c) (.slice P2 jl.length pc2) (.int .i64 (k' : Int)) (.slice none 0 0) (.int .i64 (sent + (ns.length : Int))) (.bool false))
                            rw [hsa]
                            clear hsa hrr'
                            generalize set8 w3 (n0 + 1 + 1) (.int .i64 (n' : Int)) (.int .i64 (m' : Int)) (.slice A l.length c) (.slice P2 jl.length pc2) (.int .i64 (k' : Int)) (.slice none 0 0) (.int .i64 (sent + (ns.length : Int))) (.bool false) = W7 at HEND hs8 hbX ⊢
                            refine wpAnyU_op (i := 5) (by kernel_rfl) rfl rfl (fun K hK => ?_)
                            go_simp
                            refine hK.out _ _ (fun _ => (fun g h1 h2 => (Below.heap_alloc _ _ _ (by omega)).trans (hbX g h1 h2))) ?_
                            clear hK K
                            try simp only [Act.put, List.setIfInBounds_toArray, List.set_cons_zero, List.set_cons_succ]
                            refine wpAnyU_op (i := 6) (by kernel_rfl) rfl rfl (fun K hK => ?_)
                            go_simp
                            refine hK.out _ _ (fun _ => (fun g h1 h2 => (Below.heap_alloc _ _ _ (by omega)).trans (hbX g h1 h2))) ?_
                            clear hK K
                            try simp only [Act.put, List.setIfInBounds_toArray, List.set_cons_zero, List.set_cons_succ]
                            refine wpAnyU_done (by kernel_rfl) ?_ _
                            obtain ⟨hz, hret⟩ := HEND.out
                            generalize W7.alloc (.cells #[.int .i64 13, .int .i64 0, .int .i64 0, .int .i64 (k' : Int), .int .i64 0, .int .i64 0, .slice V (reqL (n' : Int) (m' : Int) jl).length vc, .slice none 0 0] 45) = W9 at hz hret ⊢
                            obtain ⟨z0, z1, z2, z3, z4, z5, z6, z7, _⟩ := blk8 hz
                            go_wp2_with fail
                            refine bodyPost_ret (v := .tuple #[.agg #[.int .i64 (n' : Int), .int .i64 (m' : Int), .slice A l.length c, .slice P2 jl.length pc2, .int .i64 (k' : Int), .slice none 0 0, .int .i64 (sent + (ns.length : Int)), .bool false], .slice (some ⟨w3.heap.size, 0, none⟩) 1 1, .int .i64 0]) ?_ rfl ?_
                            · simp [results, Try.results25, Try.f25, go_sem, z0, z1, z2, z3, z4, z5, z6, z7]
                            rw [HLW.out, HLM.out, HE0.out]; exact hret
                          · go_simp
                            refine hK.out _ _ (fun _ => hbX) ?_
                            clear hK K z0 z1 z2 z3 z4 z5 z6 z7 zf hsa
                            change wpAnyU _ _ _ _ _ _ _ _ _ (set8 w3 (n0 + 1 + 1) (.int .i64 (n' : Int)) (.int .i64 (m' : Int)) (.slice A l.length c) (.slice P2 jl.length pc2) (.int .i64 (k' : Int)) (.slice none 0 0) (.int .i64 (sent + (ns.length : Int))) (.bool false))
                            generalize set8 w3 (n0 + 1 + 1) (.int .i64 (n' : Int)) (.int .i64 (m' : Int)) (.slice A l.length c) (.slice P2 jl.length pc2) (.int .i64 (k' : Int)) (.slice none 0 0) (.int .i64 (sent + (ns.length : Int))) (.bool false) = W7 at HEND hs8 hbX ⊢
                            refine wpAnyU_op (i := 3) (by kernel_rfl) rfl rfl (fun K hK => ?_)
                            go_simp
                            refine hK.out _ _ (fun _ => (fun g h1 h2 => (Below.heap_alloc _ _ _ (by omega)).trans (hbX g h1 h2))) ?_
                            clear hK K
                            try simp only [Act.put, List.setIfInBounds_toArray, List.set_cons_zero, List.set_cons_succ]
                            try rw [hs8]
                            refine wpAnyU_op (i := 5) (by kernel_rfl) rfl rfl (fun K hK => ?_)
                            go_simp
                            refine hK.out _ _ (fun _ => (fun g h1 h2 => (Below.heap_alloc _ _ _ (by omega)).trans (hbX g h1 h2))) ?_
                            clear hK K
                            try simp only [Act.put, List.setIfInBounds_toArray, List.set_cons_zero, List.set_cons_succ]
                            refine wpAnyU_op (i := 6) (by kernel_rfl) rfl rfl (fun K hK => ?_)
                            go_simp
                            refine hK.out _ _ (fun _ => (fun g h1 h2 => (Below.heap_alloc _ _ _ (by omega)).trans (hbX g h1 h2))) ?_
                            clear hK K
                            try simp only [Act.put, List.setIfInBounds_toArray, List.set_cons_zero, List.set_cons_succ]
                            refine wpAnyU_done (by kernel_rfl) ?_ _
                            obtain ⟨hz, hret⟩ := HEND.out
                            generalize W7.alloc (.cells #[.int .i64 13, .int .i64 0, .int .i64 0, .int .i64 (k' : Int), .int .i64 0, .int .i64 0, .slice V (reqL (n' : Int) (m' : Int) jl).length vc, .slice none 0 0] 45) = W9 at hz hret ⊢
                            obtain ⟨z0, z1, z2, z3, z4, z5, z6, z7, _⟩ := blk8 hz
                            go_wp2_with fail
                            refine bodyPost_ret (v := .tuple #[.agg #[.int .i64 (n' : Int), .int .i64 (m' : Int), .slice A l.length c, .slice P2 jl.length pc2, .int .i64 (k' : Int), .slice none 0 0, .int .i64 (sent + (ns.length : Int)), .bool false], .slice (some ⟨w3.heap.size, 0, none⟩) 1 1, .int .i64 0]) ?_ rfl ?_
                            · simp [results, Try.results25, Try.f25, go_sem, z0, z1, z2, z3, z4, z5, z6, z7]
                            rw [HLW.out, HLM.out, HE0.out]; exact hret
            · have HE : Hid (learnE ((s, lf, l), p, (k : Int), [], sent, false) (14, fr, tt, (k : Int), val, ep, vals, body) = 3) := HLE2'.out 3 (by rw [if_pos hbn])
              have hne : ((body.length : Int) != 8 * (ns.length : Int)) = true := by rw [bne_iff_ne]; omega
              have hrow := Lib.hid ((HALL.out w8 hb08).2.2.1)
              have hBw := Lib.hid ((HALL.out w8 hb08).2.2.2)
              obtain ⟨z0, z1, z2, z3, z4, z5, z6, z7, zf⟩ := blk8 hrow.out
              go_wp2_with fail
              rw [(HZ.out 3 (by decide) HE.out).1, (HZ.out 3 (by decide) HE.out).2.1, HE.out]
              have hend := wk_endS (w := w) (S := S) (u0 := (.int .i64 0)) (u1 := (.int .i64 0)) (u2 := (.slice none 0 0)) (u3 := (.slice none 0 0)) (u4 := (.int .i64 0)) (u5 := (.slice none 0 0)) (u6 := (.int .i64 0)) (u7 := (.bool false)) hrow.out (by omega) hBw.out wkVal_zero (B := none) (n := 0) (bc := 0) (rfl : ([] : List Msg).length = 0) ⟨Nat.le_refl 0, Nat.zero_le _, SlAt.nil_⟩ 3
              obtain ⟨hz, hret⟩ := hend
              change bodyPost _ _ _ _ _ (set8 w8 (n0 + 1 + 1) (.int .i64 0) (.int .i64 0) (.slice none 0 0) (.slice none 0 0) (.int .i64 0) (.slice none 0 0) (.int .i64 0) (.bool false))
              generalize set8 w8 (n0 + 1 + 1) (.int .i64 0) (.int .i64 0) (.slice none 0 0) (.slice none 0 0) (.int .i64 0) (.slice none 0 0) (.int .i64 0) (.bool false) = W3 at hz hret ⊢
              obtain ⟨z0, z1, z2, z3, z4, z5, z6, z7, _⟩ := blk8 hz
              refine bodyPost_ret (v := .tuple #[.agg #[(.int .i64 0), (.int .i64 0), (.slice none 0 0), (.slice none 0 0), (.int .i64 0), (.slice none 0 0), (.int .i64 0), (.bool false)], .slice none 0 0, .int .i64 3]) ?_ rfl ?_
              · simp [results, Try.results25, Try.f25, go_sem, z0, z1, z2, z3, z4, z5, z6, z7]
              exact hret
        · have HE : Hid (learnE ((s, lf, l), p, (k : Int), [], sent, false) (14, fr, tt, num, val, ep, vals, body) = 22) := HLE.out 22 (by rw [if_neg (by simp), if_neg (by simp), if_pos (Or.inl hnum)])
          have hne : (num != (k : Int)) = true := by simp [hnum]
          have hrow := Lib.hid ((HALL.out W6 hb06).2.2.1)
          have hBw := Lib.hid ((HALL.out W6 hb06).2.2.2)
          obtain ⟨z0, z1, z2, z3, z4, z5, z6, z7, zf⟩ := blk8 hrow.out
          go_wp2_with fail
          rw [(HZ.out 22 (by decide) HE.out).1, (HZ.out 22 (by decide) HE.out).2.1, HE.out]
          have hend := wk_endS (w := w) (S := S) (u0 := (.int .i64 0)) (u1 := (.int .i64 0)) (u2 := (.slice none 0 0)) (u3 := (.slice none 0 0)) (u4 := (.int .i64 0)) (u5 := (.slice none 0 0)) (u6 := (.int .i64 0)) (u7 := (.bool false)) hrow.out (by omega) hBw.out wkVal_zero (B := none) (n := 0) (bc := 0) (rfl : ([] : List Msg).length = 0) ⟨Nat.le_refl 0, Nat.zero_le _, SlAt.nil_⟩ 22
          obtain ⟨hz, hret⟩ := hend
          change bodyPost _ _ _ _ _ (set8 W6 (n0 + 1 + 1) (.int .i64 0) (.int .i64 0) (.slice none 0 0) (.slice none 0 0) (.int .i64 0) (.slice none 0 0) (.int .i64 0) (.bool false))
          generalize set8 W6 (n0 + 1 + 1) (.int .i64 0) (.int .i64 0) (.slice none 0 0) (.slice none 0 0) (.int .i64 0) (.slice none 0 0) (.int .i64 0) (.bool false) = W3 at hz hret ⊢
          obtain ⟨z0, z1, z2, z3, z4, z5, z6, z7, _⟩ := blk8 hz
          refine bodyPost_ret (v := .tuple #[.agg #[(.int .i64 0), (.int .i64 0), (.slice none 0 0), (.slice none 0 0), (.int .i64 0), (.slice none 0 0), (.int .i64 0), (.bool false)], .slice none 0 0, .int .i64 22]) ?_ rfl ?_
          · simp [results, Try.results25, Try.f25, go_sem, z0, z1, z2, z3, z4, z5, z6, z7]
          exact hret
      · have HE : Hid (learnE ((s, lf, l), p, (k : Int), [], sent, false) (kind, fr, tt, num, val, ep, vals, body) = 1) := HLE.out 1 (by rw [if_neg (by simp), if_pos hk14])
        have hne : (kind != 14) = true := by simp [hk14]
        have hrow := Lib.hid ((HALL.out w1 hb1).2.2.1)
        have hBw := Lib.hid ((HALL.out w1 hb1).2.2.2)
        obtain ⟨z0, z1, z2, z3, z4, z5, z6, z7, zf⟩ := blk8 hrow.out
        go_wp2_with fail
        rw [(HZ.out 1 (by decide) HE.out).1, (HZ.out 1 (by decide) HE.out).2.1, HE.out]
        have hend := wk_endS (w := w) (S := S) (u0 := (.int .i64 0)) (u1 := (.int .i64 0)) (u2 := (.slice none 0 0)) (u3 := (.slice none 0 0)) (u4 := (.int .i64 0)) (u5 := (.slice none 0 0)) (u6 := (.int .i64 0)) (u7 := (.bool false)) hrow.out (by omega) hBw.out wkVal_zero (B := none) (n := 0) (bc := 0) (rfl : ([] : List Msg).length = 0) ⟨Nat.le_refl 0, Nat.zero_le _, SlAt.nil_⟩ 1
        obtain ⟨hz, hret⟩ := hend
        change bodyPost _ _ _ _ _ (set8 w1 (n0 + 1 + 1) (.int .i64 0) (.int .i64 0) (.slice none 0 0) (.slice none 0 0) (.int .i64 0) (.slice none 0 0) (.int .i64 0) (.bool false))
        generalize set8 w1 (n0 + 1 + 1) (.int .i64 0) (.int .i64 0) (.slice none 0 0) (.slice none 0 0) (.int .i64 0) (.slice none 0 0) (.int .i64 0) (.bool false) = W3 at hz hret ⊢
        obtain ⟨z0, z1, z2, z3, z4, z5, z6, z7, _⟩ := blk8 hz
        refine bodyPost_ret (v := .tuple #[.agg #[(.int .i64 0), (.int .i64 0), (.slice none 0 0), (.slice none 0 0), (.int .i64 0), (.slice none 0 0), (.int .i64 0), (.bool false)], .slice none 0 0, .int .i64 1]) ?_ rfl ?_
        · simp [results, Try.results25, Try.f25, go_sem, z0, z1, z2, z3, z4, z5, z6, z7]
        exact hret
  · have HE : Hid (learnE ((s, lf, l), p, lv, f, sent, done) (kind, fr, tt, num, val, ep, vals, body) = x) := by rw [Hid, learnE, if_pos (by rw [HX.out]; exact hx0), HX.out]
    have hrow := Lib.hid ((HALL.out w1 hb1).2.2.1)
    have hBw := Lib.hid ((HALL.out w1 hb1).2.2.2)
    obtain ⟨z0, z1, z2, z3, z4, z5, z6, z7, zf⟩ := blk8 hrow.out
    go_wp2_with fail
    rw [(HZ.out x hx0 HE.out).1, (HZ.out x hx0 HE.out).2.1, HE.out]
    have hend := wk_endS (w := w) (S := S) (u0 := (.int .i64 0)) (u1 := (.int .i64 0)) (u2 := (.slice none 0 0)) (u3 := (.slice none 0 0)) (u4 := (.int .i64 0)) (u5 := (.slice none 0 0)) (u6 := (.int .i64 0)) (u7 := (.bool false)) hrow.out (by omega) hBw.out wkVal_zero (B := none) (n := 0) (bc := 0) (rfl : ([] : List Msg).length = 0) ⟨Nat.le_refl 0, Nat.zero_le _, SlAt.nil_⟩ x
    obtain ⟨hz, hret⟩ := hend
    change bodyPost _ _ _ _ _ (set8 w1 (n0 + 1 + 1) (.int .i64 0) (.int .i64 0) (.slice none 0 0) (.slice none 0 0) (.int .i64 0) (.slice none 0 0) (.int .i64 0) (.bool false))
    generalize set8 w1 (n0 + 1 + 1) (.int .i64 0) (.int .i64 0) (.slice none 0 0) (.slice none 0 0) (.int .i64 0) (.slice none 0 0) (.int .i64 0) (.bool false) = W3 at hz hret ⊢
    obtain ⟨z0, z1, z2, z3, z4, z5, z6, z7, _⟩ := blk8 hz
    refine bodyPost_ret (v := .tuple #[.agg #[(.int .i64 0), (.int .i64 0), (.slice none 0 0), (.slice none 0 0), (.int .i64 0), (.slice none 0 0), (.int .i64 0), (.bool false)], .slice none 0 0, .int .i64 x]) ?_ rfl ?_
    · simp [results, Try.results25, Try.f25, go_sem, z0, z1, z2, z3, z4, z5, z6, z7]
    exact hret
end Go.Proofs.Ytjehedfdikdfpaa

/-
  The walk of the law CoalesceExchanges.
-/
import Derived.Test.YtfahbhjlkdcnpaaLa
import Derived.Test.YtfahbhjlkdcnpaaPl
import Derived.RegionTactic
import Derived.BigRegion
set_option linter.unusedVariables false
set_option linter.unusedSimpArgs false
set_option linter.unusedSectionVars false
set_option linter.unnecessarySimpa false
namespace Go.Proofs.Ytfahbhjlkdcnpaa
open Go.RowKit Go.ChangeMaps

/-- a whole write stored into an owned slice -/
theorem Own.storeW {w : World} {base g n c : Nat} {T : TypeId} {S : Nat → Prop} {l : List Wr} (h : Own encWr w base T S (.slice (some ⟨g, 0, none⟩) n c) l) {i : Nat} (hi : i < l.length) {v s : Int} {d : List Sec} {D : Option Addr} {dc : Nat}
    (h1 : I64 v) (h2 : I64 s) (h3 : d.length ≤ dc) (h4 : dc ≤ maxLen) (h5 : SlAt encSec w S D d) :
    Own encWr (((w.setCell ⟨g, i * 3, none⟩ (.int .i64 v)).setCell ⟨g, i * 3 + 1, none⟩ (.int .i64 s)).setCell ⟨g, i * 3 + 2, none⟩ (.slice D d.length dc)) base T S (.slice (some ⟨g, 0, none⟩) n c) (l.set i (v, s, d)) := by
  have hg : ¬ S g := by obtain ⟨_, _, _, h3⟩ := h; exact h3 g rfl
  have a1 : Own encWr (w.setCell ⟨g, i * 3, none⟩ (.int .i64 v)) base T S (.slice (some ⟨g, 0, none⟩) n c) (l.set i (v, l[i].2.1, l[i].2.2)) := by
    refine Own.stored (E := encWr) h (j := 0) hi (by decide) (.int .i64 v) (v, l[i].2.1, l[i].2.2) (fun cs hr => ?_)
    obtain ⟨D', c', rfl, k1, k2, k3, k4, k5⟩ := wr_cs hr
    exact wr_mk (x := (v, l[i].2.1, l[i].2.2)) h1 k2 k3 k4 k5
  have a2 : Own encWr ((w.setCell ⟨g, i * 3, none⟩ (.int .i64 v)).setCell ⟨g, i * 3 + 1, none⟩ (.int .i64 s)) base T S (.slice (some ⟨g, 0, none⟩) n c) (l.set i (v, s, l[i].2.2)) := by
    have := Own.stored (E := encWr) a1 (j := 1) (i := i) (by simpa using hi) (by decide) (.int .i64 s) (v, s, l[i].2.2) (fun cs hr => by
      obtain ⟨D', c', rfl, k1, k2, k3, k4, k5⟩ := wr_cs hr
      simp only [List.getElem_set_self] at k1 k2 k3 k4 k5 ⊢
      exact wr_mk (x := (v, s, l[i].2.2)) h1 h2 k3 k4 k5)
    rw [List.set_set] at this
    exact this
  have a3 := Own.stored (E := encWr) a2 (j := 2) (i := i) (by simpa using hi) (by decide) (.slice D d.length dc) (v, s, d) (fun cs hr => by
    obtain ⟨D', c', rfl, k1, k2, k3, k4, k5⟩ := wr_cs hr
    simp only [List.getElem_set_self] at k1 k2 k3 k4 k5 ⊢
    exact wr_mk (x := (v, s, d)) h1 h2 h3 h4 (h5.blk (fun b hb => (Below.heap_setCell _ _ _ _ (fun e => hg (by rw [show g = b from e.symm]; exact hb))).trans (Below.heap_setCell _ _ _ _ (fun e => hg (by rw [show g = b from e.symm]; exact hb))))))
  rw [List.set_set] at a3
  exact a3
theorem heap_set3 {w : World} {g b x y z : Nat} {u v t : Value} (h : b ≠ g) : (((w.setCell ⟨g, x, none⟩ u).setCell ⟨g, y, none⟩ v).setCell ⟨g, z, none⟩ t).heap[b]? = w.heap[b]? :=
  (Below.heap_setCell _ ⟨g, z, none⟩ _ _ h).trans ((Below.heap_setCell _ ⟨g, y, none⟩ _ _ h).trans (Below.heap_setCell _ ⟨g, x, none⟩ _ _ h))
def set6 (w : World) (g i : Nat) (v s : Int) (D : Option Addr) (n dc : Nat) (v' s' : Int) (D' : Option Addr) (n' dc' : Nat) : World :=
  ((((((w.setCell ⟨g, i * 3, none⟩ (.int .i64 v')).setCell ⟨g, i * 3 + 1, none⟩ (.int .i64 s')).setCell ⟨g, i * 3 + 2, none⟩ (.slice D' n' dc')).setCell ⟨g, (i + 1) * 3, none⟩ (.int .i64 v)).setCell ⟨g, (i + 1) * 3 + 1, none⟩ (.int .i64 s)).setCell ⟨g, (i + 1) * 3 + 2, none⟩ (.slice D n dc))
theorem set6_below {a w : World} {B g i : Nat} {v s : Int} {D : Option Addr} {n dc : Nat} {v' s' : Int} {D' : Option Addr} {n' dc' : Nat} (h : Below B a w) (hg : B ≤ g) : Below B a (set6 w g i v s D n dc v' s' D' n' dc').drew :=
  ((((((h.setCell (p := ⟨g, i * 3, none⟩) hg _).setCell (p := ⟨g, i * 3 + 1, none⟩) hg _).setCell (p := ⟨g, i * 3 + 2, none⟩) hg _).setCell (p := ⟨g, (i + 1) * 3, none⟩) hg _).setCell (p := ⟨g, (i + 1) * 3 + 1, none⟩) hg _).setCell (p := ⟨g, (i + 1) * 3 + 2, none⟩) hg _).drew
theorem own_drew {α : Type} {E : Enc α} {w : World} {base : Nat} {T : TypeId} {S : Nat → Prop} {v : Value} {l : List α} (h : Own E w base T S v l) : Own E w.drew base T S v l := Own.blk h (fun _ _ => rfl)
theorem Own.store2 {w : World} {base g n c : Nat} {T : TypeId} {S : Nat → Prop} {l : List Wr} (h : Own encWr w base T S (.slice (some ⟨g, 0, none⟩) n c) l) {i : Nat} (hi : i + 1 < l.length) {v s v' s' : Int} {d d' : List Sec} {D D' : Option Addr} {dc dc' : Nat}
    (h1 : I64 v) (h2 : I64 s) (h3 : d.length ≤ dc) (h4 : dc ≤ maxLen) (h5 : SlAt encSec w S D d) (h1' : I64 v') (h2' : I64 s') (h3' : d'.length ≤ dc') (h4' : dc' ≤ maxLen) (h5' : SlAt encSec w S D' d') :
    Own encWr (set6 w g i v s D d.length dc v' s' D' d'.length dc').drew base T S (.slice (some ⟨g, 0, none⟩) n c) ((l.set i (v', s', d')).set (i + 1) (v, s, d)) := by
  have hg : ¬ S g := by obtain ⟨_, _, _, h3⟩ := h; exact h3 g rfl
  have hT1 := h.storeW (i := i) (by omega) h1' h2' h3' h4' h5'
  have hk : ∀ b, S b → (((w.setCell ⟨g, i * 3, none⟩ (.int .i64 v')).setCell ⟨g, i * 3 + 1, none⟩ (.int .i64 s')).setCell ⟨g, i * 3 + 2, none⟩ (.slice D' d'.length dc')).heap[b]? = w.heap[b]? := fun b hb => heap_set3 (fun e => hg (e ▸ hb))
  have h6 := h5.blk hk
  have hi2 : i + 1 < (l.set i (v', s', d')).length := by rw [List.length_set]; exact hi
  have hT2 := Own.storeW hT1 (i := i + 1) hi2 h1 h2 h3 h4 h6
  have hT3 : Own encWr (set6 w g i v s D d.length dc v' s' D' d'.length dc') base T S (.slice (some ⟨g, 0, none⟩) n c) ((l.set i (v', s', d')).set (i + 1) (v, s, d)) := by
    unfold set6
    exact hT2
  exact own_drew hT3
theorem swap_list {α : Type} {l : List α} {i : Nat} {x y : α} (hi : i + 1 < l.length) (hx : x = l[i]'(by omega)) (hy : y = l[i + 1]) :
    (l.set i y).set (i + 1) x = l.take i ++ [y, x] ++ l.drop (i + 2) ∧ l = l.take i ++ [x, y] ++ l.drop (i + 2) := by
  have e : l = l.take i ++ [x, y] ++ l.drop (i + 2) := by
    have h1 : l.drop i = x :: y :: l.drop (i + 2) := by
      rw [List.drop_eq_getElem_cons (by omega), List.drop_eq_getElem_cons hi, hx, hy]
    conv => lhs; rw [← List.take_append_drop i l, h1]
    simp
  refine ⟨?_, e⟩
  have hl : (l.take i).length = i := by rw [List.length_take]; omega
  conv => lhs; rw [e]
  rw [List.append_assoc, List.set_append_right _ _ (by omega), List.set_append_right _ _ (by omega), hl, Nat.sub_self, show i + 1 - i = 1 from by omega]
  simp
theorem errOf_conv {α : Type} {f : α → Int} {l : List α} (h : errOf f l = 0) : ∀ x ∈ l, f x = 0 := by
  intro p hp
  rcases Decidable.em (f p = 0) with h0 | h0
  · exact h0
  · exfalso
    unfold errOf at h
    cases hf : l.find? (fun x => f x != 0) with
    | none => have := List.find?_eq_none.1 hf p hp; simp at this; exact h0 this
    | some q =>
      rw [hf] at h
      have h1 := List.find?_some hf
      simp only [Option.map_some, Option.getD_some] at h
      rw [h] at h1
      simp at h1
set_option maxHeartbeats 40000000 in
theorem exchanges_any (A : Option Addr) (c : Nat) (l : List Wr) (at_ : Int) (w : World) (h1 : SlAt encWr w (Bl w.heap.size) A l) (h2 : l.length ≤ c) (h3 : c ≤ maxLen) (ha : 0 ≤ at_) (hb : at_ < 256) :
    Calls Try.prog 5 #[.slice A l.length c, .int .u8 at_] w (LawRet w) := by
  have H1 : Hid (∀ w', Below w.heap.size w w' → SlAt encWr w' (Bl w.heap.size) A l) := fun w' hb => h1.below hb
  have H1' := Lib.hid h1; clear h1
  obtain ⟨q, HQ⟩ : ∃ q, Hid (fewL l = q) := ⟨_, Lib.hid rfl⟩
  have hl64 := max_len h2 h3
  by_cases hl2 : l.length < 2
  · have hl2' : decide ((l.length : Int) < 2) = true := by simp; omega
    go_enter Try.func5, Try.ntmps5
    go_wp2_with fail
    refine (fewX _ _ _ _ q HQ.out H1'.out hl64).mono ?_
    rintro e w' ⟨rfl, rfl⟩
    cases q with
    | false =>
      go_wp2_with fail
      refine (awake_any _).mono ?_
      rintro e w1 ⟨rfl, hb1⟩
      go_wp2
      go_ret
      exact ⟨rfl, hb1⟩
    | true =>
      go_wp2_with fail
      refine (awake_any _).mono ?_
      rintro e w1 ⟨rfl, hb1⟩
      go_wp2
      go_ret
      exact ⟨rfl, hb1⟩
  · go_enter Try.func5, Try.ntmps5
    go_wp2_with fail
    refine (fewX _ _ _ _ q HQ.out H1'.out hl64).mono ?_
    rintro e w' ⟨rfl, rfl⟩
    cases q with
    | false =>
      go_wp2_with fail
      refine (awake_any _).mono ?_
      rintro e w1 ⟨rfl, hb1⟩
      go_wp2
      go_ret
      exact ⟨rfl, hb1⟩
    | true =>
      obtain ⟨r, hr⟩ : ∃ r, Hid (foldL l = r) := ⟨_, Lib.hid rfl⟩
      obtain ⟨en, hen⟩ : ∃ en, Hid (errOf placedN l = en) := ⟨_, Lib.hid rfl⟩
      have hF := Lib.hid (fold_any A c l w' H1'.out hl64)
      rw [hr.out, hen.out] at hF
      go_wp2_with fail
      refine (hF.out.mono fun _ _ h => h.bl).mono ?_
      rintro e w1 ⟨A1, c1, rfl, hs1, hb1⟩
      have HS1 := Lib.hid hs1; clear hs1
      obtain ⟨i, hi, hil⟩ : ∃ i : Nat, Hid (at_ % ((l.length : Int) - 1) = (i : Int)) ∧ i + 1 < l.length := by
        have h4 := Int.emod_lt_of_pos at_ (show (0 : Int) < (l.length : Int) - 1 by omega)
        have h5 := Int.emod_nonneg at_ (show (l.length : Int) - 1 ≠ 0 by omega)
        refine ⟨(at_ % ((l.length : Int) - 1)).toNat, ?_, ?_⟩
        · rw [Hid]; omega
        · omega
      have hi0 : i < l.length := by omega
      obtain ⟨b, off, D, dc, rfl, hbb, g0, g1, g2, hD, hn1, hn2, hi1, hi2⟩ := (H1.out w1 hb1).wr (k := i) hi0
      obtain ⟨b', off', D', dc', he, hb', f0, f1, f2, hD', hm1, hm2, hj1, hj2⟩ := (H1.out w1 hb1).wr (k := i + 1) hil
      injection he with he
      injection he with he1 he2
      subst he1 he2
      obtain ⟨x, HX⟩ : ∃ x, Hid (x = l[i]'hi0) := ⟨_, Lib.hid rfl⟩
      obtain ⟨y, HY⟩ : ∃ y, Hid (y = l[i + 1]'hil) := ⟨_, Lib.hid rfl⟩
      rw [← HX.out] at g0 g1 g2 hD hn1 hi1 hi2
      rw [← HY.out] at f0 f1 f2 hD' hm1 hj1 hj2
      obtain ⟨v, s, d⟩ := x
      obtain ⟨v', s', d'⟩ := y
      simp only at g0 g1 g2 hD hn1 hi1 hi2 f0 f1 f2 hD' hm1 hj1 hj2
      have hbl1 : b < w1.heap.size := Nat.lt_of_lt_of_le hbb hb1.size
      have hii : (0 : Int) ≤ i := by omega
      have hii2 : (i : Int) < l.length := by omega
      have hii3 : (i : Int) + 1 < l.length := by omega
      have e1 : ((i : Int) + 1).toNat = i + 1 := by omega
      have hmod := hi.out
      go_wp2_with fail
      go_region
      · have hv : (((w1.alloc (.cells #[.int .i64 v, .int .i64 s, .slice D d.length dc] 35)).alloc (.cells #[.int .i64 v', .int .i64 s', .slice D' d'.length dc'] 35)).drew).heap[w1.heap.size]? = some (.cells #[.int .i64 v, .int .i64 s, .slice D d.length dc] 35 (0, 0)) := (Below.heap_alloc _ _ _ (by simp)).trans (heap_alloc_new _ _)
        have hw : (((w1.alloc (.cells #[.int .i64 v, .int .i64 s, .slice D d.length dc] 35)).alloc (.cells #[.int .i64 v', .int .i64 s', .slice D' d'.length dc'] 35)).drew).heap[w1.heap.size + 1]? = some (.cells #[.int .i64 v', .int .i64 s', .slice D' d'.length dc'] 35 (0, 0)) := heap_new2 _ _ _
        have hb2 : Below w1.heap.size w1 (((w1.alloc (.cells #[.int .i64 v, .int .i64 s, .slice D d.length dc] 35)).alloc (.cells #[.int .i64 v', .int .i64 s', .slice D' d'.length dc'] 35)).drew) := (by repeat (first | exact Below.refl _ _ | assumption | refine ext_alloc ?_ | refine ext_drew ?_ | refine ext_trans ?_ (by assumption)))
        have hsz2 : w1.heap.size + 2 ≤ (((w1.alloc (.cells #[.int .i64 v, .int .i64 s, .slice D d.length dc] 35)).alloc (.cells #[.int .i64 v', .int .i64 s', .slice D' d'.length dc'] 35)).drew).heap.size := by simp [World.drew]
        revert hv hw hb2 hsz2
        generalize ((w1.alloc (.cells #[.int .i64 v, .int .i64 s, .slice D d.length dc] 35)).alloc (.cells #[.int .i64 v', .int .i64 s', .slice D' d'.length dc'] 35)).drew = w2
        intro hv hw hb2 hsz2
        obtain ⟨v0, v1, v2, vf⟩ := blk3 hv
        obtain ⟨u0, u1, u2, uf⟩ := blk3 hw
        have HV := Lib.hid hv; have HW := Lib.hid hw; clear hv hw g0 g1 g2 f0 f1 f2 hmod
        have hB2 : Below w'.heap.size w' w2 := (by repeat (first | exact Below.refl _ _ | assumption | refine ext_alloc ?_ | refine ext_drew ?_ | refine ext_trans ?_ (by assumption)))
        by_cases hen0 : en = 0
        · have hen1 : (en != 0) = false := by simp [hen0]
          have HEN0 := Lib.hid hen0; clear hen0
          have HALL : Hid (∀ x ∈ l, placedN x = 0) := errOf_conv (hen.out.trans HEN0.out)
          obtain ⟨p1, p2, p3, p4, p5⟩ := placed_ok (HALL.out (v, s, d) (by rw [HX.out]; exact List.getElem_mem _))
          obtain ⟨q1, q2, q3, q4, q5⟩ := placed_ok (HALL.out (v', s', d') (by rw [HY.out]; exact List.getElem_mem _))
          simp only at p1 p2 p3 p4 p5 q1 q2 q3 q4 q5
          by_cases d1 : v = v'
          · have d1' : (v == v') = true := by simp [d1]
            have HD1 := Lib.hid d1; clear d1
            by_cases d2 : s < s' + (d'.length : Int)
            · have d2' : decide (s < s' + (d'.length : Int)) = true := by simp [d2]
              by_cases d3 : s' < s + (d.length : Int)
              · have d3' : decide (s' < s + (d.length : Int)) = true := by simp [d3]
                go_wp2_with fail
                refine (awake_any _).mono ?_
                rintro e w3 ⟨rfl, hb3⟩
                have hend : Below w'.heap.size w' w3 := (by repeat (first | exact Below.refl _ _ | assumption | refine ext_alloc ?_ | refine ext_drew ?_ | refine ext_trans ?_ (by assumption)))
                go_wp2
                go_ret
                exact ⟨rfl, hend⟩
              · have d3' : decide (s' < s + (d.length : Int)) = false := by simp; omega
                have hno : Hid (∀ V S, ¬ (hits (v, s, d) V S ∧ hits (v', s', d') V S)) := by rintro V S ⟨⟨_, b2, b3⟩, ⟨_, b5, b6⟩⟩; simp only at b2 b3 b5 b6; omega
                have hO : Own encWr (w2.alloc (.cells #[] 35)) w'.heap.size 35 (Bl w'.heap.size) (.slice (some ⟨w2.heap.size, 0, none⟩) 0 0) [] := Own.made (cur := #[]) hB2.size (by unfold maxLen; omega) rfl (fun h => by have : w2.heap.size < w'.heap.size := h; have := hB2.size; omega)
                have HO := Lib.hid hO; clear hO
                have hB3 : Below w'.heap.size w' (w2.alloc (.cells #[] 35)) := ext_alloc hB2
                have hsrc := Lib.hid (H1.out _ hB3)
                have hsz3 := hB2.size
                have hl40 := few_len HQ.out
                go_wp2_with (at_builtin; refine Hid.out ?_)
                change wpList _ _ _ _ _ _
                refine wpList_appAll (E := encWr) tyWrs rfl _ _ rfl rfl HO.out rfl rfl hsrc.out (fun g hg => Nat.lt_of_lt_of_le hg hB3.size) hB3.size (by unfold maxLen; simp; omega) (by simp; omega) ?_
                intro A5 c5 w5 hown5 hg5 hat5
                simp only [List.length_nil, Nat.zero_add, List.nil_append] at hown5
                have hB5 : Below w'.heap.size w' w5 := hB3.grown hg5 hB3.size (fun g hg => (HO.out.lt g hg).1)
                obtain ⟨g, csx, rfl, hbg, hgl, hnS, hcx, hfr, hrx⟩ := hown5.elem (i := i) hi0
                obtain ⟨g', csy, he, _, _, _, hcy, _, hry⟩ := hown5.elem (i := i + 1) hil
                injection he with he
                injection he with he _
                subst he
                obtain ⟨Dx, dcx, rfl, _⟩ := wr_cs hrx
                obtain ⟨Dy, dcy, rfl, _⟩ := wr_cs hry
                have x0 := hcx 0 _ rfl
                have x1 := hcx 1 _ rfl
                have x2 := hcx 2 _ rfl
                have y0 := hcy 0 _ rfl
                have y1 := hcy 1 _ rfl
                have y2 := hcy 2 _ rfl
                simp only [show encWr.size = 3 from rfl, Nat.add_zero] at x0 x1 x2 y0 y1 y2
                have hg5' : (w2.alloc (.cells #[] 35)).grownBy w5 (some w2.heap.size) := hg5
                have hv5 := (hg5'.block (w1.heap.size) (by simp; omega) (fun e => by injection e with e; omega)).trans ((Below.heap_alloc _ _ _ (by omega)).trans HV.out)
                have hw5 := (hg5'.block (w1.heap.size + 1) (by simp; omega) (fun e => by injection e with e; omega)).trans ((Below.heap_alloc _ _ _ (by omega)).trans HW.out)
                obtain ⟨k0, k1, k2, kf⟩ := blk3 hv5
                obtain ⟨m0, m1, m2, mf⟩ := blk3 hw5
                clear v0 v1 v2 vf u0 u1 u2 uf hcx hcy
                have hgw : w2.heap.size ≤ g := by
                  rcases hat5 with h | h
                  · have h' : some g = some w2.heap.size := h
                    injection h' with h'; omega
                  · have h' : some g = some (w2.alloc (.cells #[] 35)).heap.size := h
                    injection h' with h'; rw [h']; simp
                have hne1 : ¬ (w1.heap.size = g) := by omega
                have hne2 : ¬ (w1.heap.size + 1 = g) := by omega
                have hne3 : ¬ (g = w1.heap.size) := by omega
                have hne4 : ¬ (g = w1.heap.size + 1) := by omega
                have HOWN5 := Lib.hid hown5; clear hown5
                have hmod2 := hi.out
                go_wp2_with fail
                go_region
                have hS5 : Own encWr w5 w'.heap.size 35 (Bl w'.heap.size) (.slice (some ⟨g, 0, none⟩) l.length c5) l := HOWN5.out
                have hd5 : SlAt encSec w5 (Bl w'.heap.size) D d := hD.keep (fun p hp => World.cell?_of_block ((hB5.block _ hp).trans (hb1.block _ hp).symm)) (fun _ h => h)
                have hd5' : SlAt encSec w5 (Bl w'.heap.size) D' d' := hD'.keep (fun p hp => World.cell?_of_block ((hB5.block _ hp).trans (hb1.block _ hp).symm)) (fun _ h => h)
                have hT3 := Own.store2 hS5 hil hi1 hi2 hn1 hn2 hd5 hj1 hj2 hm1 hm2 hd5'
                obtain ⟨hsw1, hsw2⟩ := swap_list hil HX.out HY.out
                have hB15 : Below w1.heap.size w1 w5 := (ext_alloc (o := .cells #[] 35) hb2).grown hg5' (by simp; omega) (fun k hk => by injection hk with hk; omega)
                have hbg1 : w1.heap.size ≤ g := by omega
                have hB6 : Below w1.heap.size w1 (set6 w5 g i v s D d.length dc v' s' D' d'.length dc').drew := set6_below hB15 hbg1
                have hfs : foldS ((l.set i (v', s', d')).set (i + 1) (v, s, d)) = foldS l := by
                  conv => rhs; rw [hsw2]
                  rw [hsw1]
                  exact fold_swap hno.out
                have hmem : ∀ z ∈ (l.set i (v', s', d')).set (i + 1) (v, s, d), placedN z = 0 := by
                  intro z hz
                  rw [hsw1] at hz
                  refine HALL.out z ?_
                  rw [hsw2]
                  simp only [List.mem_append, List.mem_cons, List.not_mem_nil, or_false] at hz ⊢
                  rcases hz with (h | h | h) | h
                  · exact Or.inl (Or.inl h)
                  · exact Or.inl (Or.inr (Or.inr h))
                  · exact Or.inl (Or.inr (Or.inl h))
                  · exact Or.inr h
                change Exit.then _ _ _ _ (set6 w5 g i v s D d.length dc v' s' D' d'.length dc').drew
                clear x0 x1 x2 y0 y1 y2 k0 k1 k2 kf m0 m1 m2 mf hfr hsw1 hsw2 hmod2 hv5 hw5
                revert hT3 hB6
                generalize (set6 w5 g i v s D d.length dc v' s' D' d'.length dc').drew = w6
                intro hT3 hB6
                have hBB6 : Below w'.heap.size w' w6 := (by repeat (first | exact Below.refl _ _ | assumption | refine ext_alloc ?_ | refine ext_drew ?_ | refine ext_trans ?_ (by assumption)))
                have hrd := Own.rd0 hT3 (fun g hg => Nat.lt_of_lt_of_le hg hBB6.size)
                obtain ⟨l2, hl2'⟩ : ∃ l2, l2 = (l.set i (v', s', d')).set (i + 1) (v, s, d) := ⟨_, rfl⟩
                rw [← hl2'] at hrd hfs hmem
                have hlen2 : l2.length = l.length := by rw [hl2']; simp
                obtain ⟨A6, c6, he6, _, _, hsl6⟩ := hrd
                simp only [List.cons.injEq, Value.slice.injEq, and_true] at he6
                obtain ⟨e1, e2, e3⟩ := he6
                subst e1 e3
                have HSL := Lib.hid hsl6
                have HLEN := Lib.hid hlen2
                have HF2 : Hid (foldL l2 = r) := by
                  rw [Hid, ← hr.out, foldL, foldL, errOf_zero hmem, errOf_zero HALL.out, hfs]
                have HE2 := Lib.hid (errOf_zero hmem)
                clear hsl6 hlen2 hfs hmem hl2' e2 hT3
                go_wp2_with fail
                refine ((foldX _ _ _ l2 r HLEN.out HF2.out HE2.out w6 HSL.out hl64).mono fun _ _ h => h.bl).mono ?_
                rintro e w7 ⟨A7, c7, rfl, hs7, hb7⟩
                have HS7 := Lib.hid hs7; clear hs7
                go_wp2_with fail
                refine (sameX _ _ _ _ _ _ r r rfl rfl _ (HS1.out.2.2.fwd (by repeat (first | exact Below.refl _ _ | assumption | refine ext_alloc ?_ | refine ext_drew ?_ | refine ext_trans ?_ (by assumption)))) HS7.out.2.2 (max_len HS1.out.1 HS1.out.2.1) (max_len HS7.out.1 HS7.out.2.1) rfl).mono ?_
                rintro e w8 ⟨rfl, hb8⟩
                go_wp2_with fail
                refine (awake_any _).mono ?_
                rintro e w9 ⟨rfl, hb9⟩
                have hend : Below w'.heap.size w' w9 := (by repeat (first | exact Below.refl _ _ | assumption | refine ext_alloc ?_ | refine ext_drew ?_ | refine ext_trans ?_ (by assumption)))
                clear hB6 hBB6 hb7 hb8 hb9 hb1 hb2 hB2 hB3 hB5 hB15
                go_wp2
                go_ret
                exact ⟨rfl, hend⟩
            · have d2' : decide (s < s' + (d'.length : Int)) = false := by simp; omega
              have hno : Hid (∀ V S, ¬ (hits (v, s, d) V S ∧ hits (v', s', d') V S)) := by rintro V S ⟨⟨_, b2, b3⟩, ⟨_, b5, b6⟩⟩; simp only at b2 b3 b5 b6; omega
              have hO : Own encWr (w2.alloc (.cells #[] 35)) w'.heap.size 35 (Bl w'.heap.size) (.slice (some ⟨w2.heap.size, 0, none⟩) 0 0) [] := Own.made (cur := #[]) hB2.size (by unfold maxLen; omega) rfl (fun h => by have : w2.heap.size < w'.heap.size := h; have := hB2.size; omega)
              have HO := Lib.hid hO; clear hO
              have hB3 : Below w'.heap.size w' (w2.alloc (.cells #[] 35)) := ext_alloc hB2
              have hsrc := Lib.hid (H1.out _ hB3)
              have hsz3 := hB2.size
              have hl40 := few_len HQ.out
              go_wp2_with (at_builtin; refine Hid.out ?_)
              change wpList _ _ _ _ _ _
              refine wpList_appAll (E := encWr) tyWrs rfl _ _ rfl rfl HO.out rfl rfl hsrc.out (fun g hg => Nat.lt_of_lt_of_le hg hB3.size) hB3.size (by unfold maxLen; simp; omega) (by simp; omega) ?_
              intro A5 c5 w5 hown5 hg5 hat5
              simp only [List.length_nil, Nat.zero_add, List.nil_append] at hown5
              have hB5 : Below w'.heap.size w' w5 := hB3.grown hg5 hB3.size (fun g hg => (HO.out.lt g hg).1)
              obtain ⟨g, csx, rfl, hbg, hgl, hnS, hcx, hfr, hrx⟩ := hown5.elem (i := i) hi0
              obtain ⟨g', csy, he, _, _, _, hcy, _, hry⟩ := hown5.elem (i := i + 1) hil
              injection he with he
              injection he with he _
              subst he
              obtain ⟨Dx, dcx, rfl, _⟩ := wr_cs hrx
              obtain ⟨Dy, dcy, rfl, _⟩ := wr_cs hry
              have x0 := hcx 0 _ rfl
              have x1 := hcx 1 _ rfl
              have x2 := hcx 2 _ rfl
              have y0 := hcy 0 _ rfl
              have y1 := hcy 1 _ rfl
              have y2 := hcy 2 _ rfl
              simp only [show encWr.size = 3 from rfl, Nat.add_zero] at x0 x1 x2 y0 y1 y2
              have hg5' : (w2.alloc (.cells #[] 35)).grownBy w5 (some w2.heap.size) := hg5
              have hv5 := (hg5'.block (w1.heap.size) (by simp; omega) (fun e => by injection e with e; omega)).trans ((Below.heap_alloc _ _ _ (by omega)).trans HV.out)
              have hw5 := (hg5'.block (w1.heap.size + 1) (by simp; omega) (fun e => by injection e with e; omega)).trans ((Below.heap_alloc _ _ _ (by omega)).trans HW.out)
              obtain ⟨k0, k1, k2, kf⟩ := blk3 hv5
              obtain ⟨m0, m1, m2, mf⟩ := blk3 hw5
              clear v0 v1 v2 vf u0 u1 u2 uf hcx hcy
              have hgw : w2.heap.size ≤ g := by
                rcases hat5 with h | h
                · have h' : some g = some w2.heap.size := h
                  injection h' with h'; omega
                · have h' : some g = some (w2.alloc (.cells #[] 35)).heap.size := h
                  injection h' with h'; rw [h']; simp
              have hne1 : ¬ (w1.heap.size = g) := by omega
              have hne2 : ¬ (w1.heap.size + 1 = g) := by omega
              have hne3 : ¬ (g = w1.heap.size) := by omega
              have hne4 : ¬ (g = w1.heap.size + 1) := by omega
              have HOWN5 := Lib.hid hown5; clear hown5
              have hmod2 := hi.out
              go_wp2_with fail
              go_region
              have hS5 : Own encWr w5 w'.heap.size 35 (Bl w'.heap.size) (.slice (some ⟨g, 0, none⟩) l.length c5) l := HOWN5.out
              have hd5 : SlAt encSec w5 (Bl w'.heap.size) D d := hD.keep (fun p hp => World.cell?_of_block ((hB5.block _ hp).trans (hb1.block _ hp).symm)) (fun _ h => h)
              have hd5' : SlAt encSec w5 (Bl w'.heap.size) D' d' := hD'.keep (fun p hp => World.cell?_of_block ((hB5.block _ hp).trans (hb1.block _ hp).symm)) (fun _ h => h)
              have hT3 := Own.store2 hS5 hil hi1 hi2 hn1 hn2 hd5 hj1 hj2 hm1 hm2 hd5'
              obtain ⟨hsw1, hsw2⟩ := swap_list hil HX.out HY.out
              have hB15 : Below w1.heap.size w1 w5 := (ext_alloc (o := .cells #[] 35) hb2).grown hg5' (by simp; omega) (fun k hk => by injection hk with hk; omega)
              have hbg1 : w1.heap.size ≤ g := by omega
              have hB6 : Below w1.heap.size w1 (set6 w5 g i v s D d.length dc v' s' D' d'.length dc').drew := set6_below hB15 hbg1
              have hfs : foldS ((l.set i (v', s', d')).set (i + 1) (v, s, d)) = foldS l := by
                conv => rhs; rw [hsw2]
                rw [hsw1]
                exact fold_swap hno.out
              have hmem : ∀ z ∈ (l.set i (v', s', d')).set (i + 1) (v, s, d), placedN z = 0 := by
                intro z hz
                rw [hsw1] at hz
                refine HALL.out z ?_
                rw [hsw2]
                simp only [List.mem_append, List.mem_cons, List.not_mem_nil, or_false] at hz ⊢
                rcases hz with (h | h | h) | h
                · exact Or.inl (Or.inl h)
                · exact Or.inl (Or.inr (Or.inr h))
                · exact Or.inl (Or.inr (Or.inl h))
                · exact Or.inr h
              change Exit.then _ _ _ _ (set6 w5 g i v s D d.length dc v' s' D' d'.length dc').drew
              clear x0 x1 x2 y0 y1 y2 k0 k1 k2 kf m0 m1 m2 mf hfr hsw1 hsw2 hmod2 hv5 hw5
              revert hT3 hB6
              generalize (set6 w5 g i v s D d.length dc v' s' D' d'.length dc').drew = w6
              intro hT3 hB6
              have hBB6 : Below w'.heap.size w' w6 := (by repeat (first | exact Below.refl _ _ | assumption | refine ext_alloc ?_ | refine ext_drew ?_ | refine ext_trans ?_ (by assumption)))
              have hrd := Own.rd0 hT3 (fun g hg => Nat.lt_of_lt_of_le hg hBB6.size)
              obtain ⟨l2, hl2'⟩ : ∃ l2, l2 = (l.set i (v', s', d')).set (i + 1) (v, s, d) := ⟨_, rfl⟩
              rw [← hl2'] at hrd hfs hmem
              have hlen2 : l2.length = l.length := by rw [hl2']; simp
              obtain ⟨A6, c6, he6, _, _, hsl6⟩ := hrd
              simp only [List.cons.injEq, Value.slice.injEq, and_true] at he6
              obtain ⟨e1, e2, e3⟩ := he6
              subst e1 e3
              have HSL := Lib.hid hsl6
              have HLEN := Lib.hid hlen2
              have HF2 : Hid (foldL l2 = r) := by
                rw [Hid, ← hr.out, foldL, foldL, errOf_zero hmem, errOf_zero HALL.out, hfs]
              have HE2 := Lib.hid (errOf_zero hmem)
              clear hsl6 hlen2 hfs hmem hl2' e2 hT3
              go_wp2_with fail
              refine ((foldX _ _ _ l2 r HLEN.out HF2.out HE2.out w6 HSL.out hl64).mono fun _ _ h => h.bl).mono ?_
              rintro e w7 ⟨A7, c7, rfl, hs7, hb7⟩
              have HS7 := Lib.hid hs7; clear hs7
              go_wp2_with fail
              refine (sameX _ _ _ _ _ _ r r rfl rfl _ (HS1.out.2.2.fwd (by repeat (first | exact Below.refl _ _ | assumption | refine ext_alloc ?_ | refine ext_drew ?_ | refine ext_trans ?_ (by assumption)))) HS7.out.2.2 (max_len HS1.out.1 HS1.out.2.1) (max_len HS7.out.1 HS7.out.2.1) rfl).mono ?_
              rintro e w8 ⟨rfl, hb8⟩
              go_wp2_with fail
              refine (awake_any _).mono ?_
              rintro e w9 ⟨rfl, hb9⟩
              have hend : Below w'.heap.size w' w9 := (by repeat (first | exact Below.refl _ _ | assumption | refine ext_alloc ?_ | refine ext_drew ?_ | refine ext_trans ?_ (by assumption)))
              clear hB6 hBB6 hb7 hb8 hb9 hb1 hb2 hB2 hB3 hB5 hB15
              go_wp2
              go_ret
              exact ⟨rfl, hend⟩
          · have d1' : (v == v') = false := by simp [d1]
            have hno : Hid (∀ V S, ¬ (hits (v, s, d) V S ∧ hits (v', s', d') V S)) := by rintro V S ⟨⟨b1, b2, b3⟩, ⟨b4, b5, b6⟩⟩; exact d1 (b1.trans b4.symm)
            have HD1 := Lib.hid d1; clear d1
            have hO : Own encWr (w2.alloc (.cells #[] 35)) w'.heap.size 35 (Bl w'.heap.size) (.slice (some ⟨w2.heap.size, 0, none⟩) 0 0) [] := Own.made (cur := #[]) hB2.size (by unfold maxLen; omega) rfl (fun h => by have : w2.heap.size < w'.heap.size := h; have := hB2.size; omega)
            have HO := Lib.hid hO; clear hO
            have hB3 : Below w'.heap.size w' (w2.alloc (.cells #[] 35)) := ext_alloc hB2
            have hsrc := Lib.hid (H1.out _ hB3)
            have hsz3 := hB2.size
            have hl40 := few_len HQ.out
            go_wp2_with (at_builtin; refine Hid.out ?_)
            change wpList _ _ _ _ _ _
            refine wpList_appAll (E := encWr) tyWrs rfl _ _ rfl rfl HO.out rfl rfl hsrc.out (fun g hg => Nat.lt_of_lt_of_le hg hB3.size) hB3.size (by unfold maxLen; simp; omega) (by simp; omega) ?_
            intro A5 c5 w5 hown5 hg5 hat5
            simp only [List.length_nil, Nat.zero_add, List.nil_append] at hown5
            have hB5 : Below w'.heap.size w' w5 := hB3.grown hg5 hB3.size (fun g hg => (HO.out.lt g hg).1)
            obtain ⟨g, csx, rfl, hbg, hgl, hnS, hcx, hfr, hrx⟩ := hown5.elem (i := i) hi0
            obtain ⟨g', csy, he, _, _, _, hcy, _, hry⟩ := hown5.elem (i := i + 1) hil
            injection he with he
            injection he with he _
            subst he
            obtain ⟨Dx, dcx, rfl, _⟩ := wr_cs hrx
            obtain ⟨Dy, dcy, rfl, _⟩ := wr_cs hry
            have x0 := hcx 0 _ rfl
            have x1 := hcx 1 _ rfl
            have x2 := hcx 2 _ rfl
            have y0 := hcy 0 _ rfl
            have y1 := hcy 1 _ rfl
            have y2 := hcy 2 _ rfl
            simp only [show encWr.size = 3 from rfl, Nat.add_zero] at x0 x1 x2 y0 y1 y2
            have hg5' : (w2.alloc (.cells #[] 35)).grownBy w5 (some w2.heap.size) := hg5
            have hv5 := (hg5'.block (w1.heap.size) (by simp; omega) (fun e => by injection e with e; omega)).trans ((Below.heap_alloc _ _ _ (by omega)).trans HV.out)
            have hw5 := (hg5'.block (w1.heap.size + 1) (by simp; omega) (fun e => by injection e with e; omega)).trans ((Below.heap_alloc _ _ _ (by omega)).trans HW.out)
            obtain ⟨k0, k1, k2, kf⟩ := blk3 hv5
            obtain ⟨m0, m1, m2, mf⟩ := blk3 hw5
            clear v0 v1 v2 vf u0 u1 u2 uf hcx hcy
            have hgw : w2.heap.size ≤ g := by
              rcases hat5 with h | h
              · have h' : some g = some w2.heap.size := h
                injection h' with h'; omega
              · have h' : some g = some (w2.alloc (.cells #[] 35)).heap.size := h
                injection h' with h'; rw [h']; simp
            have hne1 : ¬ (w1.heap.size = g) := by omega
            have hne2 : ¬ (w1.heap.size + 1 = g) := by omega
            have hne3 : ¬ (g = w1.heap.size) := by omega
            have hne4 : ¬ (g = w1.heap.size + 1) := by omega
            have HOWN5 := Lib.hid hown5; clear hown5
            have hmod2 := hi.out
            go_wp2_with fail
            go_region
            have hS5 : Own encWr w5 w'.heap.size 35 (Bl w'.heap.size) (.slice (some ⟨g, 0, none⟩) l.length c5) l := HOWN5.out
            have hd5 : SlAt encSec w5 (Bl w'.heap.size) D d := hD.keep (fun p hp => World.cell?_of_block ((hB5.block _ hp).trans (hb1.block _ hp).symm)) (fun _ h => h)
            have hd5' : SlAt encSec w5 (Bl w'.heap.size) D' d' := hD'.keep (fun p hp => World.cell?_of_block ((hB5.block _ hp).trans (hb1.block _ hp).symm)) (fun _ h => h)
            have hT3 := Own.store2 hS5 hil hi1 hi2 hn1 hn2 hd5 hj1 hj2 hm1 hm2 hd5'
            obtain ⟨hsw1, hsw2⟩ := swap_list hil HX.out HY.out
            have hB15 : Below w1.heap.size w1 w5 := (ext_alloc (o := .cells #[] 35) hb2).grown hg5' (by simp; omega) (fun k hk => by injection hk with hk; omega)
            have hbg1 : w1.heap.size ≤ g := by omega
            have hB6 : Below w1.heap.size w1 (set6 w5 g i v s D d.length dc v' s' D' d'.length dc').drew := set6_below hB15 hbg1
            have hfs : foldS ((l.set i (v', s', d')).set (i + 1) (v, s, d)) = foldS l := by
              conv => rhs; rw [hsw2]
              rw [hsw1]
              exact fold_swap hno.out
            have hmem : ∀ z ∈ (l.set i (v', s', d')).set (i + 1) (v, s, d), placedN z = 0 := by
              intro z hz
              rw [hsw1] at hz
              refine HALL.out z ?_
              rw [hsw2]
              simp only [List.mem_append, List.mem_cons, List.not_mem_nil, or_false] at hz ⊢
              rcases hz with (h | h | h) | h
              · exact Or.inl (Or.inl h)
              · exact Or.inl (Or.inr (Or.inr h))
              · exact Or.inl (Or.inr (Or.inl h))
              · exact Or.inr h
            change Exit.then _ _ _ _ (set6 w5 g i v s D d.length dc v' s' D' d'.length dc').drew
            clear x0 x1 x2 y0 y1 y2 k0 k1 k2 kf m0 m1 m2 mf hfr hsw1 hsw2 hmod2 hv5 hw5
            revert hT3 hB6
            generalize (set6 w5 g i v s D d.length dc v' s' D' d'.length dc').drew = w6
            intro hT3 hB6
            have hBB6 : Below w'.heap.size w' w6 := (by repeat (first | exact Below.refl _ _ | assumption | refine ext_alloc ?_ | refine ext_drew ?_ | refine ext_trans ?_ (by assumption)))
            have hrd := Own.rd0 hT3 (fun g hg => Nat.lt_of_lt_of_le hg hBB6.size)
            obtain ⟨l2, hl2'⟩ : ∃ l2, l2 = (l.set i (v', s', d')).set (i + 1) (v, s, d) := ⟨_, rfl⟩
            rw [← hl2'] at hrd hfs hmem
            have hlen2 : l2.length = l.length := by rw [hl2']; simp
            obtain ⟨A6, c6, he6, _, _, hsl6⟩ := hrd
            simp only [List.cons.injEq, Value.slice.injEq, and_true] at he6
            obtain ⟨e1, e2, e3⟩ := he6
            subst e1 e3
            have HSL := Lib.hid hsl6
            have HLEN := Lib.hid hlen2
            have HF2 : Hid (foldL l2 = r) := by
              rw [Hid, ← hr.out, foldL, foldL, errOf_zero hmem, errOf_zero HALL.out, hfs]
            have HE2 := Lib.hid (errOf_zero hmem)
            clear hsl6 hlen2 hfs hmem hl2' e2 hT3
            go_wp2_with fail
            refine ((foldX _ _ _ l2 r HLEN.out HF2.out HE2.out w6 HSL.out hl64).mono fun _ _ h => h.bl).mono ?_
            rintro e w7 ⟨A7, c7, rfl, hs7, hb7⟩
            have HS7 := Lib.hid hs7; clear hs7
            go_wp2_with fail
            refine (sameX _ _ _ _ _ _ r r rfl rfl _ (HS1.out.2.2.fwd (by repeat (first | exact Below.refl _ _ | assumption | refine ext_alloc ?_ | refine ext_drew ?_ | refine ext_trans ?_ (by assumption)))) HS7.out.2.2 (max_len HS1.out.1 HS1.out.2.1) (max_len HS7.out.1 HS7.out.2.1) rfl).mono ?_
            rintro e w8 ⟨rfl, hb8⟩
            go_wp2_with fail
            refine (awake_any _).mono ?_
            rintro e w9 ⟨rfl, hb9⟩
            have hend : Below w'.heap.size w' w9 := (by repeat (first | exact Below.refl _ _ | assumption | refine ext_alloc ?_ | refine ext_drew ?_ | refine ext_trans ?_ (by assumption)))
            clear hB6 hBB6 hb7 hb8 hb9 hb1 hb2 hB2 hB3 hB5 hB15
            go_wp2
            go_ret
            exact ⟨rfl, hend⟩
        · have hen1 : (en != 0) = true := by simp [hen0]
          have HEN0 := Lib.hid hen0; clear hen0
          go_wp2_with fail
          refine (awake_any _).mono ?_
          rintro e w3 ⟨rfl, hb3⟩
          have hend : Below w'.heap.size w' w3 := (by repeat (first | exact Below.refl _ _ | assumption | refine ext_alloc ?_ | refine ext_drew ?_ | refine ext_trans ?_ (by assumption)))
          go_wp2
          go_ret
          exact ⟨rfl, hend⟩
      · have hv : (((w1.alloc (.cells #[.int .i64 v', .int .i64 s', .slice D' d'.length dc'] 35)).alloc (.cells #[.int .i64 v, .int .i64 s, .slice D d.length dc] 35)).drew).heap[w1.heap.size + 1]? = some (.cells #[.int .i64 v, .int .i64 s, .slice D d.length dc] 35 (0, 0)) := heap_new2 _ _ _
        have hw : (((w1.alloc (.cells #[.int .i64 v', .int .i64 s', .slice D' d'.length dc'] 35)).alloc (.cells #[.int .i64 v, .int .i64 s, .slice D d.length dc] 35)).drew).heap[w1.heap.size]? = some (.cells #[.int .i64 v', .int .i64 s', .slice D' d'.length dc'] 35 (0, 0)) := (Below.heap_alloc _ _ _ (by simp)).trans (heap_alloc_new _ _)
        have hb2 : Below w1.heap.size w1 (((w1.alloc (.cells #[.int .i64 v', .int .i64 s', .slice D' d'.length dc'] 35)).alloc (.cells #[.int .i64 v, .int .i64 s, .slice D d.length dc] 35)).drew) := (by repeat (first | exact Below.refl _ _ | assumption | refine ext_alloc ?_ | refine ext_drew ?_ | refine ext_trans ?_ (by assumption)))
        have hsz2 : w1.heap.size + 2 ≤ (((w1.alloc (.cells #[.int .i64 v', .int .i64 s', .slice D' d'.length dc'] 35)).alloc (.cells #[.int .i64 v, .int .i64 s, .slice D d.length dc] 35)).drew).heap.size := by simp [World.drew]
        revert hv hw hb2 hsz2
        generalize ((w1.alloc (.cells #[.int .i64 v', .int .i64 s', .slice D' d'.length dc'] 35)).alloc (.cells #[.int .i64 v, .int .i64 s, .slice D d.length dc] 35)).drew = w2
        intro hv hw hb2 hsz2
        obtain ⟨v0, v1, v2, vf⟩ := blk3 hv
        obtain ⟨u0, u1, u2, uf⟩ := blk3 hw
        have HV := Lib.hid hv; have HW := Lib.hid hw; clear hv hw g0 g1 g2 f0 f1 f2 hmod
        have hB2 : Below w'.heap.size w' w2 := (by repeat (first | exact Below.refl _ _ | assumption | refine ext_alloc ?_ | refine ext_drew ?_ | refine ext_trans ?_ (by assumption)))
        by_cases hen0 : en = 0
        · have hen1 : (en != 0) = false := by simp [hen0]
          have HEN0 := Lib.hid hen0; clear hen0
          have HALL : Hid (∀ x ∈ l, placedN x = 0) := errOf_conv (hen.out.trans HEN0.out)
          obtain ⟨p1, p2, p3, p4, p5⟩ := placed_ok (HALL.out (v, s, d) (by rw [HX.out]; exact List.getElem_mem _))
          obtain ⟨q1, q2, q3, q4, q5⟩ := placed_ok (HALL.out (v', s', d') (by rw [HY.out]; exact List.getElem_mem _))
          simp only at p1 p2 p3 p4 p5 q1 q2 q3 q4 q5
          by_cases d1 : v = v'
          · have d1' : (v == v') = true := by simp [d1]
            have HD1 := Lib.hid d1; clear d1
            by_cases d2 : s < s' + (d'.length : Int)
            · have d2' : decide (s < s' + (d'.length : Int)) = true := by simp [d2]
              by_cases d3 : s' < s + (d.length : Int)
              · have d3' : decide (s' < s + (d.length : Int)) = true := by simp [d3]
                go_wp2_with fail
                refine (awake_any _).mono ?_
                rintro e w3 ⟨rfl, hb3⟩
                have hend : Below w'.heap.size w' w3 := (by repeat (first | exact Below.refl _ _ | assumption | refine ext_alloc ?_ | refine ext_drew ?_ | refine ext_trans ?_ (by assumption)))
                go_wp2
                go_ret
                exact ⟨rfl, hend⟩
              · have d3' : decide (s' < s + (d.length : Int)) = false := by simp; omega
                have hno : Hid (∀ V S, ¬ (hits (v, s, d) V S ∧ hits (v', s', d') V S)) := by rintro V S ⟨⟨_, b2, b3⟩, ⟨_, b5, b6⟩⟩; simp only at b2 b3 b5 b6; omega
                have hO : Own encWr (w2.alloc (.cells #[] 35)) w'.heap.size 35 (Bl w'.heap.size) (.slice (some ⟨w2.heap.size, 0, none⟩) 0 0) [] := Own.made (cur := #[]) hB2.size (by unfold maxLen; omega) rfl (fun h => by have : w2.heap.size < w'.heap.size := h; have := hB2.size; omega)
                have HO := Lib.hid hO; clear hO
                have hB3 : Below w'.heap.size w' (w2.alloc (.cells #[] 35)) := ext_alloc hB2
                have hsrc := Lib.hid (H1.out _ hB3)
                have hsz3 := hB2.size
                have hl40 := few_len HQ.out
                go_wp2_with (at_builtin; refine Hid.out ?_)
                change wpList _ _ _ _ _ _
                refine wpList_appAll (E := encWr) tyWrs rfl _ _ rfl rfl HO.out rfl rfl hsrc.out (fun g hg => Nat.lt_of_lt_of_le hg hB3.size) hB3.size (by unfold maxLen; simp; omega) (by simp; omega) ?_
                intro A5 c5 w5 hown5 hg5 hat5
                simp only [List.length_nil, Nat.zero_add, List.nil_append] at hown5
                have hB5 : Below w'.heap.size w' w5 := hB3.grown hg5 hB3.size (fun g hg => (HO.out.lt g hg).1)
                obtain ⟨g, csx, rfl, hbg, hgl, hnS, hcx, hfr, hrx⟩ := hown5.elem (i := i) hi0
                obtain ⟨g', csy, he, _, _, _, hcy, _, hry⟩ := hown5.elem (i := i + 1) hil
                injection he with he
                injection he with he _
                subst he
                obtain ⟨Dx, dcx, rfl, _⟩ := wr_cs hrx
                obtain ⟨Dy, dcy, rfl, _⟩ := wr_cs hry
                have x0 := hcx 0 _ rfl
                have x1 := hcx 1 _ rfl
                have x2 := hcx 2 _ rfl
                have y0 := hcy 0 _ rfl
                have y1 := hcy 1 _ rfl
                have y2 := hcy 2 _ rfl
                simp only [show encWr.size = 3 from rfl, Nat.add_zero] at x0 x1 x2 y0 y1 y2
                have hg5' : (w2.alloc (.cells #[] 35)).grownBy w5 (some w2.heap.size) := hg5
                have hv5 := (hg5'.block (w1.heap.size + 1) (by simp; omega) (fun e => by injection e with e; omega)).trans ((Below.heap_alloc _ _ _ (by omega)).trans HV.out)
                have hw5 := (hg5'.block (w1.heap.size) (by simp; omega) (fun e => by injection e with e; omega)).trans ((Below.heap_alloc _ _ _ (by omega)).trans HW.out)
                obtain ⟨k0, k1, k2, kf⟩ := blk3 hv5
                obtain ⟨m0, m1, m2, mf⟩ := blk3 hw5
                clear v0 v1 v2 vf u0 u1 u2 uf hcx hcy
                have hgw : w2.heap.size ≤ g := by
                  rcases hat5 with h | h
                  · have h' : some g = some w2.heap.size := h
                    injection h' with h'; omega
                  · have h' : some g = some (w2.alloc (.cells #[] 35)).heap.size := h
                    injection h' with h'; rw [h']; simp
                have hne1 : ¬ (w1.heap.size = g) := by omega
                have hne2 : ¬ (w1.heap.size + 1 = g) := by omega
                have hne3 : ¬ (g = w1.heap.size) := by omega
                have hne4 : ¬ (g = w1.heap.size + 1) := by omega
                have HOWN5 := Lib.hid hown5; clear hown5
                have hmod2 := hi.out
                go_wp2_with fail
                go_region
                have hS5 : Own encWr w5 w'.heap.size 35 (Bl w'.heap.size) (.slice (some ⟨g, 0, none⟩) l.length c5) l := HOWN5.out
                have hd5 : SlAt encSec w5 (Bl w'.heap.size) D d := hD.keep (fun p hp => World.cell?_of_block ((hB5.block _ hp).trans (hb1.block _ hp).symm)) (fun _ h => h)
                have hd5' : SlAt encSec w5 (Bl w'.heap.size) D' d' := hD'.keep (fun p hp => World.cell?_of_block ((hB5.block _ hp).trans (hb1.block _ hp).symm)) (fun _ h => h)
                have hT3 := Own.store2 hS5 hil hi1 hi2 hn1 hn2 hd5 hj1 hj2 hm1 hm2 hd5'
                obtain ⟨hsw1, hsw2⟩ := swap_list hil HX.out HY.out
                have hB15 : Below w1.heap.size w1 w5 := (ext_alloc (o := .cells #[] 35) hb2).grown hg5' (by simp; omega) (fun k hk => by injection hk with hk; omega)
                have hbg1 : w1.heap.size ≤ g := by omega
                have hB6 : Below w1.heap.size w1 (set6 w5 g i v s D d.length dc v' s' D' d'.length dc').drew := set6_below hB15 hbg1
                have hfs : foldS ((l.set i (v', s', d')).set (i + 1) (v, s, d)) = foldS l := by
                  conv => rhs; rw [hsw2]
                  rw [hsw1]
                  exact fold_swap hno.out
                have hmem : ∀ z ∈ (l.set i (v', s', d')).set (i + 1) (v, s, d), placedN z = 0 := by
                  intro z hz
                  rw [hsw1] at hz
                  refine HALL.out z ?_
                  rw [hsw2]
                  simp only [List.mem_append, List.mem_cons, List.not_mem_nil, or_false] at hz ⊢
                  rcases hz with (h | h | h) | h
                  · exact Or.inl (Or.inl h)
                  · exact Or.inl (Or.inr (Or.inr h))
                  · exact Or.inl (Or.inr (Or.inl h))
                  · exact Or.inr h
                change Exit.then _ _ _ _ (set6 w5 g i v s D d.length dc v' s' D' d'.length dc').drew
                clear x0 x1 x2 y0 y1 y2 k0 k1 k2 kf m0 m1 m2 mf hfr hsw1 hsw2 hmod2 hv5 hw5
                revert hT3 hB6
                generalize (set6 w5 g i v s D d.length dc v' s' D' d'.length dc').drew = w6
                intro hT3 hB6
                have hBB6 : Below w'.heap.size w' w6 := (by repeat (first | exact Below.refl _ _ | assumption | refine ext_alloc ?_ | refine ext_drew ?_ | refine ext_trans ?_ (by assumption)))
                have hrd := Own.rd0 hT3 (fun g hg => Nat.lt_of_lt_of_le hg hBB6.size)
                obtain ⟨l2, hl2'⟩ : ∃ l2, l2 = (l.set i (v', s', d')).set (i + 1) (v, s, d) := ⟨_, rfl⟩
                rw [← hl2'] at hrd hfs hmem
                have hlen2 : l2.length = l.length := by rw [hl2']; simp
                obtain ⟨A6, c6, he6, _, _, hsl6⟩ := hrd
                simp only [List.cons.injEq, Value.slice.injEq, and_true] at he6
                obtain ⟨e1, e2, e3⟩ := he6
                subst e1 e3
                have HSL := Lib.hid hsl6
                have HLEN := Lib.hid hlen2
                have HF2 : Hid (foldL l2 = r) := by
                  rw [Hid, ← hr.out, foldL, foldL, errOf_zero hmem, errOf_zero HALL.out, hfs]
                have HE2 := Lib.hid (errOf_zero hmem)
                clear hsl6 hlen2 hfs hmem hl2' e2 hT3
                go_wp2_with fail
                refine ((foldX _ _ _ l2 r HLEN.out HF2.out HE2.out w6 HSL.out hl64).mono fun _ _ h => h.bl).mono ?_
                rintro e w7 ⟨A7, c7, rfl, hs7, hb7⟩
                have HS7 := Lib.hid hs7; clear hs7
                go_wp2_with fail
                refine (sameX _ _ _ _ _ _ r r rfl rfl _ (HS1.out.2.2.fwd (by repeat (first | exact Below.refl _ _ | assumption | refine ext_alloc ?_ | refine ext_drew ?_ | refine ext_trans ?_ (by assumption)))) HS7.out.2.2 (max_len HS1.out.1 HS1.out.2.1) (max_len HS7.out.1 HS7.out.2.1) rfl).mono ?_
                rintro e w8 ⟨rfl, hb8⟩
                go_wp2_with fail
                refine (awake_any _).mono ?_
                rintro e w9 ⟨rfl, hb9⟩
                have hend : Below w'.heap.size w' w9 := (by repeat (first | exact Below.refl _ _ | assumption | refine ext_alloc ?_ | refine ext_drew ?_ | refine ext_trans ?_ (by assumption)))
                clear hB6 hBB6 hb7 hb8 hb9 hb1 hb2 hB2 hB3 hB5 hB15
                go_wp2
                go_ret
                exact ⟨rfl, hend⟩
            · have d2' : decide (s < s' + (d'.length : Int)) = false := by simp; omega
              have hno : Hid (∀ V S, ¬ (hits (v, s, d) V S ∧ hits (v', s', d') V S)) := by rintro V S ⟨⟨_, b2, b3⟩, ⟨_, b5, b6⟩⟩; simp only at b2 b3 b5 b6; omega
              have hO : Own encWr (w2.alloc (.cells #[] 35)) w'.heap.size 35 (Bl w'.heap.size) (.slice (some ⟨w2.heap.size, 0, none⟩) 0 0) [] := Own.made (cur := #[]) hB2.size (by unfold maxLen; omega) rfl (fun h => by have : w2.heap.size < w'.heap.size := h; have := hB2.size; omega)
              have HO := Lib.hid hO; clear hO
              have hB3 : Below w'.heap.size w' (w2.alloc (.cells #[] 35)) := ext_alloc hB2
              have hsrc := Lib.hid (H1.out _ hB3)
              have hsz3 := hB2.size
              have hl40 := few_len HQ.out
              go_wp2_with (at_builtin; refine Hid.out ?_)
              change wpList _ _ _ _ _ _
              refine wpList_appAll (E := encWr) tyWrs rfl _ _ rfl rfl HO.out rfl rfl hsrc.out (fun g hg => Nat.lt_of_lt_of_le hg hB3.size) hB3.size (by unfold maxLen; simp; omega) (by simp; omega) ?_
              intro A5 c5 w5 hown5 hg5 hat5
              simp only [List.length_nil, Nat.zero_add, List.nil_append] at hown5
              have hB5 : Below w'.heap.size w' w5 := hB3.grown hg5 hB3.size (fun g hg => (HO.out.lt g hg).1)
              obtain ⟨g, csx, rfl, hbg, hgl, hnS, hcx, hfr, hrx⟩ := hown5.elem (i := i) hi0
              obtain ⟨g', csy, he, _, _, _, hcy, _, hry⟩ := hown5.elem (i := i + 1) hil
              injection he with he
              injection he with he _
              subst he
              obtain ⟨Dx, dcx, rfl, _⟩ := wr_cs hrx
              obtain ⟨Dy, dcy, rfl, _⟩ := wr_cs hry
              have x0 := hcx 0 _ rfl
              have x1 := hcx 1 _ rfl
              have x2 := hcx 2 _ rfl
              have y0 := hcy 0 _ rfl
              have y1 := hcy 1 _ rfl
              have y2 := hcy 2 _ rfl
              simp only [show encWr.size = 3 from rfl, Nat.add_zero] at x0 x1 x2 y0 y1 y2
              have hg5' : (w2.alloc (.cells #[] 35)).grownBy w5 (some w2.heap.size) := hg5
              have hv5 := (hg5'.block (w1.heap.size + 1) (by simp; omega) (fun e => by injection e with e; omega)).trans ((Below.heap_alloc _ _ _ (by omega)).trans HV.out)
              have hw5 := (hg5'.block (w1.heap.size) (by simp; omega) (fun e => by injection e with e; omega)).trans ((Below.heap_alloc _ _ _ (by omega)).trans HW.out)
              obtain ⟨k0, k1, k2, kf⟩ := blk3 hv5
              obtain ⟨m0, m1, m2, mf⟩ := blk3 hw5
              clear v0 v1 v2 vf u0 u1 u2 uf hcx hcy
              have hgw : w2.heap.size ≤ g := by
                rcases hat5 with h | h
                · have h' : some g = some w2.heap.size := h
                  injection h' with h'; omega
                · have h' : some g = some (w2.alloc (.cells #[] 35)).heap.size := h
                  injection h' with h'; rw [h']; simp
              have hne1 : ¬ (w1.heap.size = g) := by omega
              have hne2 : ¬ (w1.heap.size + 1 = g) := by omega
              have hne3 : ¬ (g = w1.heap.size) := by omega
              have hne4 : ¬ (g = w1.heap.size + 1) := by omega
              have HOWN5 := Lib.hid hown5; clear hown5
              have hmod2 := hi.out
              go_wp2_with fail
              go_region
              have hS5 : Own encWr w5 w'.heap.size 35 (Bl w'.heap.size) (.slice (some ⟨g, 0, none⟩) l.length c5) l := HOWN5.out
              have hd5 : SlAt encSec w5 (Bl w'.heap.size) D d := hD.keep (fun p hp => World.cell?_of_block ((hB5.block _ hp).trans (hb1.block _ hp).symm)) (fun _ h => h)
              have hd5' : SlAt encSec w5 (Bl w'.heap.size) D' d' := hD'.keep (fun p hp => World.cell?_of_block ((hB5.block _ hp).trans (hb1.block _ hp).symm)) (fun _ h => h)
              have hT3 := Own.store2 hS5 hil hi1 hi2 hn1 hn2 hd5 hj1 hj2 hm1 hm2 hd5'
              obtain ⟨hsw1, hsw2⟩ := swap_list hil HX.out HY.out
              have hB15 : Below w1.heap.size w1 w5 := (ext_alloc (o := .cells #[] 35) hb2).grown hg5' (by simp; omega) (fun k hk => by injection hk with hk; omega)
              have hbg1 : w1.heap.size ≤ g := by omega
              have hB6 : Below w1.heap.size w1 (set6 w5 g i v s D d.length dc v' s' D' d'.length dc').drew := set6_below hB15 hbg1
              have hfs : foldS ((l.set i (v', s', d')).set (i + 1) (v, s, d)) = foldS l := by
                conv => rhs; rw [hsw2]
                rw [hsw1]
                exact fold_swap hno.out
              have hmem : ∀ z ∈ (l.set i (v', s', d')).set (i + 1) (v, s, d), placedN z = 0 := by
                intro z hz
                rw [hsw1] at hz
                refine HALL.out z ?_
                rw [hsw2]
                simp only [List.mem_append, List.mem_cons, List.not_mem_nil, or_false] at hz ⊢
                rcases hz with (h | h | h) | h
                · exact Or.inl (Or.inl h)
                · exact Or.inl (Or.inr (Or.inr h))
                · exact Or.inl (Or.inr (Or.inl h))
                · exact Or.inr h
              change Exit.then _ _ _ _ (set6 w5 g i v s D d.length dc v' s' D' d'.length dc').drew
              clear x0 x1 x2 y0 y1 y2 k0 k1 k2 kf m0 m1 m2 mf hfr hsw1 hsw2 hmod2 hv5 hw5
              revert hT3 hB6
              generalize (set6 w5 g i v s D d.length dc v' s' D' d'.length dc').drew = w6
              intro hT3 hB6
              have hBB6 : Below w'.heap.size w' w6 := (by repeat (first | exact Below.refl _ _ | assumption | refine ext_alloc ?_ | refine ext_drew ?_ | refine ext_trans ?_ (by assumption)))
              have hrd := Own.rd0 hT3 (fun g hg => Nat.lt_of_lt_of_le hg hBB6.size)
              obtain ⟨l2, hl2'⟩ : ∃ l2, l2 = (l.set i (v', s', d')).set (i + 1) (v, s, d) := ⟨_, rfl⟩
              rw [← hl2'] at hrd hfs hmem
              have hlen2 : l2.length = l.length := by rw [hl2']; simp
              obtain ⟨A6, c6, he6, _, _, hsl6⟩ := hrd
              simp only [List.cons.injEq, Value.slice.injEq, and_true] at he6
              obtain ⟨e1, e2, e3⟩ := he6
              subst e1 e3
              have HSL := Lib.hid hsl6
              have HLEN := Lib.hid hlen2
              have HF2 : Hid (foldL l2 = r) := by
                rw [Hid, ← hr.out, foldL, foldL, errOf_zero hmem, errOf_zero HALL.out, hfs]
              have HE2 := Lib.hid (errOf_zero hmem)
              clear hsl6 hlen2 hfs hmem hl2' e2 hT3
              go_wp2_with fail
              refine ((foldX _ _ _ l2 r HLEN.out HF2.out HE2.out w6 HSL.out hl64).mono fun _ _ h => h.bl).mono ?_
              rintro e w7 ⟨A7, c7, rfl, hs7, hb7⟩
              have HS7 := Lib.hid hs7; clear hs7
              go_wp2_with fail
              refine (sameX _ _ _ _ _ _ r r rfl rfl _ (HS1.out.2.2.fwd (by repeat (first | exact Below.refl _ _ | assumption | refine ext_alloc ?_ | refine ext_drew ?_ | refine ext_trans ?_ (by assumption)))) HS7.out.2.2 (max_len HS1.out.1 HS1.out.2.1) (max_len HS7.out.1 HS7.out.2.1) rfl).mono ?_
              rintro e w8 ⟨rfl, hb8⟩
              go_wp2_with fail
              refine (awake_any _).mono ?_
              rintro e w9 ⟨rfl, hb9⟩
              have hend : Below w'.heap.size w' w9 := (by repeat (first | exact Below.refl _ _ | assumption | refine ext_alloc ?_ | refine ext_drew ?_ | refine ext_trans ?_ (by assumption)))
              clear hB6 hBB6 hb7 hb8 hb9 hb1 hb2 hB2 hB3 hB5 hB15
              go_wp2
              go_ret
              exact ⟨rfl, hend⟩
          · have d1' : (v == v') = false := by simp [d1]
            have hno : Hid (∀ V S, ¬ (hits (v, s, d) V S ∧ hits (v', s', d') V S)) := by rintro V S ⟨⟨b1, b2, b3⟩, ⟨b4, b5, b6⟩⟩; exact d1 (b1.trans b4.symm)
            have HD1 := Lib.hid d1; clear d1
            have hO : Own encWr (w2.alloc (.cells #[] 35)) w'.heap.size 35 (Bl w'.heap.size) (.slice (some ⟨w2.heap.size, 0, none⟩) 0 0) [] := Own.made (cur := #[]) hB2.size (by unfold maxLen; omega) rfl (fun h => by have : w2.heap.size < w'.heap.size := h; have := hB2.size; omega)
            have HO := Lib.hid hO; clear hO
            have hB3 : Below w'.heap.size w' (w2.alloc (.cells #[] 35)) := ext_alloc hB2
            have hsrc := Lib.hid (H1.out _ hB3)
            have hsz3 := hB2.size
            have hl40 := few_len HQ.out
            go_wp2_with (at_builtin; refine Hid.out ?_)
            change wpList _ _ _ _ _ _
            refine wpList_appAll (E := encWr) tyWrs rfl _ _ rfl rfl HO.out rfl rfl hsrc.out (fun g hg => Nat.lt_of_lt_of_le hg hB3.size) hB3.size (by unfold maxLen; simp; omega) (by simp; omega) ?_
            intro A5 c5 w5 hown5 hg5 hat5
            simp only [List.length_nil, Nat.zero_add, List.nil_append] at hown5
            have hB5 : Below w'.heap.size w' w5 := hB3.grown hg5 hB3.size (fun g hg => (HO.out.lt g hg).1)
            obtain ⟨g, csx, rfl, hbg, hgl, hnS, hcx, hfr, hrx⟩ := hown5.elem (i := i) hi0
            obtain ⟨g', csy, he, _, _, _, hcy, _, hry⟩ := hown5.elem (i := i + 1) hil
            injection he with he
            injection he with he _
            subst he
            obtain ⟨Dx, dcx, rfl, _⟩ := wr_cs hrx
            obtain ⟨Dy, dcy, rfl, _⟩ := wr_cs hry
            have x0 := hcx 0 _ rfl
            have x1 := hcx 1 _ rfl
            have x2 := hcx 2 _ rfl
            have y0 := hcy 0 _ rfl
            have y1 := hcy 1 _ rfl
            have y2 := hcy 2 _ rfl
            simp only [show encWr.size = 3 from rfl, Nat.add_zero] at x0 x1 x2 y0 y1 y2
            have hg5' : (w2.alloc (.cells #[] 35)).grownBy w5 (some w2.heap.size) := hg5
            have hv5 := (hg5'.block (w1.heap.size + 1) (by simp; omega) (fun e => by injection e with e; omega)).trans ((Below.heap_alloc _ _ _ (by omega)).trans HV.out)
            have hw5 := (hg5'.block (w1.heap.size) (by simp; omega) (fun e => by injection e with e; omega)).trans ((Below.heap_alloc _ _ _ (by omega)).trans HW.out)
            obtain ⟨k0, k1, k2, kf⟩ := blk3 hv5
            obtain ⟨m0, m1, m2, mf⟩ := blk3 hw5
            clear v0 v1 v2 vf u0 u1 u2 uf hcx hcy
            have hgw : w2.heap.size ≤ g := by
              rcases hat5 with h | h
              · have h' : some g = some w2.heap.size := h
                injection h' with h'; omega
              · have h' : some g = some (w2.alloc (.cells #[] 35)).heap.size := h
                injection h' with h'; rw [h']; simp
            have hne1 : ¬ (w1.heap.size = g) := by omega
            have hne2 : ¬ (w1.heap.size + 1 = g) := by omega
            have hne3 : ¬ (g = w1.heap.size) := by omega
            have hne4 : ¬ (g = w1.heap.size + 1) := by omega
            have HOWN5 := Lib.hid hown5; clear hown5
            have hmod2 := hi.out
            go_wp2_with fail
            go_region
            have hS5 : Own encWr w5 w'.heap.size 35 (Bl w'.heap.size) (.slice (some ⟨g, 0, none⟩) l.length c5) l := HOWN5.out
            have hd5 : SlAt encSec w5 (Bl w'.heap.size) D d := hD.keep (fun p hp => World.cell?_of_block ((hB5.block _ hp).trans (hb1.block _ hp).symm)) (fun _ h => h)
            have hd5' : SlAt encSec w5 (Bl w'.heap.size) D' d' := hD'.keep (fun p hp => World.cell?_of_block ((hB5.block _ hp).trans (hb1.block _ hp).symm)) (fun _ h => h)
            have hT3 := Own.store2 hS5 hil hi1 hi2 hn1 hn2 hd5 hj1 hj2 hm1 hm2 hd5'
            obtain ⟨hsw1, hsw2⟩ := swap_list hil HX.out HY.out
            have hB15 : Below w1.heap.size w1 w5 := (ext_alloc (o := .cells #[] 35) hb2).grown hg5' (by simp; omega) (fun k hk => by injection hk with hk; omega)
            have hbg1 : w1.heap.size ≤ g := by omega
            have hB6 : Below w1.heap.size w1 (set6 w5 g i v s D d.length dc v' s' D' d'.length dc').drew := set6_below hB15 hbg1
            have hfs : foldS ((l.set i (v', s', d')).set (i + 1) (v, s, d)) = foldS l := by
              conv => rhs; rw [hsw2]
              rw [hsw1]
              exact fold_swap hno.out
            have hmem : ∀ z ∈ (l.set i (v', s', d')).set (i + 1) (v, s, d), placedN z = 0 := by
              intro z hz
              rw [hsw1] at hz
              refine HALL.out z ?_
              rw [hsw2]
              simp only [List.mem_append, List.mem_cons, List.not_mem_nil, or_false] at hz ⊢
              rcases hz with (h | h | h) | h
              · exact Or.inl (Or.inl h)
              · exact Or.inl (Or.inr (Or.inr h))
              · exact Or.inl (Or.inr (Or.inl h))
              · exact Or.inr h
            change Exit.then _ _ _ _ (set6 w5 g i v s D d.length dc v' s' D' d'.length dc').drew
            clear x0 x1 x2 y0 y1 y2 k0 k1 k2 kf m0 m1 m2 mf hfr hsw1 hsw2 hmod2 hv5 hw5
            revert hT3 hB6
            generalize (set6 w5 g i v s D d.length dc v' s' D' d'.length dc').drew = w6
            intro hT3 hB6
            have hBB6 : Below w'.heap.size w' w6 := (by repeat (first | exact Below.refl _ _ | assumption | refine ext_alloc ?_ | refine ext_drew ?_ | refine ext_trans ?_ (by assumption)))
            have hrd := Own.rd0 hT3 (fun g hg => Nat.lt_of_lt_of_le hg hBB6.size)
            obtain ⟨l2, hl2'⟩ : ∃ l2, l2 = (l.set i (v', s', d')).set (i + 1) (v, s, d) := ⟨_, rfl⟩
            rw [← hl2'] at hrd hfs hmem
            have hlen2 : l2.length = l.length := by rw [hl2']; simp
            obtain ⟨A6, c6, he6, _, _, hsl6⟩ := hrd
            simp only [List.cons.injEq, Value.slice.injEq, and_true] at he6
            obtain ⟨e1, e2, e3⟩ := he6
            subst e1 e3
            have HSL := Lib.hid hsl6
            have HLEN := Lib.hid hlen2
            have HF2 : Hid (foldL l2 = r) := by
              rw [Hid, ← hr.out, foldL, foldL, errOf_zero hmem, errOf_zero HALL.out, hfs]
            have HE2 := Lib.hid (errOf_zero hmem)
            clear hsl6 hlen2 hfs hmem hl2' e2 hT3
            go_wp2_with fail
            refine ((foldX _ _ _ l2 r HLEN.out HF2.out HE2.out w6 HSL.out hl64).mono fun _ _ h => h.bl).mono ?_
            rintro e w7 ⟨A7, c7, rfl, hs7, hb7⟩
            have HS7 := Lib.hid hs7; clear hs7
            go_wp2_with fail
            refine (sameX _ _ _ _ _ _ r r rfl rfl _ (HS1.out.2.2.fwd (by repeat (first | exact Below.refl _ _ | assumption | refine ext_alloc ?_ | refine ext_drew ?_ | refine ext_trans ?_ (by assumption)))) HS7.out.2.2 (max_len HS1.out.1 HS1.out.2.1) (max_len HS7.out.1 HS7.out.2.1) rfl).mono ?_
            rintro e w8 ⟨rfl, hb8⟩
            go_wp2_with fail
            refine (awake_any _).mono ?_
            rintro e w9 ⟨rfl, hb9⟩
            have hend : Below w'.heap.size w' w9 := (by repeat (first | exact Below.refl _ _ | assumption | refine ext_alloc ?_ | refine ext_drew ?_ | refine ext_trans ?_ (by assumption)))
            clear hB6 hBB6 hb7 hb8 hb9 hb1 hb2 hB2 hB3 hB5 hB15
            go_wp2
            go_ret
            exact ⟨rfl, hend⟩
        · have hen1 : (en != 0) = true := by simp [hen0]
          have HEN0 := Lib.hid hen0; clear hen0
          go_wp2_with fail
          refine (awake_any _).mono ?_
          rintro e w3 ⟨rfl, hb3⟩
          have hend : Below w'.heap.size w' w3 := (by repeat (first | exact Below.refl _ _ | assumption | refine ext_alloc ?_ | refine ext_drew ?_ | refine ext_trans ?_ (by assumption)))
          go_wp2
          go_ret
          exact ⟨rfl, hend⟩
end Go.Proofs.Ytfahbhjlkdcnpaa

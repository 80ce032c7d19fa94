/-
  The walk of the law CoalesceSelects.
-/
import Derived.Test.YtfahbhjlkdcnpaaLa
import Derived.Test.YtfahbhjlkdcnpaaUd
import Derived.Test.YtfahbhjlkdcnpaaVl
import Derived.Test.YtfahbhjlkdcnpaaRc
import Derived.Test.YtfahbhjlkdcnpaaPl
set_option linter.unusedVariables false
set_option linter.unusedSimpArgs false
set_option linter.unusedSectionVars false
set_option linter.unnecessarySimpa false
namespace Go.Proofs.Ytfahbhjlkdcnpaa
open Go.RowKit Go.ChangeMaps

def encPart : Enc (Int × Int × List Ext) := encPair encInt (encPair encInt (encSl encExt))
theorem part_cs {w : World} {S : Nat → Prop} {cs : List Value} {x : Int × Int × List Ext} (h : encPart.rd w S cs x) : ∃ D c, cs = [.int .i64 x.1, .int .i64 x.2.1, .slice D x.2.2.length c] ∧ I64 x.1 ∧ I64 x.2.1 ∧ x.2.2.length ≤ c ∧ c ≤ maxLen ∧ SlAt encExt w S D x.2.2 := by
  obtain ⟨c1, c2, rfl, ⟨rfl, h1⟩, ⟨c3, c4, rfl, ⟨rfl, h2⟩, ⟨D, c, rfl, h3, h4, h5⟩⟩⟩ := h
  exact ⟨D, c, rfl, h1, h2, h3, h4, h5⟩
theorem secSelf (x0 x1 x2 x3 x4 x5 x6 x7 : Int) (W : World) : (Op.equalIn 10000 53 (.agg #[.int .u8 x0, .int .u8 x1, .int .u8 x2, .int .u8 x3, .int .u8 x4, .int .u8 x5, .int .u8 x6, .int .u8 x7]) (.agg #[.int .u8 x0, .int .u8 x1, .int .u8 x2, .int .u8 x3, .int .u8 x4, .int .u8 x5, .int .u8 x6, .int .u8 x7])).run Try.prog W = .ok true W := by
  rw [run_eq_sec]; simp
theorem restrictN (A A2 : Option Addr) (c c2 n m : Nat) (l : List Wr) (v : Int) (keep : List Ext) (r : List Wr) (en : Int) (hn : l.length = n) (hm : keep.length = m) (hr : restrictL l v keep = r) (he : chkN placedN l = en) (w : World) (h1 : SlAt encWr w (Bl w.heap.size) A l) (h2 : SlAt encExt w (Bl w.heap.size) A2 keep) (hs : n ≤ 9223372036854775807) (hk : m ≤ 9223372036854775807) :
    Calls Try.prog 22 #[.slice A n c, .int .i64 v, .slice A2 m c2] w fun e w' => ∃ A c, e = .returned (.tuple #[.slice A r.length c, .int .i64 en]) ∧ (r.length ≤ c ∧ c ≤ maxLen ∧ SlAt encWr w' (Bl w'.heap.size) A r) ∧ Below w.heap.size w w' := by
  subst hn hm hr he
  exact (restrict_any A A2 c c2 l v keep w h1 hs h2 hk).mono fun _ _ h => h.bl
theorem refRestrictN (A A2 : Option Addr) (c c2 n m : Nat) (l : List Wr) (v : Int) (keep : List Ext) (r : List Wr) (en : Int) (hn : l.length = n) (hm : keep.length = m) (hr : restrictL l v keep = r) (he : chkN placedN l = en) (w : World) (h1 : SlAt encWr w (Bl w.heap.size) A l) (h2 : SlAt encExt w (Bl w.heap.size) A2 keep) (hs : n ≤ 9223372036854775807) (hk : m ≤ 9223372036854775807) (hv : I64 v) :
    Calls Try.prog 26 #[.slice A n c, .int .i64 v, .slice A2 m c2] w fun e w' => ∃ A c, e = .returned (.tuple #[.slice A r.length c, .int .i64 en]) ∧ (r.length ≤ c ∧ c ≤ maxLen ∧ SlAt encWr w' (Bl w'.heap.size) A r) ∧ Below w.heap.size w w' := by
  subst hn hm hr he
  exact (refRestrict_any A A2 c c2 l v keep w h1 hs h2 hk hv).mono fun _ _ h => h.bl
theorem extentsX (A : Option Addr) (c n : Nat) (l : List Wr) (V : Int) (r : List Ext) (hn : l.length = n) (hr : runsL (secsOf l V) = r) (w : World) (h1 : SlAt encWr w (Bl w.heap.size) A l) (hs : n ≤ 100000) (hV : I64 V) :
    Calls Try.prog 24 #[.slice A n c, .int .i64 V] w fun e w' => ∃ A c, e = .returned (.slice A r.length c) ∧ (r.length ≤ c ∧ c ≤ maxLen ∧ SlAt encExt w' (Bl w'.heap.size) A r) ∧ Below w.heap.size w w' := by
  subst hn hr
  exact (extents_any A c l V w h1 hs hV).mono fun _ _ ⟨A, c, h1, h2, h3, h4, h5⟩ => ⟨A, c, h1, ⟨h2, h3, h4.more (fun _ h => h.2)⟩, h5⟩
theorem refExtentsX (A : Option Addr) (c n : Nat) (l : List Wr) (V : Int) (r : List Ext) (hn : l.length = n) (hr : runsL (secsOf l V) = r) (w : World) (h1 : SlAt encWr w (Bl w.heap.size) A l) (hs : n ≤ 9223372036854775807) (hV : I64 V) :
    Calls Try.prog 30 #[.slice A n c, .int .i64 V] w fun e w' => ∃ A c, e = .returned (.slice A r.length c) ∧ (r.length ≤ c ∧ c ≤ maxLen ∧ SlAt encExt w' (Bl w'.heap.size) A r) ∧ Below w.heap.size w w' := by
  subst hn hr
  exact (refExtents_any A c l V w h1 hs hV).mono fun _ _ h => by
    obtain ⟨A, c, h1, h2, h3, h4, h5⟩ := h.sl
    exact ⟨A, c, h1, ⟨h2, h3, h4.more (fun _ h => h.2)⟩, h5⟩
theorem extSameX (A A' : Option Addr) (c c' n m : Nat) (l k : List Ext) (hn : l.length = n) (hm : k.length = m) (w : World) (h1 : SlAt encExt w (Bl w.heap.size) A l) (h2 : SlAt encExt w (Bl w.heap.size) A' k) (hs : n ≤ 9223372036854775807) (ht : m ≤ 9223372036854775807) (he : l = k) :
    Calls Try.prog 29 #[.slice A n c, .slice A' m c'] w fun e w' => e = .returned (.bool true) ∧ Below w.heap.size w w' := by
  subst hn hm he
  exact (extSame_any A A' c c' _ _ l l w h1 h2 hs ht).mono fun _ _ ⟨h1, h2⟩ => ⟨by rw [h1]; simp, h2.below _⟩
theorem refSectorsX (A : Option Addr) (c n t : Nat) (l : List Wr) (w : World) (hn : l.length = n) (ht : sectsL l = t) (h1 : SlAt encWr w (Bl w.heap.size) A l) (hs : n ≤ 9223372036854775807) (hs2 : t ≤ 9223372036854775807) :
    Calls Try.prog 31 #[.slice A n c] w fun e w' => e = .returned (.int .i64 t) ∧ w = w' := by
  subst hn ht
  exact (refSectors_any A c _ l w h1 hs hs2).mono fun _ _ ⟨h1, h2⟩ => ⟨h1, h2.symm⟩
theorem few_sects {l : List Wr} (h : fewL l = true) : sectsL l ≤ 960 := by
  have hl := few_len h
  have h24 : ∀ x ∈ l, x.2.2.length ≤ 24 := by
    unfold fewL at h
    rw [Bool.and_eq_true] at h
    intro x hx
    have := List.all_eq_true.1 h.2 x hx
    simpa using this
  have key : ∀ m : List Wr, (∀ x ∈ m, x.2.2.length ≤ 24) → sectsL m ≤ 24 * m.length := by
    intro m
    induction m with
    | nil => intro _; simp [sectsL]
    | cons x m ih =>
      intro hm
      have h1 := ih (fun y hy => hm y (by simp [hy]))
      have h2 := hm x (by simp)
      unfold sectsL at h1 ⊢
      simp only [List.map_cons, List.sum_cons, List.length_cons]
      omega
  have := key l h24
  omega
set_option maxHeartbeats 8000000 in
set_option maxRecDepth 100000 in
theorem selects_any (A A2 : Option Addr) (c c2 : Nat) (l : List Wr) (v s : Int) (keep : List Ext) (w : World) (h1 : SlAt encWr w (Bl w.heap.size) A l) (k1 : l.length ≤ c) (k1' : c ≤ maxLen) (hv : I64 v) (hs : I64 s) (h2 : SlAt encExt w (Bl w.heap.size) A2 keep) (k2 : keep.length ≤ c2) (k2' : c2 ≤ maxLen) :
    Calls Try.prog 9 #[.slice A l.length c, .agg #[.int .i64 v, .int .i64 s, .slice A2 keep.length c2]] w (LawRet w) := by
  have H1 := Lib.hid h1; clear h1
  have H2 := Lib.hid h2; clear h2
  have HV := Lib.hid hv; have HSS := Lib.hid hs; clear hv hs
  obtain ⟨q1, HQ1⟩ : ∃ q, Hid (fewL l = q) := ⟨_, Lib.hid rfl⟩
  have hl1 := max_len k1 k1'
  have hl2 := max_len k2 k2'
  have hb0 : Below w.heap.size w (w.alloc (.cells #[.int .i64 v, .int .i64 s, .slice A2 keep.length c2] 50)) := ext_alloc (Below.refl w.heap.size w)
  have HBX : Hid (∀ w', Below (w.alloc (.cells #[.int .i64 v, .int .i64 s, .slice A2 keep.length c2] 50)).heap.size (w.alloc (.cells #[.int .i64 v, .int .i64 s, .slice A2 keep.length c2] 50)) w' → w'.heap[w.heap.size]? = some (.cells #[.int .i64 v, .int .i64 s, .slice A2 keep.length c2] 50 (0, 0))) := fun w' hb => (hb.block _ (by simp)).trans (heap_alloc_new _ _)
  go_enter Try.func9, Try.ntmps9
  go_wp2_with fail
  refine (fewX _ _ _ _ q1 HQ1.out (H1.out.fwd hb0) hl1).mono ?_
  rintro e w' ⟨rfl, rfl⟩
  generalize hw0 : w.alloc (.cells #[.int .i64 v, .int .i64 s, .slice A2 keep.length c2] 50) = w0 at *
  clear hw0
  cases q1 with
  | false =>
    go_wp2_with fail
    refine (awake_any _).mono ?_
    rintro e w99 ⟨rfl, hb99⟩
    have hend : Below w.heap.size w w99 := (by repeat (first | exact Below.refl _ _ | assumption | refine ext_alloc ?_ | refine ext_drew ?_ | refine ext_trans ?_ (by assumption)))
    go_wp2
    go_ret
    exact ⟨rfl, hend⟩
  | true =>
    obtain ⟨t0, t1, t2, tf⟩ := blk3 (HBX.out w0 (Below.refl _ _))
    by_cases ck : 20 < keep.length
    · have ck' : decide ((20 : Int) < keep.length) = true := decide_eq_true (by omega)
      go_wp2_with fail
      refine (awake_any _).mono ?_
      rintro e w99 ⟨rfl, hb99⟩
      have hend : Below w.heap.size w w99 := (by repeat (first | exact Below.refl _ _ | assumption | refine ext_alloc ?_ | refine ext_drew ?_ | refine ext_trans ?_ (by assumption)))
      go_wp2
      go_ret
      exact ⟨rfl, hend⟩
    · have ck' : decide ((20 : Int) < keep.length) = false := decide_eq_false (by omega)
      have hlf := few_len HQ1.out
      obtain ⟨r, hr⟩ : ∃ r, Hid (restrictL l v keep = r) := ⟨_, Lib.hid rfl⟩
      obtain ⟨en, hen⟩ : ∃ en, Hid (chkN placedN l = en) := ⟨_, Lib.hid rfl⟩
      go_wp2_with fail
      refine (restrictN A A2 c c2 _ _ l v keep r en rfl rfl hr.out hen.out _ (H1.out.fwd hb0) (H2.out.fwd hb0) hl1 hl2).mono ?_
      rintro e w1 ⟨A3, c3, rfl, hs1, hb1⟩
      have HS1 := Lib.hid hs1; clear hs1 t0 t1 t2 tf
      obtain ⟨t0, t1, t2, tf⟩ := blk3 (HBX.out w1 hb1)
      go_wp2_with fail
      refine (refRestrictN A A2 c c2 _ _ l v keep r en rfl rfl hr.out hen.out _ (H1.out.fwd (ext_trans hb0 hb1)) (H2.out.fwd (ext_trans hb0 hb1)) hl1 hl2 HV.out).mono ?_
      rintro e w2 ⟨A4, c4, rfl, hs2, hb2⟩
      have HS2 := Lib.hid hs2; clear hs2 t0 t1 t2 tf
      have hB2 : Below w0.heap.size w0 w2 := ext_trans hb1 hb2
      obtain ⟨t0, t1, t2, tf⟩ := blk3 (HBX.out w2 hB2)
      go_wp2_with fail
      refine (lookup_any A c l v s _ (H1.out.fwd (ext_trans hb0 hB2)) hl1 HV.out HSS.out).mono ?_
      rintro e w3 ⟨x0, x1, x2, x3, x4, x5, x6, x7, q, rfl, hok3, hq3, hx3, hb3⟩
      have HQ3 := Lib.hid hq3; have HX3 := Lib.hid hx3; clear hok3 hq3 hx3 t0 t1 t2 tf
      have hB3 : Below w0.heap.size w0 (w3.alloc (.cells #[.int .u8 x0, .int .u8 x1, .int .u8 x2, .int .u8 x3, .int .u8 x4, .int .u8 x5, .int .u8 x6, .int .u8 x7] 53)) := ext_alloc (ext_trans hB2 hb3)
      have hsz3 : w0.heap.size ≤ w3.heap.size := (ext_trans hB2 hb3).size
      have HBX3 := (HBX.out _ hB3)
      obtain ⟨t0, t1, t2, tf⟩ := blk3 HBX3
      go_wp2_with fail
      refine (refLookup_any A c l v s _ (H1.out.fwd (ext_trans hb0 hB3)) hl1 HV.out HSS.out).mono ?_
      rintro e w4 ⟨y0, y1, y2, y3, y4, y5, y6, y7, q', rfl, hok4, hq4, hx4, hb4⟩
      have hqq : q' = q := by rw [hq4, HQ3.out]
      subst hqq
      have hxx := HX3.out.symm.trans hx4
      simp only [List.cons.injEq, and_true] at hxx
      obtain ⟨rfl, rfl, rfl, rfl, rfl, rfl, rfl, rfl⟩ := hxx
      clear hok4 hq4 hx4 t0 t1 t2 tf HBX3
      have hB4 : Below w0.heap.size w0 (w4.alloc (.cells #[.int .u8 x0, .int .u8 x1, .int .u8 x2, .int .u8 x3, .int .u8 x4, .int .u8 x5, .int .u8 x6, .int .u8 x7] 53)) := ext_alloc (ext_trans hB3 hb4)
      have hB23 : Below w2.heap.size w2 (w4.alloc (.cells #[.int .u8 x0, .int .u8 x1, .int .u8 x2, .int .u8 x3, .int .u8 x4, .int .u8 x5, .int .u8 x6, .int .u8 x7] 53)) := ext_alloc (ext_trans (ext_alloc hb3) hb4)
      have hz3 : (w4.alloc (.cells #[.int .u8 x0, .int .u8 x1, .int .u8 x2, .int .u8 x3, .int .u8 x4, .int .u8 x5, .int .u8 x6, .int .u8 x7] 53)).heap[w3.heap.size]? = some (.cells #[.int .u8 x0, .int .u8 x1, .int .u8 x2, .int .u8 x3, .int .u8 x4, .int .u8 x5, .int .u8 x6, .int .u8 x7] 53 (0, 0)) :=
        (Below.heap_alloc _ _ _ (by have := hb4.size; simp at this; omega)).trans ((hb4.block _ (by simp)).trans (heap_alloc_new _ _))
      have hz4 := heap_alloc_new w4 (.cells #[.int .u8 x0, .int .u8 x1, .int .u8 x2, .int .u8 x3, .int .u8 x4, .int .u8 x5, .int .u8 x6, .int .u8 x7] 53)
      have HZ3 := Lib.hid hz3; have HZ4 := Lib.hid hz4
      have hl4 := (Array.getElem?_eq_some_iff.1 hz4).1
      have hl3 := (Array.getElem?_eq_some_iff.1 hz3).1
      clear hz3 hz4
      go_wp2_with fail
      refine (sameX _ _ _ _ _ _ r r rfl rfl _ ((HS1.out.2.2.fwd hb2).fwd hB23) (HS2.out.2.2.fwd hB23) (max_len HS1.out.1 HS1.out.2.1) (max_len HS2.out.1 HS2.out.2.1) rfl).mono ?_
      rintro e w5 ⟨rfl, hb5⟩
      have hB5 : Below w0.heap.size w0 w5 := ext_trans hB4 hb5
      obtain ⟨s0, s1, s2, s3, s4, s5, s6, s7, _⟩ := blk8 ((hb5.block _ hl3).trans HZ3.out)
      obtain ⟨r0, r1, r2, r3, r4, r5, r6, r7, _⟩ := blk8 ((hb5.block _ hl4).trans HZ4.out)
      have hse := secSelf x0 x1 x2 x3 x4 x5 x6 x7
      clear hl3 hl4
      have HL : Hid (∀ w', Below w5.heap.size w5 w' → SlAt encWr w' (Bl w'.heap.size) A l) := fun w' hb => H1.out.fwd (ext_trans hb0 (ext_trans hB5 hb))
      have HC : Hid (∀ w', Below w5.heap.size w5 w' → w'.cell? ⟨w.heap.size, 0, none⟩ = some (.int .i64 v)) := fun w' hb => cell_of_row _ _ 0 _ _ _ (HBX.out w' (ext_trans hB5 hb))
      obtain ⟨es, hes⟩ : ∃ es, Hid (runsL (secsOf l v) = es) := ⟨_, Lib.hid rfl⟩
      obtain ⟨t, ht⟩ : ∃ t, Hid (sectsL l = t) := ⟨_, Lib.hid rfl⟩
      have ht2 : t ≤ 9223372036854775807 := by
        have := few_sects HQ1.out
        rw [ht.out] at this
        omega
      go_wp2_with fail
      clear s0 s1 s2 s3 s4 s5 s6 s7 r0 r1 r2 r3 r4 r5 r6 r7 hse
      have hc5 : w5.drew.cell? ⟨w.heap.size, 0, none⟩ = some (.int .i64 v) := HC.out _ (Below.refl _ _).drew
      go_region_held3 (fun w' => w'.cell? ⟨w.heap.size, 0, none⟩ = some (.int .i64 v))
        (first | exact hc5 | exact HC.out _ (Below.refl _ _) | exact HC.out _ hx6 | exact HC.out _ hx7 | exact HC.out _ hx8 | exact HC.out _ hx9 | exact HC.out _ hx11)
        (first | (go_at_call 24; refine (extentsX A c _ l v es rfl hes.out _ (HL.out _ (Below.refl _ _).drew) (by omega) HV.out).mono ?_; rintro e w6 ⟨A6, c6, rfl, hs6, hb6⟩; have hx6 : Below w5.heap.size w5 w6 := bUn hb6; have HS6 := Lib.hid hs6; clear hs6) | (go_at_call 30; refine (refExtentsX A c _ l v es rfl hes.out w6 (HL.out _ hx6) hl1 HV.out).mono ?_; rintro e w7 ⟨A7, c7, rfl, hs7, hb7⟩; have hx7 : Below w5.heap.size w5 w7 := ext_trans hx6 hb7; have HS7 := Lib.hid hs7; clear hs7) | (go_at_call 29; refine (extSameX A6 A7 c6 c7 _ _ es es rfl rfl w7 (HS6.out.2.2.fwd hb7) HS7.out.2.2 (max_len HS6.out.1 HS6.out.2.1) (max_len HS7.out.1 HS7.out.2.1) rfl).mono ?_; rintro e w8 ⟨rfl, hb8⟩; have hx8 : Below w5.heap.size w5 w8 := ext_trans hx7 hb8) | (go_at_call 25; refine (sectorsX A c _ t l w8 rfl ht.out (HL.out _ hx8) hl1 ht2).mono ?_; rintro e w9 ⟨rfl, hb9⟩; have hx9 : Below w5.heap.size w5 w9 := ext_trans hx8 hb9) | (go_at_call 31; refine (refSectorsX A c _ t l w9 rfl ht.out (HL.out _ hx9) hl1 ht2).mono ?_; rintro e w10 ⟨rfl, rfl⟩) | (go_at_call 13; refine (awake_any _).mono ?_; rintro e w11 ⟨rfl, hb11⟩; have hx11 : Below w5.heap.size w5 w11 := ext_trans hx9 hb11))
      go_wp2
      go_ret
      exact ⟨rfl, ext_trans hb0 (ext_trans hB5 hx11)⟩
end Go.Proofs.Ytfahbhjlkdcnpaa

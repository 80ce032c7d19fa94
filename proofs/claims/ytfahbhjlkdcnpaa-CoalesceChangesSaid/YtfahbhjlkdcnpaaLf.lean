/-
  The walk of the law CoalesceFinds.
-/
import Derived.Test.YtfahbhjlkdcnpaaLd
set_option linter.unusedVariables false
set_option linter.unusedSimpArgs false
set_option linter.unusedSectionVars false
set_option linter.unnecessarySimpa false
namespace Go.Proofs.Ytfahbhjlkdcnpaa
open Go.RowKit Go.ChangeMaps

def RowIs (w : World) (b : Nat) (s : Sec) : Prop := ∃ x0 x1 x2 x3 x4 x5 x6 x7, s = [x0, x1, x2, x3, x4, x5, x6, x7] ∧ w.heap[b]? = some (.cells #[.int .u8 x0, .int .u8 x1, .int .u8 x2, .int .u8 x3, .int .u8 x4, .int .u8 x5, .int .u8 x6, .int .u8 x7] 53 (0, 0))
theorem foldN (A : Option Addr) (c n : Nat) (l r : List Wr) (en : Int) (hn : l.length = n) (hr : foldL l = r) (he : errOf placedN l = en) (w : World) (h1 : SlAt encWr w (Bl w.heap.size) A l) (hs : n ≤ 9223372036854775807) :
    Calls Try.prog 14 #[.slice A n c] w fun e w' => ∃ A c, e = .returned (.tuple #[.slice A r.length c, .int .i64 en]) ∧ (r.length ≤ c ∧ c ≤ maxLen ∧ SlAt encWr w' (Bl w'.heap.size) A r) ∧ Below w.heap.size w w' := by
  subst hn hr he
  exact (fold_any A c l w h1 hs).mono fun _ _ h => h.bl
theorem lookupX (A : Option Addr) (c n : Nat) (l : List Wr) (V S : Int) (o : Option Sec) (hn : l.length = n) (ho : look l V S = o) (w : World) (h1 : SlAt encWr w (Bl w.heap.size) A l) (hs : n ≤ 9223372036854775807) (h3 : I64 V) (h4 : I64 S) :
    Calls Try.prog 27 #[.slice A n c, .int .i64 V, .int .i64 S] w fun e w' => ∃ x0 x1 x2 x3 x4 x5 x6 x7, e = .returned (.tuple #[.agg #[.int .u8 x0, .int .u8 x1, .int .u8 x2, .int .u8 x3, .int .u8 x4, .int .u8 x5, .int .u8 x6, .int .u8 x7], .bool o.isSome]) ∧
      o.getD zsec = [x0, x1, x2, x3, x4, x5, x6, x7] ∧ Below w.heap.size w w' := by
  subst hn ho
  refine (lookup_any A c l V S w h1 hs h3 h4).mono ?_
  rintro e w' ⟨x0, x1, x2, x3, x4, x5, x6, x7, q, h1, h2, h3, h4, h5⟩
  exact ⟨x0, x1, x2, x3, x4, x5, x6, x7, by rw [h1, h3], h4, h5⟩
theorem containsX (A : Option Addr) (c n : Nat) (l : List Ext) (x : Int) (q : Bool) (hn : l.length = n) (hq : l.any (inExt x) = q) (w : World) (h1 : SlAt encExt w (Bl w.heap.size) A l) (hs : n ≤ 9223372036854775807) :
    Calls Try.prog 32 #[.slice A n c, .int .i64 x] w fun e w' => e = .returned (.bool q) ∧ Below w.heap.size w w' := by
  subst hn
  exact contains_any A c l x w h1 hs q hq
set_option maxHeartbeats 4000000 in
set_option maxRecDepth 100000 in
theorem finds_any (A A2 : Option Addr) (c c2 : Nat) (l : List Wr) (v s : Int) (keep : List Ext) (w : World) (h1 : SlAt encWr w (Bl w.heap.size) A l) (k1 : l.length ≤ c) (k1' : c ≤ maxLen) (hv : I64 v) (hs : I64 s) :
    Calls Try.prog 10 #[.slice A l.length c, .agg #[.int .i64 v, .int .i64 s, .slice A2 keep.length c2]] w (LawRet w) := by
  have H1 := Lib.hid h1; clear h1
  have HV := Lib.hid hv; have HSS := Lib.hid hs; clear hv hs
  obtain ⟨q1, HQ1⟩ : ∃ q, Hid (fewL l = q) := ⟨_, Lib.hid rfl⟩
  have hl1 := max_len k1 k1'
  have hb0 : Below w.heap.size w (w.alloc (.cells #[.int .i64 v, .int .i64 s, .slice A2 keep.length c2] 50)) := ext_alloc (Below.refl w.heap.size w)
  have HBX : Hid (∀ w', Below (w.alloc (.cells #[.int .i64 v, .int .i64 s, .slice A2 keep.length c2] 50)).heap.size (w.alloc (.cells #[.int .i64 v, .int .i64 s, .slice A2 keep.length c2] 50)) w' → w'.heap[w.heap.size]? = some (.cells #[.int .i64 v, .int .i64 s, .slice A2 keep.length c2] 50 (0, 0))) := fun w' hb => (hb.block _ (by simp)).trans (heap_alloc_new _ _)
  have hwl : w.heap.size < (w.alloc (.cells #[.int .i64 v, .int .i64 s, .slice A2 keep.length c2] 50)).heap.size := by simp
  go_enter Try.func10, Try.ntmps10
  go_wp2_with fail
  refine (fewX _ _ _ _ q1 HQ1.out (H1.out.fwd hb0) hl1).mono ?_
  rintro e w' ⟨rfl, rfl⟩
  generalize hw0 : w.alloc (.cells #[.int .i64 v, .int .i64 s, .slice A2 keep.length c2] 50) = w0 at *
  clear hw0
  cases q1 with
  | false =>
    go_wp2_with fail
    refine (awake_any _).mono ?_
    rintro e w99 ⟨rfl, hb99⟩
    have hend : Below w.heap.size w w99 := (by repeat (first | exact Below.refl _ _ | assumption | refine ext_alloc ?_ | refine ext_drew ?_ | refine ext_trans ?_ (by assumption)))
    go_wp2
    go_ret
    exact ⟨rfl, hend⟩
  | true =>
    have hlf := few_len HQ1.out
    obtain ⟨f, hf⟩ : ∃ r, Hid (foldL l = r) := ⟨_, Lib.hid rfl⟩
    obtain ⟨en, hen⟩ : ∃ en, Hid (errOf placedN l = en) := ⟨_, Lib.hid rfl⟩
    go_wp2_with fail
    refine (foldN A c _ l f en rfl hf.out hen.out w0 (H1.out.fwd hb0) hl1).mono ?_
    rintro e w1 ⟨A3, c3, rfl, hs1, hb1⟩
    have HS1 := Lib.hid hs1; clear hs1
    by_cases g1 : en = 0
    · have g1' : (en != 0) = false := by simp [g1]
      have G1 := Lib.hid g1; clear g1
      have HP : Hid (∀ x ∈ l, placedN x = 0) := errOf_conv2 (hen.out.trans G1.out)
      have HF : Hid (f = foldS l) := by rw [Hid, ← hf.out, foldL, hen.out, if_pos G1.out]
      have hfl : f.length ≤ 32768 := by rw [HF.out]; exact foldS_len _
      have hsz1 := hb1.size
      have HL : Hid (∀ w', Below w1.heap.size w1 w' → SlAt encWr w' (Bl w1.heap.size) A l) := fun w' hb => ((H1.out.fwd hb0).fwd hb1).below hb
      have HFF : Hid (∀ w', Below w1.heap.size w1 w' → SlAt encWr w' (Bl w'.heap.size) A3 f) := fun w' hb => HS1.out.2.2.fwd hb
      go_wp2_with fail
      go_loopw [8, 30] (fun fo i wr => ∃ (k : Nat) (o : Option Sec), k ≤ l.length ∧ i = .int .i64 k ∧ fo = .bool o.isSome ∧ Hid (look (l.take k) v s = o) ∧ Below w1.heap.size w1 wr ∧ Hid (RowIs wr w1.heap.size (o.getD zsec))) (fun _ i _ => l.length - (intOf i).toNat)
      case atStart => exact ⟨0, none, by omega, rfl, rfl, rfl, ext_alloc (Below.refl _ _), 0, 0, 0, 0, 0, 0, 0, 0, rfl, heap_alloc_new _ _⟩
      case round =>
        obtain ⟨k, o, hk, rfl, rfl, ho, hB, hrow⟩ := hrel
        have hB0 : Below w0.heap.size w0 wr := ext_trans hb1 hB
        obtain ⟨x0, x1, x2, x3, x4, x5, x6, x7, hx, hrow⟩ := hrow.out
        have hwr := (Array.getElem?_eq_some_iff.1 hrow).1
        have hwl2 : w.heap.size < wr.heap.size := by omega
        by_cases hlt : k < l.length
        · obtain ⟨b, off, D, dc, rfl, hb, e0, e1, e2, hD, hn1, hn2, hi1, hi2⟩ := (HL.out wr hB).wr hlt
          have hbl : b < w1.heap.size := hb
          have hnn : (0 : Int) ≤ k := by omega
          have hki : (k : Int) < l.length := by omega
          unfold maxLen at hn2
          obtain ⟨p1, p2, p3, p4, p5⟩ := placed_ok (HP.out l[k] (List.getElem_mem hlt))
          obtain ⟨y, hy⟩ : ∃ y, Hid (y = l[k]'hlt) := ⟨_, Lib.hid rfl⟩
          rw [← hy.out] at e0 e1 e2 hn1 hi1 hi2 hD p1 p2 p3 p4 p5
          obtain ⟨v', s', data⟩ := y
          simp only at e0 e1 e2 hn1 hi1 hi2 hD p1 p2 p3 p4 p5
          have hls : Hid (look (l.take (k + 1)) v s = if hits (v', s', data) v s then some (datum (v', s', data) s) else o) := by
            rw [Hid, List.take_succ_eq_append_getElem hlt, look_snoc, ← hy.out, ho.out]
          obtain ⟨t0, t1, t2, tf⟩ := blk3 (HBX.out wr hB0)
          obtain ⟨z0, z1, z2, z3, z4, z5, z6, z7, zf⟩ := blk8 hrow
          have HR := Lib.hid hrow; have HX := Lib.hid hx
          clear hrow hx
          by_cases d1 : v' = v
          · have d1' : (v' == v) = true := by simp [d1]
            have D1 := Lib.hid d1; clear d1
            by_cases d2 : s' ≤ s
            · have hss := HSS.out
              unfold I64 at hss
              obtain ⟨hss1, hss2⟩ := hss
              by_cases d3 : s - s' < data.length
              · go_upto_region 13 with (fail)
                obtain ⟨kn, hkn⟩ : ∃ kn : Nat, s - s' = kn := ⟨(s - s').toNat, by omega⟩
                rw [hkn]
                rw [hkn] at d3
                have d3n : kn < data.length := by omega
                have HKN := Lib.hid hkn; clear hkn
                obtain ⟨b2, off2, y0, y1, y2, y3, y4, y5, y6, y7, rfl, hb2, hy2, hok2, f0, f1, f2, f3, f4, f5, f6, f7⟩ := hD.sec d3n
                have hbl2 : b2 < w1.heap.size := hb2
                have hkn0 : (0 : Int) ≤ kn := by omega
                have hh : Hid (hits (v', s', data) v s) := ⟨D1.out, by have := HKN.out; simp only; omega⟩
                have hdt : Hid (datum (v', s', data) s = [y0, y1, y2, y3, y4, y5, y6, y7]) := by
                  rw [Hid, ← hy2]
                  have e1 : (s - s').toNat = kn := by have := HKN.out; omega
                  simp [datum, e1, d3n]
                have hr8 := Lib.hid (set8_row HR.out (.int .u8 y0) (.int .u8 y1) (.int .u8 y2) (.int .u8 y3) (.int .u8 y4) (.int .u8 y5) (.int .u8 y6) (.int .u8 y7))
                clear hy2 hok2
                have hbl3 : b2 < wr.heap.size := by omega
                have hne2 : b2 ≠ wr.heap.size := by omega
                have hne1 : w1.heap.size ≠ wr.heap.size := by omega
                have hB2 : Below w1.heap.size w1 ((set8 wr w1.heap.size (.int .u8 y0) (.int .u8 y1) (.int .u8 y2) (.int .u8 y3) (.int .u8 y4) (.int .u8 y5) (.int .u8 y6) (.int .u8 y7)).alloc (.cells #[.int .i64 v', .int .i64 s', .slice (some ⟨b2, off2, none⟩) data.length dc] 35)) := (set8_below hB (Nat.le_refl _) _ _ _ _ _ _ _ _).alloc (by simp [set8, World.setCell]; omega) _
                have hrw : Hid (RowIs ((set8 wr w1.heap.size (.int .u8 y0) (.int .u8 y1) (.int .u8 y2) (.int .u8 y3) (.int .u8 y4) (.int .u8 y5) (.int .u8 y6) (.int .u8 y7)).alloc (.cells #[.int .i64 v', .int .i64 s', .slice (some ⟨b2, off2, none⟩) data.length dc] 35)) w1.heap.size [y0, y1, y2, y3, y4, y5, y6, y7]) := ⟨y0, y1, y2, y3, y4, y5, y6, y7, rfl, (Below.heap_alloc _ _ _ (by simp [set8, World.setCell]; exact hwr)).trans hr8.out⟩
                go_wp2_with fail
                go_roundw
                case rel => exact ⟨k + 1, some [y0, y1, y2, y3, y4, y5, y6, y7], hlt, by go_num, rfl, by rw [Hid, hls.out, if_pos hh.out, hdt.out], hB2, hrw.out⟩
                case measure => simp [intOf]; omega
              · have hno : Hid (¬ hits (v', s', data) v s) := fun h => by have := h.2.2; simp only at this; omega
                have hB2 : Below w1.heap.size w1 (wr.alloc (.cells #[.int .i64 v', .int .i64 s', .slice D data.length dc] 35)) := ext_alloc hB
                have hrw : Hid (RowIs (wr.alloc (.cells #[.int .i64 v', .int .i64 s', .slice D data.length dc] 35)) w1.heap.size (o.getD zsec)) := ⟨x0, x1, x2, x3, x4, x5, x6, x7, HX.out, (Below.heap_alloc _ _ _ hwr).trans HR.out⟩
                go_wp2_with fail
                go_roundw
                case rel => exact ⟨k + 1, o, hlt, by go_num, rfl, by rw [Hid, hls.out, if_neg hno.out], hB2, hrw.out⟩
                case measure => simp [intOf]; omega
            · have hno : Hid (¬ hits (v', s', data) v s) := fun h => by have := h.2.1; simp only at this; omega
              have hB2 : Below w1.heap.size w1 (wr.alloc (.cells #[.int .i64 v', .int .i64 s', .slice D data.length dc] 35)) := ext_alloc hB
              have hrw : Hid (RowIs (wr.alloc (.cells #[.int .i64 v', .int .i64 s', .slice D data.length dc] 35)) w1.heap.size (o.getD zsec)) := ⟨x0, x1, x2, x3, x4, x5, x6, x7, HX.out, (Below.heap_alloc _ _ _ hwr).trans HR.out⟩
              go_wp2_with fail
              go_roundw
              case rel => exact ⟨k + 1, o, hlt, by go_num, rfl, by rw [Hid, hls.out, if_neg hno.out], hB2, hrw.out⟩
              case measure => simp [intOf]; omega
          · have d1' : (v' == v) = false := by simp [d1]
            have hno : Hid (¬ hits (v', s', data) v s) := fun h => d1 h.1
            have D1 := Lib.hid d1; clear d1
            have hB2 : Below w1.heap.size w1 (wr.alloc (.cells #[.int .i64 v', .int .i64 s', .slice D data.length dc] 35)) := ext_alloc hB
            have hrw : Hid (RowIs (wr.alloc (.cells #[.int .i64 v', .int .i64 s', .slice D data.length dc] 35)) w1.heap.size (o.getD zsec)) := ⟨x0, x1, x2, x3, x4, x5, x6, x7, HX.out, (Below.heap_alloc _ _ _ hwr).trans HR.out⟩
            go_wp2_with fail
            go_roundw
            case rel => exact ⟨k + 1, o, hlt, by go_num, rfl, by rw [Hid, hls.out, if_neg hno.out], hB2, hrw.out⟩
            case measure => simp [intOf]; omega
        · have hkk : k = l.length := by omega
          subst hkk
          have ho2 : Hid (look l v s = o) := by have := ho.out; rwa [List.take_length] at this
          have hlf2 : Hid (look f v s = o) := by rw [Hid, HF.out, look_fold HP.out, ho2.out]
          obtain ⟨es, hes⟩ : ∃ es, Hid (runsL (secsOf f v) = es) := ⟨_, Lib.hid rfl⟩
          have hel : es.length ≤ 4096 := by rw [← hes.out]; exact Nat.le_trans (runsL_bound 4096 (secsOf f v) (secsOf_mem f v)).2 (secsOf_len f v)
          have hcon : Hid (es.any (inExt s) = o.isSome) := by
            rw [Hid, ← hes.out, secsOf_below, runs_any _ 4096 (Nat.le_refl _), hlf2.out]
            cases ho3 : o.isSome with
            | false => rw [Bool.and_false]
            | true =>
              have hr := look_range HP.out (V := v) (S := s) (by rw [ho2.out]; exact ho3)
              rw [decide_eq_true ⟨hr.2.2.1, hr.2.2.2⟩]; rfl
          obtain ⟨t0, t1, t2, tf⟩ := blk3 (HBX.out wr hB0)
          have HR := Lib.hid hrow; have HX := Lib.hid hx
          clear hrow hx
          go_wp2_with fail
          refine (lookupX A c _ l v s o rfl ho2.out wr ((HL.out wr hB).more (Bl.mono hB.size)) hl1 HV.out HSS.out).mono ?_
          rintro e w2 ⟨y0, y1, y2, y3, y4, y5, y6, y7, rfl, hy, hb2⟩
          have hxx := HX.out.symm.trans hy
          simp only [List.cons.injEq, and_true] at hxx
          obtain ⟨rfl, rfl, rfl, rfl, rfl, rfl, rfl, rfl⟩ := hxx
          clear hy t0 t1 t2 tf
          have hB2 : Below wr.heap.size wr (w2.alloc (.cells #[.int .u8 x0, .int .u8 x1, .int .u8 x2, .int .u8 x3, .int .u8 x4, .int .u8 x5, .int .u8 x6, .int .u8 x7] 53)) := ext_alloc hb2
          have hz2 := hb2.size
          have hz3 : w.heap.size < w2.heap.size := by omega
          obtain ⟨t0, t1, t2, tf⟩ := blk3 (HBX.out _ (ext_trans hB0 hB2))
          go_wp2_with fail
          refine (lookupX A3 c3 _ f v s o rfl hlf2.out _ (HFF.out _ (ext_trans hB hB2)) (by omega) HV.out HSS.out).mono ?_
          rintro e w3 ⟨y0, y1, y2, y3, y4, y5, y6, y7, rfl, hy, hb3⟩
          have hxx := HX.out.symm.trans hy
          simp only [List.cons.injEq, and_true] at hxx
          obtain ⟨rfl, rfl, rfl, rfl, rfl, rfl, rfl, rfl⟩ := hxx
          clear hy t0 t1 t2 tf
          have hB3 : Below wr.heap.size wr (w3.alloc (.cells #[.int .u8 x0, .int .u8 x1, .int .u8 x2, .int .u8 x3, .int .u8 x4, .int .u8 x5, .int .u8 x6, .int .u8 x7] 53)) := ext_alloc (ext_trans hB2 hb3)
          have h1 := HBX.out _ (ext_trans hB0 hB3)
          have h2 := (hB3.block _ hwr).trans HR.out
          have h3 : (w3.alloc (.cells #[.int .u8 x0, .int .u8 x1, .int .u8 x2, .int .u8 x3, .int .u8 x4, .int .u8 x5, .int .u8 x6, .int .u8 x7] 53)).heap[w2.heap.size]? = some (.cells #[.int .u8 x0, .int .u8 x1, .int .u8 x2, .int .u8 x3, .int .u8 x4, .int .u8 x5, .int .u8 x6, .int .u8 x7] 53 (0, 0)) :=
            (Below.heap_alloc _ _ _ (by have := hb3.size; simp at this; omega)).trans ((hb3.block _ (by simp)).trans (heap_alloc_new _ _))
          have h4 := heap_alloc_new w3 (.cells #[.int .u8 x0, .int .u8 x1, .int .u8 x2, .int .u8 x3, .int .u8 x4, .int .u8 x5, .int .u8 x6, .int .u8 x7] 53)
          have hse := secSelf x0 x1 x2 x3 x4 x5 x6 x7
          have hBw : Below w0.heap.size w0 (w3.alloc (.cells #[.int .u8 x0, .int .u8 x1, .int .u8 x2, .int .u8 x3, .int .u8 x4, .int .u8 x5, .int .u8 x6, .int .u8 x7] 53)) := ext_trans hB0 hB3
          have hBf : Below w1.heap.size w1 (w3.alloc (.cells #[.int .u8 x0, .int .u8 x1, .int .u8 x2, .int .u8 x3, .int .u8 x4, .int .u8 x5, .int .u8 x6, .int .u8 x7] 53)) := ext_trans hB hB3
          obtain ⟨W, hW⟩ : ∃ W, w3.alloc (.cells #[.int .u8 x0, .int .u8 x1, .int .u8 x2, .int .u8 x3, .int .u8 x4, .int .u8 x5, .int .u8 x6, .int .u8 x7] 53) = W := ⟨_, rfl⟩
          go_upto_region 17 with (fail)
          rw [hW] at h1 h2 h3 h4 hBw hBf
          clear hW hB3 hb3
          have HC : Hid (∀ w', Below W.heap.size W w' → w'.cell? ⟨w.heap.size, 0, none⟩ = some (.int .i64 v) ∧ w'.cell? ⟨w.heap.size, 1, none⟩ = some (.int .i64 s) ∧ w'.cell? ⟨w1.heap.size, 0, none⟩ = some (.int .u8 x0) ∧ w'.cell? ⟨w1.heap.size, 1, none⟩ = some (.int .u8 x1) ∧ w'.cell? ⟨w1.heap.size, 2, none⟩ = some (.int .u8 x2) ∧ w'.cell? ⟨w1.heap.size, 3, none⟩ = some (.int .u8 x3) ∧ w'.cell? ⟨w1.heap.size, 4, none⟩ = some (.int .u8 x4) ∧ w'.cell? ⟨w1.heap.size, 5, none⟩ = some (.int .u8 x5) ∧ w'.cell? ⟨w1.heap.size, 6, none⟩ = some (.int .u8 x6) ∧ w'.cell? ⟨w1.heap.size, 7, none⟩ = some (.int .u8 x7) ∧ w'.cell? ⟨w2.heap.size, 0, none⟩ = some (.int .u8 x0) ∧ w'.cell? ⟨w2.heap.size, 1, none⟩ = some (.int .u8 x1) ∧ w'.cell? ⟨w2.heap.size, 2, none⟩ = some (.int .u8 x2) ∧ w'.cell? ⟨w2.heap.size, 3, none⟩ = some (.int .u8 x3) ∧ w'.cell? ⟨w2.heap.size, 4, none⟩ = some (.int .u8 x4) ∧ w'.cell? ⟨w2.heap.size, 5, none⟩ = some (.int .u8 x5) ∧ w'.cell? ⟨w2.heap.size, 6, none⟩ = some (.int .u8 x6) ∧ w'.cell? ⟨w2.heap.size, 7, none⟩ = some (.int .u8 x7) ∧ w'.cell? ⟨w3.heap.size, 0, none⟩ = some (.int .u8 x0) ∧ w'.cell? ⟨w3.heap.size, 1, none⟩ = some (.int .u8 x1) ∧ w'.cell? ⟨w3.heap.size, 2, none⟩ = some (.int .u8 x2) ∧ w'.cell? ⟨w3.heap.size, 3, none⟩ = some (.int .u8 x3) ∧ w'.cell? ⟨w3.heap.size, 4, none⟩ = some (.int .u8 x4) ∧ w'.cell? ⟨w3.heap.size, 5, none⟩ = some (.int .u8 x5) ∧ w'.cell? ⟨w3.heap.size, 6, none⟩ = some (.int .u8 x6) ∧ w'.cell? ⟨w3.heap.size, 7, none⟩ = some (.int .u8 x7)) := fun w' hb => ⟨cell_of_row _ _ 0 _ _ _ ((hb.block _ (Array.getElem?_eq_some_iff.1 h1).1).trans h1), cell_of_row _ _ 1 _ _ _ ((hb.block _ (Array.getElem?_eq_some_iff.1 h1).1).trans h1), cell_of_row _ _ 0 _ _ _ ((hb.block _ (Array.getElem?_eq_some_iff.1 h2).1).trans h2), cell_of_row _ _ 1 _ _ _ ((hb.block _ (Array.getElem?_eq_some_iff.1 h2).1).trans h2), cell_of_row _ _ 2 _ _ _ ((hb.block _ (Array.getElem?_eq_some_iff.1 h2).1).trans h2), cell_of_row _ _ 3 _ _ _ ((hb.block _ (Array.getElem?_eq_some_iff.1 h2).1).trans h2), cell_of_row _ _ 4 _ _ _ ((hb.block _ (Array.getElem?_eq_some_iff.1 h2).1).trans h2), cell_of_row _ _ 5 _ _ _ ((hb.block _ (Array.getElem?_eq_some_iff.1 h2).1).trans h2), cell_of_row _ _ 6 _ _ _ ((hb.block _ (Array.getElem?_eq_some_iff.1 h2).1).trans h2), cell_of_row _ _ 7 _ _ _ ((hb.block _ (Array.getElem?_eq_some_iff.1 h2).1).trans h2), cell_of_row _ _ 0 _ _ _ ((hb.block _ (Array.getElem?_eq_some_iff.1 h3).1).trans h3), cell_of_row _ _ 1 _ _ _ ((hb.block _ (Array.getElem?_eq_some_iff.1 h3).1).trans h3), cell_of_row _ _ 2 _ _ _ ((hb.block _ (Array.getElem?_eq_some_iff.1 h3).1).trans h3), cell_of_row _ _ 3 _ _ _ ((hb.block _ (Array.getElem?_eq_some_iff.1 h3).1).trans h3), cell_of_row _ _ 4 _ _ _ ((hb.block _ (Array.getElem?_eq_some_iff.1 h3).1).trans h3), cell_of_row _ _ 5 _ _ _ ((hb.block _ (Array.getElem?_eq_some_iff.1 h3).1).trans h3), cell_of_row _ _ 6 _ _ _ ((hb.block _ (Array.getElem?_eq_some_iff.1 h3).1).trans h3), cell_of_row _ _ 7 _ _ _ ((hb.block _ (Array.getElem?_eq_some_iff.1 h3).1).trans h3), cell_of_row _ _ 0 _ _ _ ((hb.block _ (Array.getElem?_eq_some_iff.1 h4).1).trans h4), cell_of_row _ _ 1 _ _ _ ((hb.block _ (Array.getElem?_eq_some_iff.1 h4).1).trans h4), cell_of_row _ _ 2 _ _ _ ((hb.block _ (Array.getElem?_eq_some_iff.1 h4).1).trans h4), cell_of_row _ _ 3 _ _ _ ((hb.block _ (Array.getElem?_eq_some_iff.1 h4).1).trans h4), cell_of_row _ _ 4 _ _ _ ((hb.block _ (Array.getElem?_eq_some_iff.1 h4).1).trans h4), cell_of_row _ _ 5 _ _ _ ((hb.block _ (Array.getElem?_eq_some_iff.1 h4).1).trans h4), cell_of_row _ _ 6 _ _ _ ((hb.block _ (Array.getElem?_eq_some_iff.1 h4).1).trans h4), cell_of_row _ _ 7 _ _ _ ((hb.block _ (Array.getElem?_eq_some_iff.1 h4).1).trans h4)⟩
          have hc0 := HC.out W.drew (Below.refl _ _).drew
          clear h1 h2 h3 h4
          go_region_held3 (fun w' => w'.cell? ⟨w.heap.size, 0, none⟩ = some (.int .i64 v) ∧ w'.cell? ⟨w.heap.size, 1, none⟩ = some (.int .i64 s) ∧ w'.cell? ⟨w1.heap.size, 0, none⟩ = some (.int .u8 x0) ∧ w'.cell? ⟨w1.heap.size, 1, none⟩ = some (.int .u8 x1) ∧ w'.cell? ⟨w1.heap.size, 2, none⟩ = some (.int .u8 x2) ∧ w'.cell? ⟨w1.heap.size, 3, none⟩ = some (.int .u8 x3) ∧ w'.cell? ⟨w1.heap.size, 4, none⟩ = some (.int .u8 x4) ∧ w'.cell? ⟨w1.heap.size, 5, none⟩ = some (.int .u8 x5) ∧ w'.cell? ⟨w1.heap.size, 6, none⟩ = some (.int .u8 x6) ∧ w'.cell? ⟨w1.heap.size, 7, none⟩ = some (.int .u8 x7) ∧ w'.cell? ⟨w2.heap.size, 0, none⟩ = some (.int .u8 x0) ∧ w'.cell? ⟨w2.heap.size, 1, none⟩ = some (.int .u8 x1) ∧ w'.cell? ⟨w2.heap.size, 2, none⟩ = some (.int .u8 x2) ∧ w'.cell? ⟨w2.heap.size, 3, none⟩ = some (.int .u8 x3) ∧ w'.cell? ⟨w2.heap.size, 4, none⟩ = some (.int .u8 x4) ∧ w'.cell? ⟨w2.heap.size, 5, none⟩ = some (.int .u8 x5) ∧ w'.cell? ⟨w2.heap.size, 6, none⟩ = some (.int .u8 x6) ∧ w'.cell? ⟨w2.heap.size, 7, none⟩ = some (.int .u8 x7) ∧ w'.cell? ⟨w3.heap.size, 0, none⟩ = some (.int .u8 x0) ∧ w'.cell? ⟨w3.heap.size, 1, none⟩ = some (.int .u8 x1) ∧ w'.cell? ⟨w3.heap.size, 2, none⟩ = some (.int .u8 x2) ∧ w'.cell? ⟨w3.heap.size, 3, none⟩ = some (.int .u8 x3) ∧ w'.cell? ⟨w3.heap.size, 4, none⟩ = some (.int .u8 x4) ∧ w'.cell? ⟨w3.heap.size, 5, none⟩ = some (.int .u8 x5) ∧ w'.cell? ⟨w3.heap.size, 6, none⟩ = some (.int .u8 x6) ∧ w'.cell? ⟨w3.heap.size, 7, none⟩ = some (.int .u8 x7))
            (first | exact hc0 | exact HC.out _ hx5 | exact HC.out _ hx6 | exact HC.out _ hx7)
            (first | (go_at_call 24; refine (extentsX A3 c3 _ f v es rfl hes.out _ (HFF.out _ hBf.drew) (by omega) HV.out).mono ?_; rintro e w5 ⟨A5, c5, rfl, hs5, hb5⟩; have hx5 : Below W.heap.size W w5 := bUn hb5; have HS5 := Lib.hid hs5; clear hs5) | (go_at_call 32; refine (containsX A5 c5 _ es s o.isSome rfl hcon.out w5 HS5.out.2.2 (by omega)).mono ?_; rintro e w6 ⟨rfl, hb6⟩; have hx6 : Below W.heap.size W w6 := ext_trans hx5 hb6) | (go_at_call 13; refine (awake_any _).mono ?_; rintro e w7 ⟨rfl, hb7⟩; have hx7 : Below W.heap.size W w7 := ext_trans hx6 hb7))
          go_wp2
          go_ret
          exact ⟨rfl, ext_trans hb0 (ext_trans hBw hx7)⟩
    · have g1' : (en != 0) = true := by simp [g1]
      have G1 := Lib.hid g1; clear g1
      go_wp2_with fail
      refine (awake_any _).mono ?_
      rintro e w99 ⟨rfl, hb99⟩
      have hend : Below w.heap.size w w99 := (by repeat (first | exact Below.refl _ _ | assumption | refine ext_alloc ?_ | refine ext_drew ?_ | refine ext_trans ?_ (by assumption)))
      go_wp2
      go_ret
      exact ⟨rfl, hend⟩
end Go.Proofs.Ytfahbhjlkdcnpaa

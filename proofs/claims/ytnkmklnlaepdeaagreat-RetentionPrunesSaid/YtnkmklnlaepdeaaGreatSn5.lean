/-
  The law's write: a list of one write.
  The reference's sizes of an image.
  The reference's copy of an image.
  The reference compares images.
-/
import Derived.Test.YtnkmklnlaepdeaaGreatSn4
import Derived.Test.YtnkmklnlaepdeaaGreatMap
set_option linter.unusedVariables false
set_option linter.unusedSimpArgs false
set_option linter.unusedSectionVars false
set_option linter.unnecessarySimpa false
namespace Go.Proofs.YtnkmklnlaepdeaaGreat
open Go.RowKit Go.Shelf
attribute [local go_sem] Oper.semAt_some

def sB (k : Int) : Sec := [k, 0, 0, 0, 0, 0, 0, 0]
theorem sB_ok {k : Int} (h : 0 ≤ k ∧ k < 256) : OkSec (sB k) := by
  refine ⟨rfl, fun x hx => ?_⟩
  simp [sB] at hx
  omega
theorem tySecs36 : SliceTy Tryz.prog 55 54 8 8 := sliceTy_mk (z := .agg #[.int .u8 0, .int .u8 0, .int .u8 0, .int .u8 0, .int .u8 0, .int .u8 0, .int .u8 0, .int .u8 0]) Tryz.underlying55 (by kernel_rfl) rfl (by decide)
def BytesAt (A : Option Addr) (bs : List Int) (w : World) (B : Nat) : Prop := ∀ k (hk : k < bs.length), ∃ b off, A = some ⟨b, off, none⟩ ∧ b < B ∧ w.cell? ⟨b, off + k, none⟩ = some (.int .u8 bs[k]) ∧ 0 ≤ bs[k] ∧ bs[k] < 256
end Go.Proofs.YtnkmklnlaepdeaaGreat

namespace Go.Proofs.YtnkmklnlaepdeaaGreat
open Go.RowKit Go.Shelf
attribute [local go_sem] Oper.semAt_some

set_option maxHeartbeats 2000000 in
theorem refSizesOf_any (A : Option Addr) (c n : Nat) (l : Img) (w : World) (hn : l.length = n) (h1 : SlAt (encSl encSec) w (Bl w.heap.size) A l) (hl : n ≤ 1000000) :
    Calls Tryz.prog 48 #[.slice A n c] w (RetSl encInt (lens l) w) := by
  subst hn
  have H1 : Hid (∀ w', Below w.heap.size w w' → SlAt (encSl encSec) w' (Bl w.heap.size) A l) := fun w' hb => h1.below hb
  clear h1
  go_enter Tryz.func48, Tryz.ntmps48
  go_wp2
  go_loopw [3, 4] (fun v i wr => ∃ (k : Nat) (B : Option Addr) (vc : Nat) (out : List Int), k ≤ l.length ∧ i = .int .i64 k ∧ v = .slice B out.length vc ∧ Below w.heap.size w wr ∧ Hid (out = lens (l.take k)) ∧ Hid (OwnW encInt wr w.heap.size w.heap.size 3 (.slice B out.length vc) out)) (fun _ i _ => l.length - (intOf i).toNat)
  case atStart => exact ⟨0, none, 0, [], by omega, rfl, rfl, Below.refl _ _, by simp [Hid, lens], Own.nil_⟩
  case round =>
    obtain ⟨k, B, vc, out, hk, rfl, rfl, hB, hout, hown⟩ := hrel
    by_cases hlt : k < l.length
    · have hnn : (0 : Int) ≤ k := by omega
      have hki : (k : Int) < l.length := by omega
      have hol : out.length ≤ k := by rw [hout.out]; simp [lens]; omega
      have hszr := hB.size
      obtain ⟨b, off, D, dc, rfl, hb, g0, hD, hn1, hn2⟩ := (H1.out wr hB).sl hlt
      have hn3 := hn2
      unfold maxLen at hn3
      have hst : Hid (lens (l.take (k + 1)) = lens (l.take k) ++ [(l[k].length : Int)]) := by rw [Hid, List.take_succ_eq_append_getElem hlt, lens, List.map_append]; rfl
      obtain ⟨q, hq⟩ : ∃ q, l[k].length = q := ⟨_, rfl⟩
      rw [hq] at g0 hn1 hst
      have hlt1 : ∀ g, (Value.slice B out.length vc).ownBlock = some g → g < wr.heap.size := fun g hg => (hown.out.lt g hg).2
      have HLT1 := Lib.hid hlt1; clear hlt1 hq
      have HO2 := Lib.hid (Own.alloc hown.out (fun _ h => h.1.2) (.cells #[.int .i64 (q : Int)] 3))
      have HRD : Hid (encInt.rd (wr.alloc (.cells #[.int .i64 (q : Int)] 3)) (fun b => Nw w.heap.size wr.heap.size b ∧ (Value.slice B out.length vc).ownBlock ≠ some b) [.int .i64 (q : Int)] (q : Int)) := ⟨rfl, by unfold I64; omega⟩
      go_wp2_with (at_builtin; refine Hid.out ?_)
      change wpList _ _ _ _ _ _
      refine wpList_app1 (E := encInt) tyInts rfl _ _ rfl rfl HO2.out (q : Int) [.int .i64 (q : Int)] rfl HRD.out (heap_alloc_new _ _) (fun _ h => by simp; have := h.1.2; omega) (by simp; omega) (by unfold maxLen; omega) (by omega) ?_
      intro A' c' w5 hown5 hg5 hat5
      have hok5 := Lib.hid (OwnW.app (hown5.more (S' := fun b => Nw w.heap.size (wr.alloc (.cells #[.int .i64 (q : Int)] 3)).heap.size b ∧ (Value.slice B out.length vc).ownBlock ≠ some b) (fun b hb => ⟨hb.1.mono (Nat.le_refl _) (by simp), hb.2⟩) (OwnW_new hown5 hat5 HLT1.out (by simp))) hg5 hat5)
      have hB5 := Lib.hid ((ext_alloc (o := .cells #[.int .i64 (q : Int)] 3) hB).grown hg5 (by simp; omega) (fun g h => (hown.out.lt g h).1))
      clear hown5 hg5 hat5 HO2 HRD
      go_wp2
      go_roundw
      case rel =>
        refine ⟨k + 1, A', c', out ++ [(q : Int)], hlt, by go_num, by simp, hB5.out, ?_, ?_⟩
        · rw [Hid, hst.out, hout.out]
        · have := hok5.out; simpa [Hid] using this
      case measure => simp [intOf]; omega
    · have hkk : k = l.length := by omega
      subst hkk
      go_wp2
      go_ret
      have e := hout.out
      rw [List.take_length] at e
      rw [← e]
      obtain ⟨_, p1, p2, p3⟩ := hown.out.parts
      exact ⟨B, vc, rfl, p1, p2, p3, hB⟩
theorem refCheck07_any (A : Option Addr) (c n : Nat) (l : Img) (w : World) (hn : l.length = n) (h1 : SlAt (encSl encSec) w (Bl w.heap.size) A l) (hl : n ≤ 1000000) (r : Int) (hr : sizesN (lens l) = r) :
    Calls Tryz.prog 46 #[.slice A n c] w fun e w' => e = .returned (.int .i64 r) ∧ Below w.heap.size w w' := by
  have HS := Lib.hid (refSizesOf_any A c n l w hn h1 hl)
  have hl2 : (lens l).length = n := by rw [lens_len, hn]
  have HR := Lib.hid hr
  clear h1 hr
  go_enter Tryz.func46, Tryz.ntmps46
  go_wp2_with fail
  refine HS.out.mono ?_
  rintro e w1 ⟨B, vc, rfl, p1, p2, p3, hb⟩
  have HZ := sizes_any B vc _ (lens l) w1 p3 (by rw [hl2]; omega)
  rw [hl2, HR.out] at HZ
  clear p3
  go_wp2_with fail
  refine HZ.mono ?_
  rintro e w2 ⟨rfl, rfl⟩
  go_wp2
  go_ret
  exact ⟨rfl, hb⟩
end Go.Proofs.YtnkmklnlaepdeaaGreat

namespace Go.Proofs.YtnkmklnlaepdeaaGreat
open Go.RowKit Go.Shelf
attribute [local go_sem] Oper.semAt_some

set_option maxHeartbeats 4000000 in
theorem refCopy07_any (A : Option Addr) (c n : Nat) (l : Img) (w : World) (hn : l.length = n) (h1 : SlAt (encSl encSec) w (Bl w.heap.size) A l) (hl : n ≤ 100000) (hrow : ∀ r ∈ l, r.length ≤ 1000000) :
    Calls Tryz.prog 51 #[.slice A n c] w (RetSl (encSl encSec) l w) := by
  subst hn
  have H1 : Hid (∀ w', Below w.heap.size w w' → SlAt (encSl encSec) w' (Bl w.heap.size) A l) := fun w' hb => h1.below hb
  have HROW := Lib.hid hrow
  clear h1 hrow
  obtain ⟨n0, hn0⟩ : ∃ n0, w.heap.size = n0 := ⟨_, rfl⟩
  go_enter Tryz.func51, Tryz.ntmps51
  go_wp2
  go_loopw [3, 4] (fun v i wr => ∃ (k : Nat) (B : Option Addr) (vc : Nat) (out : Img), k ≤ l.length ∧ i = .int .i64 k ∧ v = .slice B k vc ∧ Below n0 w wr ∧ n0 ≤ wr.heap.size ∧ Hid (out = l.take k) ∧ Hid (out.length = k) ∧ Hid (OwnX (fun _ => False) (encSl encSec) wr n0 55 (.slice B k vc) out)) (fun _ i _ => l.length - (intOf i).toNat)
  case atStart => exact ⟨0, none, 0, [], by omega, rfl, rfl, Below.refl _ _, by omega, by simp [Hid], rfl, OwnX.nil_⟩
  case round =>
    obtain ⟨wo, rfl⟩ : ∃ wo : World, wo = wr := ⟨_, rfl⟩
    obtain ⟨k, B, vc, out, hk, rfl, rfl, hB, hsz, hout, hlen, hown⟩ := hrel
    by_cases hlt : k < l.length
    · have hnn : (0 : Int) ≤ k := by omega
      have hki : (k : Int) < l.length := by omega
      obtain ⟨b, off, D, dc, rfl, hb, g0, hD, hd1, hd2⟩ := (H1.out wo (by rw [hn0]; exact hB)).sl hlt
      have hrl := HROW.out l[k] (List.getElem_mem hlt)
      have hst : Hid (l.take (k + 1) = l.take k ++ [l[k]]) := List.take_succ_eq_append_getElem hlt
      obtain ⟨row, hrw⟩ : ∃ x, l[k] = x := ⟨_, rfl⟩
      rw [hrw] at g0 hD hd1 hrl hst
      have HD := Lib.hid (hD.more (S' := fun g => g < wo.heap.size) (fun g hg => by have : g < w.heap.size := hg; omega))
      have hlt1 := Lib.hid hown.out.lt
      clear hrw hD
      go_wp2_with (at_builtin; refine Hid.out ?_)
      change wpList _ _ _ _ _ _
      refine wpList_appAll (E := encSec) tySecs36 rfl _ _ rfl rfl (Own.nil_ (w := wo) (base := wo.heap.size) (e := 54) (S := fun g => g < wo.heap.size)) (news := row) rfl rfl HD.out (fun _ h => h) (Nat.le_refl _) (by unfold maxLen; simp; omega) (by simp; omega) ?_
      intro A4 c4 w4 hown4 hg4 hat4
      have hown4' : Own encSec w4 wo.heap.size 54 (fun g => g < wo.heap.size) (.slice A4 row.length c4) row := by simpa using hown4
      have hg4' : wo.grownBy w4 none := hg4
      have hx4 : Below wo.heap.size wo w4 := (Below.refl _ _).grown hg4' (Nat.le_refl _) (fun k e => by cases e)
      have hox4 : OwnX (fun _ => False) encSec w4 wo.heap.size 54 (.slice A4 row.length c4) row := ⟨(Own.flat hown4' (fun h => h)).more (fun _ h => h.elim) (fun g hg hS => hS.2.2 hg), fun _ _ h => h⟩
      obtain ⟨_, q1, q2, q3⟩ := hox4.parts
      have hz4 := hx4.size
      have hO4 := Lib.hid ((hown.out.below hx4).alloc (.cells #[.slice A4 row.length c4] 55))
      have hO4o := Lib.hid hO4.out.1
      have HRD : Hid ((encSl encSec).rd (w4.alloc (.cells #[.slice A4 row.length c4] 55)) (fun g => Nw n0 (w4.alloc (.cells #[.slice A4 row.length c4] 55)).heap.size g ∧ ¬ False ∧ (Value.slice B k vc).ownBlock ≠ some g) [.slice A4 row.length c4] row) :=
        ⟨A4, c4, rfl, q1, q2, (q3.blk (fun g hg => Below.heap_alloc _ _ _ hg.1.2)).more (fun g hg => ⟨⟨by have := hg.1.1; omega, by have := hg.1.2; simp; omega⟩, fun h => h, fun e => by have := (hlt1.out g e).2; have := hg.1.1; omega⟩)⟩
      clear hown4 hg4 hat4 hown4' hg4' hox4 q1 q2 q3
      simp only [List.length_nil, Nat.zero_add]
      go_wp2_with (at_builtin; refine Hid.out ?_)
      change wpList _ _ _ _ _ _
      refine wpList_app1 (E := encSl encSec) tyImage rfl _ _ rfl rfl hO4o.out row [.slice A4 row.length c4] rfl HRD.out (heap_alloc_new _ _) (fun _ h => h.1.2) (by simp; omega) (by unfold maxLen; rw [hlen.out]; omega) (by rw [hlen.out]; omega) ?_
      intro A5 c5 w5 hown5 hg5 hat5
      rw [hlen.out] at hown5 hat5
      rw [hlen.out]
      have hO5 : Hid (OwnX (fun _ => False) (encSl encSec) w5 n0 55 (.slice A5 (k + 1) c5) (out ++ [row])) := hO4.out.app hown5 hg5 hat5 (fun g hg => hg.elim)
      have hlo := hO4.out.lt
      have hz5 := hg5.size
      have hB5 : Below n0 w w5 := (((hB.trans (hx4.mono hsz))).alloc (by omega) (.cells #[.slice A4 row.length c4] 55)).grown hg5 (by simp; omega) (fun g h => (hlo g h).1)
      have hz6 : n0 ≤ w5.heap.size := by simp at hz5; omega
      clear hown5 hg5 hat5 hO4 hO4o HRD hlo hz5
      go_wp2
      go_roundw
      case rel => exact ⟨k + 1, A5, c5, out ++ [row], hlt, by go_num, rfl, hB5, hz6, by rw [Hid, hst.out, hout.out], by rw [Hid, List.length_append, hlen.out]; rfl, hO5.out⟩
      case measure => simp [intOf]; omega
    · have hkk : k = l.length := by omega
      subst hkk
      rw [List.take_length] at hout
      go_wp2
      go_ret
      obtain ⟨_, p1, p2, p3⟩ := hown.out.parts
      rw [hout.out] at p1 p3
      exact ⟨B, vc, rfl, p1, p2, p3.more (fun g hg => ⟨by have := hg.1.1; omega, hg.1.2⟩), by rw [hn0]; exact hB⟩
end Go.Proofs.YtnkmklnlaepdeaaGreat

namespace Go.Proofs.YtnkmklnlaepdeaaGreat
open Go.RowKit Go.Shelf
attribute [local go_sem] Oper.semAt_some

set_option maxHeartbeats 400000 in
theorem sameVol_any (A A' : Option Addr) (c c' : Nat) (S S' : Nat → Prop) (ss ts : List Sec) (w : World) (h1 : SlAt encSec w S A ss) (h2 : SlAt encSec w S' A' ts) (hs : ss.length ≤ 9223372036854775807) (ht : ts.length ≤ 9223372036854775807) :
    Calls Tryz.prog 55 #[.slice A ss.length c, .slice A' ts.length c'] w fun e w' => e = .returned (.bool (ss == ts)) ∧ Drew w w' := by
  by_cases hl : ss.length = ts.length
  · have hl' : (((ss.length : Nat) : Int) != (ts.length : Int)) = false := by simp [hl]
    have HL := Lib.hid hl; clear hl
    go_enter Tryz.func55, Tryz.ntmps55
    go_wp2
    go_loopw [5] (fun i wr => ∃ k : Nat, k ≤ ss.length ∧ i = .int .i64 k ∧ Drew w wr ∧ Hid (ss.take k = ts.take k)) (fun i _ => ss.length - (intOf i).toNat)
    case atStart => exact ⟨0, by omega, rfl, Drew.refl _, by simp [Hid]⟩
    case round =>
      obtain ⟨k, hk, rfl, hd, hp⟩ := hrel
      replace h1 := h1.drew hd
      replace h2 := h2.drew hd
      by_cases hlt : k < ss.length
      · have hlt2 : k < ts.length := by have := HL.out; omega
        obtain ⟨b, off, x0, x1, x2, x3, x4, x5, x6, x7, rfl, hb, hx, _, g0, g1, g2, g3, g4, g5, g6, g7⟩ := h1.sec hlt
        obtain ⟨b', off', y0, y1, y2, y3, y4, y5, y6, y7, rfl, hb', hy, _, k0, k1, k2, k3, k4, k5, k6, k7⟩ := h2.sec hlt2
        have HX := Lib.hid hx; clear hx
        have HY := Lib.hid hy; clear hy
        have hnn : (0 : Int) ≤ k := by omega
        have hki : (k : Int) < ss.length := by omega
        have hki2 : (k : Int) < ts.length := by omega
        have hq := fun W => run_eq_sec W x0 x1 x2 x3 x4 x5 x6 x7 y0 y1 y2 y3 y4 y5 y6 y7
        generalize hqq : ([x0, x1, x2, x3, x4, x5, x6, x7] == [y0, y1, y2, y3, y4, y5, y6, y7]) = q at hq
        have HQ := Lib.hid hqq; clear hqq
        go_wp2
        go_quiet (fail)
        cases q with
        | true =>
          go_wp2
          go_roundw
          case rel => exact ⟨k + 1, hlt, by go_num, hd.step _, take_succ_eq _ _ _ hlt hlt2 hp (by rw [HX.out, HY.out]; exact eq_of_beq HQ.out)⟩
          case measure => simp [intOf]; omega
        | false =>
          go_wp2
          go_ret
          refine ⟨ret_bool ?_, hd.step _⟩
          rw [eq_comm, beq_eq_false_iff_ne]
          intro e
          subst e
          rw [HX.out] at HY
          have := HY.out
          rw [this] at HQ
          simp [Hid] at HQ
      · have : k = ss.length := by omega
        subst this
        go_wp2
        go_ret
        refine ⟨ret_bool ?_, hd⟩
        have := hp.out
        rw [List.take_length, List.take_of_length_le (by rw [HL.out]; omega)] at this
        simp [this]
  · have hl' : (((ss.length : Nat) : Int) != (ts.length : Int)) = true := by simp; omega
    have HL := Lib.hid hl; clear hl
    go_enter Tryz.func55, Tryz.ntmps55
    go_wp2
    go_ret
    refine ⟨ret_bool ?_, Drew.refl _⟩
    rw [eq_comm, beq_eq_false_iff_ne]
    intro e
    exact HL.out (by rw [e])

theorem ne_at07 {l m : Img} {k : Nat} (h1 : k < l.length) (h2 : k < m.length) (h : l[k] ≠ m[k]) : (l == m) = false := by
  rw [beq_eq_false_iff_ne]; intro e; subst e; exact h rfl
set_option maxHeartbeats 1000000 in
theorem sameImg07_any (A A' : Option Addr) (c c' : Nat) (S S' : Nat → Prop) (l m : Img) (w : World) (h1 : SlAt (encSl encSec) w S A l) (h2 : SlAt (encSl encSec) w S' A' m) (hs : l.length ≤ 9223372036854775807) (_ht : m.length ≤ 9223372036854775807) :
    Calls Tryz.prog 31 #[.slice A l.length c, .slice A' m.length c'] w fun e w' => e = .returned (.bool (l == m)) ∧ Drew w w' := by
  by_cases hl : l.length = m.length
  · have hl' : (((l.length : Nat) : Int) != (m.length : Int)) = false := by simp [hl]
    have HL := Lib.hid hl; clear hl
    go_enter Tryz.func31, Tryz.ntmps31
    go_wp2
    go_loopw [5] (fun i wr => ∃ k : Nat, k ≤ l.length ∧ i = .int .i64 k ∧ Drew w wr ∧ Hid (l.take k = m.take k)) (fun i _ => l.length - (intOf i).toNat)
    case atStart => exact ⟨0, by omega, rfl, Drew.refl _, by simp [Hid]⟩
    case round =>
      obtain ⟨k, hk, rfl, hd, hp⟩ := hrel
      replace h1 := h1.drew hd
      replace h2 := h2.drew hd
      by_cases hlt : k < l.length
      · have hlt2 : k < m.length := by have := HL.out; omega
        obtain ⟨b, off, D, dc, rfl, hb, g0, hD, hn1, hn2⟩ := h1.sl hlt
        obtain ⟨b', off', D', dc', rfl, hb', k0, hD', hn3, hn4⟩ := h2.sl hlt2
        have hnn : (0 : Int) ≤ k := by omega
        have hki : (k : Int) < l.length := by omega
        have hki2 : (k : Int) < m.length := by omega
        have hc := fun n => sameVol_any D D' dc dc' S S' l[k] m[k] (wr.drewN n) hD hD' (by unfold maxLen at hn2; omega) (by unfold maxLen at hn4; omega)
        have HC := Lib.hid hc; clear hc hn1 hn2 hn3 hn4
        have HP := Lib.hid hp; clear hp
        generalize hq : (l[k] == m[k]) = q at HC
        have HQ := Lib.hid hq; clear hq
        go_wp2
        go_quiet ((go_at_call 55; exact Calls.quiet_of (HC.out _)))
        cases q with
        | true =>
          go_wp2
          go_roundw
          case rel => exact ⟨k + 1, hlt, by go_num, hd.step _, take_succ_eq _ _ _ hlt hlt2 HP.out (eq_of_beq HQ.out)⟩
          case measure => simp [intOf]; omega
        | false =>
          go_wp2
          go_ret
          refine ⟨ret_bool (ne_at07 hlt hlt2 ?_).symm, hd.step _⟩
          intro e
          have := HQ.out
          rw [e] at this
          simp at this
      · have : k = l.length := by omega
        subst this
        go_wp2
        go_ret
        refine ⟨ret_bool ?_, hd⟩
        have := hp.out
        rw [HL.out] at this
        rw [List.take_length, ← HL.out, List.take_length] at this
        simp [this]
  · have hl' : (((l.length : Nat) : Int) != (m.length : Int)) = true := by simp; omega
    have HL := Lib.hid hl; clear hl
    go_enter Tryz.func31, Tryz.ntmps31
    go_wp2
    go_ret
    refine ⟨ret_bool ?_, Drew.refl _⟩
    rw [eq_comm, beq_eq_false_iff_ne]
    intro e
    exact HL.out (by rw [e])
end Go.Proofs.YtnkmklnlaepdeaaGreat

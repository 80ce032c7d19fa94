/-
  The walks of Extents and pick (the reference).
  The walk of pick (the reference).
  The walk of Fold (the reference).
  Plain words: the error of a list of writes (canonical, fitting); the merged list. No program in sight.
-/
import Derived.Test.YtnkmklnlaepdeaaGreatPe
import Derived.Deep.OwnRows
import Derived.Test.YtnkmklnlaepdeaaGreatPa
set_option linter.unusedVariables false
set_option linter.unusedSimpArgs false
set_option linter.unusedSectionVars false
set_option linter.unnecessarySimpa false
namespace Go.Proofs.YtnkmklnlaepdeaaGreat
open Go.RowKit

def noMarks : List Bool := List.replicate 4096 false
theorem rep_getD (n i : Nat) : (List.replicate n false).getD i false = false := by
  rw [List.getD_eq_getElem?_getD, List.getElem?_replicate]
  split <;> rfl
theorem map_noMarks : noMarks.map Value.bool = List.replicate 4096 (Value.bool false) := List.map_replicate
def marksOf (v : Int) (m : List Bool) (x : Wr) : List Bool := if x.1 = v then addM m (x.2.1, x.2.2.length) else m
def marksL (l : List Wr) (v : Int) : List Bool := l.foldl (marksOf v) noMarks
theorem noMarks_len : noMarks.length = 4096 := List.length_replicate ..
theorem marksL_snoc (l : List Wr) (x : Wr) (v : Int) : marksL (l ++ [x]) v = marksOf v (marksL l v) x := by simp [marksL]
theorem marksL_len (l : List Wr) (v : Int) : (marksL l v).length = 4096 := by
  induction l using snocRec with
  | h0 => exact noMarks_len
  | h1 l x ih =>
    rw [marksL_snoc, marksOf]
    split
    · rw [addM_len, ih]
    · exact ih
theorem marksL_at (l : List Wr) (v : Int) (i : Nat) (hi : i < 4096) : (marksL l v).getD i false = (look l v i).isSome := by
  induction l using snocRec with
  | h0 =>
    have : (marksL [] v).getD i false = false := by
      exact rep_getD 4096 i
    rw [this]; rfl
  | h1 l x ih =>
    rw [marksL_snoc, marksOf, look_snoc]
    by_cases hv : x.1 = v
    · rw [if_pos hv]
      have hlen := marksL_len l v
      have e : (addM (marksL l v) (x.2.1, (x.2.2.length : Int))).getD i false = ((marksL l v).getD i false || decide (x.2.1 ≤ i ∧ (i : Int) < x.2.1 + x.2.2.length)) := by
        simp [addM, hlen, hi]
      rw [e, ih]
      by_cases hh : hits x v i
      · rw [if_pos hh]; simp [hh.2.1, hh.2.2]
      · rw [if_neg hh]
        have : ¬ (x.2.1 ≤ (i : Int) ∧ (i : Int) < x.2.1 + x.2.2.length) := fun h => hh ⟨hv, h.1, h.2⟩
        simp [this]
    · rw [if_neg hv, if_neg (fun h => hv h.1)]
      exact ih
theorem idxs_marks (l : List Wr) (v : Int) : idxs (marksL l v) = secsOf l v := by
  unfold idxs secsOf
  rw [marksL_len]
  refine congrArg _ ?_
  exact List.filter_congr fun i hi => marksL_at l v i (List.mem_range.1 hi)

theorem makeMarks (w : World) : (Instr.makeSlice 62 (.int .i64 4096) (.int .i64 4096)).run Tryz.prog w = .ok (.slice (some ⟨w.heap.size, 0, none⟩) 4096 4096) (w.alloc (.cells (noMarks.map Value.bool).toArray 4)) := by
  have h := run_make_row' (P := Tryz.prog) 62 4 (.bool false) 1 Tryz.underlying62 (by kernel_rfl) rfl .i64 .i64 4096 (by omega) (by omega) w
  have e : (noMarks.map Value.bool).toArray = madeCells #[.bool false] 4096 := by
    apply Array.ext'
    rw [toList_madeCells_one]
    exact map_noMarks
  rw [e]
  exact h

theorem add4096 (b c : Nat) (m : List Bool) (s n : Int) (w : World) (h : BRow w b m) (hm : m.length = 4096) (hs : I64 s) (hn : I64 n) :
    Calls Tryz.prog 98 #[.slice (some ⟨b, 0, none⟩) 4096 c, .agg #[.int .i64 s, .int .i64 n]] w (AddRet (addM m (s, n)) b w) := by
  have := add_any b c m s n w h (by omega) hs hn
  rw [hm] at this
  exact this
set_option maxHeartbeats 1000000 in
theorem refExtents_any (A : Option Addr) (c : Nat) (l : List Wr) (V : Int) (w : World) (h1 : SlAt encWr w (Bl w.heap.size) A l) (hs : l.length ≤ 9223372036854775807) (h3 : I64 V) :
    Calls Tryz.prog 92 #[.slice A l.length c, .int .i64 V] w (Ret (encSl encExt) (runsL (secsOf l V)) w) := by
  have h1 : Hid (∀ w', Below w.heap.size w w' → SlAt encWr w' (Bl w.heap.size) A l) := fun w' hb => h1.below hb
  have hmk := makeMarks
  go_enter Tryz.func92, Tryz.ntmps92
  go_wp2
  go_loopw [6] (fun i wr => ∃ k : Nat, k ≤ l.length ∧ i = .int .i64 k ∧ Below w.heap.size w wr ∧ Hid (BRow wr w.heap.size (marksL (l.take k) V))) (fun i _ => l.length - (intOf i).toNat)
  case atStart => exact ⟨0, by omega, rfl, (Below.refl _ _).alloc (Nat.le_refl _) _, heap_alloc_new _ _⟩
  case round =>
    obtain ⟨k, hk, rfl, hB, hrow⟩ := hrel
    clear hmk
    by_cases hlt : k < l.length
    · have H1 := Lib.hid (h1.out wr hB)
      obtain ⟨b, off, D, dc, rfl, hb, g0, g1, g2, hD, hn1, hn2, hi1, hi2⟩ := H1.out.wr hlt
      have hbl : b < w.heap.size := hb
      have hnn : (0 : Int) ≤ k := by omega
      have hki : (k : Int) < l.length := by omega
      unfold maxLen at hn2
      by_cases hv : l[k].1 = V
      · have hv' : (l[k].1 == V) = true := by simp [hv]
        have hm : Hid (marksL (l.take (k + 1)) V = addM (marksL (l.take k) V) (l[k].2.1, (l[k].2.2.length : Int))) := by
          rw [List.take_succ_eq_append_getElem hlt, marksL_snoc, marksOf, if_pos hv]; exact rfl
        have HV := Lib.hid hv; clear hv
        have hlen := Lib.hid (marksL_len (l.take k) V)
        have hi3 : I64 (l[k].2.2.length : Int) := by unfold I64; omega
        go_wp2
        go_region_held3 (fun w' => w'.cell? ⟨b, off + k * 3 + 1, none⟩ = some (.int .i64 l[k].2.1) ∧ w'.cell? ⟨b, off + k * 3 + 2, none⟩ = some (.slice D l[k].2.2.length dc))
          (first | go_keep | exact ⟨(World.cell?_of_block (hgw.block b (Nat.lt_of_lt_of_le hbl hB.size) (by simp; omega))).trans g1, (World.cell?_of_block (hgw.block b (Nat.lt_of_lt_of_le hbl hB.size) (by simp; omega))).trans g2⟩)
          (first | (go_at_call 98; refine (add4096 _ _ (marksL (l.take k) V) _ _ wr.drew hrow.out hlen.out hi2 hi3).mono ?_; rintro e w1 ⟨⟨v, rfl⟩, hrow1, hgx⟩; have hgw : wr.grownBy w1 (some w.heap.size) := ⟨hgx.os, hgx.tape, hgx.output, hgx.size, hgx.block⟩; clear hgx))
        go_wp2
        go_roundw
        case rel =>
          refine ⟨k + 1, hlt, by go_num, hB.trans ⟨hgw.os, hgw.tape, hgw.output, hgw.size, fun i hi => hgw.block i (Nat.lt_of_lt_of_le hi hB.size) (by simp; omega)⟩, ?_⟩
          rw [hm.out]; exact hrow1
        case measure => simp [intOf]; omega
      · have hv' : (l[k].1 == V) = false := by simp [hv]
        have hm : Hid (marksL (l.take (k + 1)) V = marksL (l.take k) V) := by
          rw [List.take_succ_eq_append_getElem hlt, marksL_snoc, marksOf, if_neg hv]; exact rfl
        have HV := Lib.hid hv; clear hv
        go_wp2
        go_roundw
        case rel => exact ⟨k + 1, hlt, by go_num, hB, by rw [hm.out]; exact hrow.out⟩
        case measure => simp [intOf]; omega
    · have hkk : k = l.length := by omega
      subst hkk
      have hr := hrow.out
      rw [List.take_length] at hr
      have hlen := marksL_len l V
      have hli := Lib.hid (list_any w.heap.size 4096 (marksL l V) wr hr (by omega))
      rw [hlen, idxs_marks] at hli
      clear hlen
      go_wp2_with fail
      refine hli.out.mono ?_
      rintro e w1 ⟨v, rfl, hv, hb1⟩
      go_wp2
      go_ret
      exact ⟨v, rfl, Enc.more hv (fun _ h => h.mono hB.size (Nat.le_refl _)), hB.trans (hb1.mono hB.size)⟩
end Go.Proofs.YtnkmklnlaepdeaaGreat

namespace Go.Proofs.YtnkmklnlaepdeaaGreat
open Go.RowKit

def pickD (l : List Wr) (v s : Int) (j : Nat) : List Sec := (List.range j).map fun (k : Nat) => (look l v (s + k)).getD zsec
theorem pickD_succ (l : List Wr) (v s : Int) (j : Nat) : pickD l v s (j + 1) = pickD l v s j ++ [(look l v (s + j)).getD zsec] := by simp [pickD, List.range_succ]
theorem pickS_snoc (l : List Wr) (v : Int) (es : List Ext) (e : Ext) : pickS l v (es ++ [e]) = pickS l v es ++ [(v, e.1, pickD l v e.1 e.2.toNat)] := by simp [pickS, pickD]

set_option maxHeartbeats 2000000 in
theorem pick_any (A A2 : Option Addr) (c c2 : Nat) (l : List Wr) (V : Int) (es : List Ext) (w : World) (h1 : SlAt encWr w (Bl w.heap.size) A l) (hs : l.length ≤ 9223372036854775807) (h3 : I64 V)
    (h2 : SlAt encExt w (Bl w.heap.size) A2 es) (hes : es.length ≤ 4096) (hbd : ∀ e ∈ es, 0 ≤ e.1 ∧ 0 < e.2 ∧ e.1 + e.2 ≤ 4096) :
    Calls Tryz.prog 91 #[.slice A l.length c, .int .i64 V, .slice A2 es.length c2] w (Ret (encSl encWr) (pickS l V es) w) := by
  have H1 : Hid (∀ w', Below w.heap.size w w' → SlAt encWr w' (Bl w'.heap.size) A l) := fun w' hb => h1.belowUp hb hb.size
  have H2 : Hid (∀ w', Below w.heap.size w w' → SlAt encExt w' (Bl w.heap.size) A2 es) := fun w' hb => h2.below hb
  clear h1 h2
  have HBD := Lib.hid hbd; clear hbd
  have H3 := Lib.hid h3; clear h3
  go_enter Tryz.func91, Tryz.ntmps91
  go_wp2
  go_loopw [7, 8] (fun v i wr => ∃ (k : Nat) (B : Option Addr) (vc : Nat) (out : List Wr), k ≤ es.length ∧ i = .int .i64 k ∧ v = .slice B out.length vc ∧ Below w.heap.size w wr ∧ Hid (out = pickS l V (es.take k)) ∧ Hid (OwnW encWr wr w.heap.size w.heap.size 74 (.slice B out.length vc) out)) (fun _ i _ => es.length - (intOf i).toNat)
  case atStart => exact ⟨0, none, 0, [], by omega, rfl, rfl, Below.refl _ _, rfl, OwnW.nil_⟩
  case round =>
    obtain ⟨wo, rfl⟩ : ∃ wo : World, wo = wr := ⟨_, rfl⟩
    obtain ⟨k, B, vc, out, hk, rfl, rfl, hB, hout, hown⟩ := hrel
    by_cases hlt : k < es.length
    · obtain ⟨b, off, rfl, hb, g0, g1, i1, i2⟩ := (H2.out wo hB).ext hlt
      have hbl : b < w.heap.size := hb
      obtain ⟨hs0, hc0, hsc⟩ := HBD.out _ (List.getElem_mem hlt)
      have hnn : (0 : Int) ≤ k := by omega
      have hki : (k : Int) < es.length := by omega
      have hsz := hB.size
      obtain ⟨cnt, hcnt⟩ := Int.eq_ofNat_of_zero_le (show 0 ≤ es[k].2 by omega)
      rw [hcnt] at g1 hc0 hsc
      have HC := Lib.hid hcnt; clear hcnt i2
      obtain ⟨st, hst⟩ : ∃ st, st = es[k].1 := ⟨_, rfl⟩
      rw [← hst] at g0 hs0 hsc i1
      have HST := Lib.hid hst; clear hst
      have hol : out.length ≤ 4096 := by rw [hout.out]; simp [pickS]; omega
      go_wp2
      go_loopw [10] (fun s10 w2 => ∃ (j : Nat) (D : Option Addr) (dc : Nat) (d : List Sec), j ≤ cnt ∧ s10 = .int .i64 j ∧ Below wo.heap.size wo w2 ∧ Hid (d.length = j) ∧ Hid (d = pickD l V st j) ∧ Hid (w2.heap[wo.heap.size]? = some (.cells #[.int .i64 V, .int .i64 st, .slice D d.length dc] 74 (0, 0))) ∧ Hid (Own encSec w2 (wo.heap.size + 1) 54 (fun _ => False) (.slice D d.length dc) d)) (fun s10 _ => cnt - (intOf s10).toNat)
      case atStart => exact ⟨0, none, 0, [], by omega, rfl, (Below.refl _ _).alloc (Nat.le_refl _) _, rfl, rfl, heap_alloc_new _ _, Own.nil_⟩
      case round =>
        obtain ⟨j, D, dc, d, hj, rfl, hB2, hdl, hd, hbox, hownd⟩ := hrel
        have hsz2 := hB2.size
        have hbx : wo.heap.size < wr.heap.size := (Array.getElem?_eq_some_iff.1 hbox.out).1
        have q1 := (hB2.cell (p := ⟨b, off + k * 2 + 1, none⟩) (by simp; omega)).trans g1
        have q0 := (hB2.cell (p := ⟨b, off + k * 2, none⟩) (by simp; omega)).trans g0
        have hBw : Below w.heap.size w wr := hB.trans (hB2.mono hsz)
        by_cases hj2 : j < cnt
        · have hji : (j : Int) < cnt := by omega
          have hjn : (0 : Int) ≤ j := by omega
          have hlk := Lib.hid (refLookup_any A c l V (st + j) wr (H1.out wr hBw) hs H3.out (by unfold I64; omega))
          clear g0 g1
          go_wp2_with fail
          refine hlk.out.mono ?_
          rintro e w3 ⟨x0, x1, x2, x3, x4, x5, x6, x7, q, rfl, hok, hq, hx, hb3⟩
          have hsz3 := hb3.size
          have HQ := Lib.hid hq; clear hq
          have HX := Lib.hid hx; clear hx
          have hbox3 : w3.heap[wo.heap.size]? = some (.cells #[.int .i64 V, .int .i64 st, .slice D d.length dc] 74 (0, 0)) := (hb3.block _ hbx).trans hbox.out
          have hown3 := Lib.hid (((hownd.out.below hb3 (fun _ h => h.elim)).alloc (fun _ h => h.elim) (.cells #[.int .u8 x0, .int .u8 x1, .int .u8 x2, .int .u8 x3, .int .u8 x4, .int .u8 x5, .int .u8 x6, .int .u8 x7] 54)).alloc (fun _ h => h.elim) (.cells #[.int .u8 x0, .int .u8 x1, .int .u8 x2, .int .u8 x3, .int .u8 x4, .int .u8 x5, .int .u8 x6, .int .u8 x7] 54))
          obtain ⟨p0, p1, p2, pf⟩ := blk3 hbox3
          have HB3 := Lib.hid hbox3; clear hbox3
          have hbx3 : wo.heap.size < w3.heap.size := by omega
          have hdl2 : d.length ≤ 4096 := by have := hdl.out; omega
          clear q0 q1 hlk
          go_wp2_with (at_builtin; refine Hid.out ?_)
          change wpList _ _ _ _ _ _
          refine wpList_app1 (E := encSec) tySecs rfl _ _ rfl rfl hown3.out [x0, x1, x2, x3, x4, x5, x6, x7] [.int .u8 x0, .int .u8 x1, .int .u8 x2, .int .u8 x3, .int .u8 x4, .int .u8 x5, .int .u8 x6, .int .u8 x7] rfl ⟨rfl, hok⟩ (heap_new2 _ _ _) (fun _ h => h.elim) (by simp; omega) (by simp [maxLen]; omega) (by omega) ?_
          intro A' c' w5 hown5 hg5 hat5
          have hw5 := hg5.size
          have hrowne : some wo.heap.size ≠ (Value.slice D d.length dc).ownBlock := fun e => by have := (hownd.out.lt _ e.symm).1; omega
          have hbox5 : w5.heap[wo.heap.size]? = some (.cells #[.int .i64 V, .int .i64 st, .slice D d.length dc] 74 (0, 0)) := (hg5.block _ (by simp; omega) hrowne).trans ((Below.heap_alloc _ _ _ (by simp; omega)).trans ((Below.heap_alloc _ _ _ hbx3).trans HB3.out))
          obtain ⟨t0, t1, t2, tf⟩ := blk3 hbox5
          have hset := Lib.hid (blk3_set hbox5 (.slice A' (d.length + 1) c'))
          have hB5 : Hid (Below wo.heap.size wo w5) := ((((hB2.trans (hb3.mono hsz2)).alloc (by omega) _).alloc (by simp; omega) _).grown hg5 (by simp; omega) (fun g h => by have := (hownd.out.lt g h).1; omega))
          have HN : Hid (some wo.heap.size ≠ (Value.slice D d.length dc).ownBlock) := hrowne
          have hst5 : wo.heap.size < w5.heap.size := (Array.getElem?_eq_some_iff.1 hbox5).1
          clear hbox5 p0 p1 p2 pf hrowne
          go_wp2
          go_roundw
          case rel =>
            refine ⟨j + 1, A', c', d ++ [[x0, x1, x2, x3, x4, x5, x6, x7]], by omega, by go_num, hB5.out.setCell (by simp) _, ?_, ?_, ?_, ?_⟩
            · have := hdl.out; simp [Hid, this]
            · rw [pickD_succ, HX.out, ← hd.out]; exact rfl
            · have := hset.out; simpa [Hid] using this
            · have h5 := hown5.blk (w' := w5.setCell ⟨wo.heap.size, 2, none⟩ (.slice A' (d.length + 1) c')) (fun g hg => Below.heap_setCell _ _ _ _ (by
                rcases hg with hg | hg
                · exact hg.elim
                · have := (hown5.lt g hg).1
                  simp only
                  omega))
              simpa [Hid] using h5
          case measure => simp [intOf]; omega
        · have hjj : j = cnt := by omega
          obtain ⟨p0, p1, p2, pf⟩ := blk3 hbox.out
          have hd1 := hd.out
          rw [hjj] at hd1
          have HD1 := Lib.hid hd1; clear hd1
          have HJ := Lib.hid hjj; clear hjj
          have hdl2 : d.length ≤ 4096 := by have := hdl.out; have := HJ.out; omega
          obtain ⟨Dr, hDr⟩ : ∃ o : Obj, o = .cells #[.int .i64 V, .int .i64 st, .slice D d.length dc] 74 := ⟨_, rfl⟩
          have hownw := (hown.out.below hB2).below ((Below.refl wr.heap.size wr).alloc (Nat.le_refl _) Dr)
          rw [hDr] at hownw
          have HW := Lib.hid hownw; clear hownw hDr
          have hdr := Own.reads (S' := Bl wr.heap.size) hownd.out (fun _ h => h.elim) (fun g hg => (hownd.out.lt g hg).2)
          obtain ⟨D', dc', he, hlc, hcm, hat⟩ := hdr
          simp only [List.cons.injEq, Value.slice.injEq, and_true, true_and] at he
          obtain ⟨rfl, rfl⟩ := he
          have hBne : ∀ g, (Value.slice B out.length vc).ownBlock = some g → g < wo.heap.size := fun g hg => (hown.out.lt g hg).2
          have HBN := Lib.hid hBne; clear hBne
          have hrd : encWr.rd (wr.alloc (.cells #[.int .i64 V, .int .i64 st, .slice D d.length dc] 74)) (fun b => Nw w.heap.size (wr.alloc (.cells #[.int .i64 V, .int .i64 st, .slice D d.length dc] 74)).heap.size b ∧ (Value.slice B out.length vc).ownBlock ≠ some b) [.int .i64 V, .int .i64 st, .slice D d.length dc] (V, st, d) := by
            refine wr_mk (x := (V, st, d)) H3.out i1 hlc hcm ?_
            have hat2 := Own.reads (S' := fun b => wo.heap.size < b ∧ b < wr.heap.size) hownd.out (fun _ h => h.elim) (fun g hg => ⟨by have := (hownd.out.lt g hg).1; omega, (hownd.out.lt g hg).2⟩)
            obtain ⟨D', dc', he, _, _, hat2⟩ := hat2
            simp only [List.cons.injEq, Value.slice.injEq, and_true, true_and] at he
            obtain ⟨rfl, rfl⟩ := he
            refine (hat2.keep (w' := wr.alloc _) (fun p hp => World.cell?_of_block (Below.heap_alloc _ _ _ hp.2)) (fun g hg => ⟨⟨by omega, by simp; omega⟩, fun e => ?_⟩))
            have := HBN.out g e
            omega
          have HR := Lib.hid hrd; clear hrd hat
          clear g0 g1
          go_wp2_with (at_builtin; refine Hid.out ?_)
          change wpList _ _ _ _ _ _
          refine wpList_app1 (E := encWr) tyWrs rfl _ _ rfl rfl HW.out (V, st, d) [.int .i64 V, .int .i64 st, .slice D d.length dc] rfl HR.out (heap_alloc_new _ _) (fun _ h => h.1.2) (by simp; omega) (by simp [maxLen]; omega) (by omega) ?_
          intro A' c' w5 hown5 hg5 hat5
          have hok5 := Lib.hid (OwnW.app hown5 hg5 hat5)
          clear p0 p1 p2 pf q0 q1
          go_wp2
          go_roundw
          case rel =>
            refine ⟨k + 1, A', c', out ++ [(V, st, d)], hlt, by go_num, by simp, ?_, ?_, ?_⟩
            · exact (hBw.alloc (by omega) _).grown hg5 (by simp; omega) (fun g h => (hown.out.lt g h).1)
            · rw [List.take_succ_eq_append_getElem hlt, pickS_snoc, ← hout.out, HC.out, ← HST.out, Int.toNat_natCast, ← HD1.out]; exact rfl
            · have := hok5.out; simpa [Hid] using this
          case measure => simp [intOf]; omega
    · have hkk : k = es.length := by omega
      subst hkk
      go_wp2
      go_ret
      have e := hout.out
      rw [List.take_length] at e
      rw [← e]
      exact ⟨_, rfl, hown.out.rd, hB⟩
end Go.Proofs.YtnkmklnlaepdeaaGreat

namespace Go.Proofs.YtnkmklnlaepdeaaGreat
open Go.RowKit

def errOf {α : Type} (f : α → Int) (l : List α) : Int := ((l.find? fun x => f x != 0).map f).getD 0
theorem errOf_zero {α : Type} {f : α → Int} {l : List α} (h : ∀ x ∈ l, f x = 0) : errOf f l = 0 := by
  have : l.find? (fun x => f x != 0) = none := List.find?_eq_none.2 (fun x hx => by simp [h x hx])
  simp [errOf, this]
theorem errOf_at {α : Type} {f : α → Int} {l : List α} {k : Nat} (hk : k < l.length) (h : ∀ x ∈ l.take k, f x = 0) (hn : f l[k] ≠ 0) : errOf f l = f l[k] := by
  have e : l = l.take k ++ l[k] :: l.drop (k + 1) := by rw [← List.drop_eq_getElem_cons hk, List.take_append_drop]
  have : l.find? (fun x => f x != 0) = some l[k] := by
    conv => lhs; rw [e]
    rw [List.find?_append, List.find?_eq_none.2 (fun x hx => by simp [h x hx]), Option.none_or, List.find?_cons_of_pos (by simpa using hn)]
  simp [errOf, this]
def most : List Int := List.replicate 8 4096
theorem most_len : most.length = 8 := List.length_replicate ..
theorem fits_placed (x : Wr) : fitsN most x = placedN x := by
  unfold fitsN placedN
  rw [most_len]
  by_cases h1 : x.1 < 0 ∨ x.1 ≥ 8
  · rw [if_pos (by simpa using h1), if_pos h1]
  · rw [if_neg (by simpa using h1), if_neg h1]
    by_cases h2 : x.2.2.length = 0
    · rw [if_pos h2, if_pos h2]
    · rw [if_neg h2, if_neg h2]
      have : most.getD x.1.toNat 0 = 4096 := by
        have hlt : x.1.toNat < 8 := by omega
        rw [List.getD_eq_getElem?_getD, most, List.getElem?_replicate, if_pos hlt]; rfl
      rw [this]
      by_cases h3 : x.2.1 < 0 ∨ x.2.1 > 4096 - x.2.2.length
      · rw [if_pos (by omega), if_pos h3]
      · rw [if_neg (by omega), if_neg h3]
/-- what Fold returns -/
def foldL (l : List Wr) : List Wr := if errOf placedN l = 0 then foldS l else []

theorem most8 (w : World) : Calls Tryz.prog 90 #[] w fun e w' => ∃ A c, e = .returned (.slice A 8 c) ∧ SlAt encInt w' (Bl w'.heap.size) A most ∧ Below w.heap.size w w' :=
  (most_any w).mono fun _ _ h => by
    obtain ⟨A, c, rfl, _, _, h3, hb⟩ := h.sl
    exact ⟨A, c, by rw [List.length_replicate], h3.more (fun _ h => h.2), hb⟩
theorem fits8 (A : Option Addr) (c : Nat) (v s : Int) (D : Option Addr) (dc n : Nat) (data : List Sec) (w : World) (h1 : SlAt encInt w (Bl w.heap.size) A most) (hd : data.length = n) (pn : Int) (hp : placedN (v, s, data) = pn) (hn : n ≤ 9223372036854775807) (hv : I64 v) (hs2 : I64 s) :
    Calls Tryz.prog 74 #[.slice A 8 c, .agg #[.int .i64 v, .int .i64 s, .slice D n dc]] w fun e w' => e = .returned (.int .i64 pn) ∧ Below w.heap.size w w' := by
  subst hp
  subst hd
  have := fits_any A c (Bl w.heap.size) most v s D dc data w h1 (by rw [most_len]; omega) (fun _ h => h) hn hv hs2
  rw [most_len, fits_placed] at this
  exact this

set_option maxHeartbeats 2000000 in
theorem refFold_any (A : Option Addr) (c : Nat) (l : List Wr) (w : World) (h1 : SlAt encWr w (Bl w.heap.size) A l) (hs : l.length ≤ 9223372036854775807) :
    Calls Tryz.prog 76 #[.slice A l.length c] w (RetSlN encWr (foldL l) (errOf placedN l) w) := by
  have H1 : Hid (∀ w', Below w.heap.size w w' → SlAt encWr w' (Bl w'.heap.size) A l) := fun w' hb => h1.belowUp hb hb.size
  have H2 : Hid (∀ w', Below w.heap.size w w' → SlAt encWr w' (Bl w.heap.size) A l) := fun w' hb => h1.below hb
  clear h1
  go_enter Tryz.func76, Tryz.ntmps76
  go_wp2
  go_loopw [4] (fun i wr => ∃ k : Nat, k ≤ l.length ∧ i = .int .i64 k ∧ Below w.heap.size w wr ∧ Hid (∀ x ∈ l.take k, placedN x = 0)) (fun i _ => l.length - (intOf i).toNat)
  case atStart => exact ⟨0, by omega, rfl, Below.refl _ _, by simp [Hid]⟩
  case round =>
    obtain ⟨wo, rfl⟩ : ∃ wo : World, wo = wr := ⟨_, rfl⟩
    obtain ⟨k, hk, rfl, hB, hz⟩ := hrel
    by_cases hlt : k < l.length
    · obtain ⟨b, off, D, dc, rfl, hb, g0, g1, g2, hD, hn1, hn2, hi1, hi2⟩ := (H2.out wo hB).wr hlt
      have hbl : b < w.heap.size := hb
      have hblo : b < wo.heap.size := Nat.lt_of_lt_of_le hbl hB.size
      have hnn : (0 : Int) ≤ k := by omega
      have hki : (k : Int) < l.length := by omega
      unfold maxLen at hn2
      have hn3 : l[k].2.2.length ≤ 9223372036854775807 := by omega
      obtain ⟨pn, hpn⟩ : ∃ pn, Hid (placedN l[k] = pn) := ⟨placedN l[k], Lib.hid rfl⟩
      by_cases hp0 : pn = 0
      · have hp1 : (pn != 0) = false := by simp [hp0]
        have HP := Lib.hid hp0; clear hp0
        go_wp2
        go_region_held3 (fun w' => w'.cell? ⟨b, off + k * 3, none⟩ = some (.int .i64 l[k].1) ∧ w'.cell? ⟨b, off + k * 3 + 1, none⟩ = some (.int .i64 l[k].2.1) ∧ w'.cell? ⟨b, off + k * 3 + 2, none⟩ = some (.slice D l[k].2.2.length dc))
          (first | go_keep | exact ⟨(hx1.cell (p := ⟨b, off + k * 3, none⟩) hblo).trans g0, (hx1.cell (p := ⟨b, off + k * 3 + 1, none⟩) hblo).trans g1, (hx1.cell (p := ⟨b, off + k * 3 + 2, none⟩) hblo).trans g2⟩ | exact ⟨(hx2.cell (p := ⟨b, off + k * 3, none⟩) hblo).trans g0, (hx2.cell (p := ⟨b, off + k * 3 + 1, none⟩) hblo).trans g1, (hx2.cell (p := ⟨b, off + k * 3 + 2, none⟩) hblo).trans g2⟩)
          (first | (go_at_call 90; refine (most8 _).mono ?_; rintro e w1 ⟨Am, cm, rfl, hsm, hb1⟩; have hx1 : Below wo.heap.size wo w1 := bUn hb1) | (go_at_call 74; refine (fits8 _ _ _ _ _ _ _ l[k].2.2 w1 hsm rfl pn hpn.out hn3 hi1 hi2).mono ?_; rintro e w2 ⟨rfl, hb2⟩; have hx2 : Below wo.heap.size wo w2 := hx1.trans (hb2.mono hx1.size)))
        go_wp2
        go_roundw
        case rel =>
          refine ⟨k + 1, hlt, by go_num, hB.trans (hx2.mono hB.size), ?_⟩
          intro x hx
          rw [List.take_succ_eq_append_getElem hlt] at hx
          rcases List.mem_append.1 hx with hx | hx
          · exact hz.out x hx
          · rw [List.mem_singleton.1 hx, hpn.out, HP.out]
        case measure => simp [intOf]; omega
      · have hp1 : (pn != 0) = true := by simp [hp0]
        have HP := Lib.hid hp0; clear hp0
        go_wp2
        go_region_held3 (fun w' => w'.cell? ⟨b, off + k * 3, none⟩ = some (.int .i64 l[k].1) ∧ w'.cell? ⟨b, off + k * 3 + 1, none⟩ = some (.int .i64 l[k].2.1) ∧ w'.cell? ⟨b, off + k * 3 + 2, none⟩ = some (.slice D l[k].2.2.length dc))
          (first | go_keep | exact ⟨(hx1.cell (p := ⟨b, off + k * 3, none⟩) hblo).trans g0, (hx1.cell (p := ⟨b, off + k * 3 + 1, none⟩) hblo).trans g1, (hx1.cell (p := ⟨b, off + k * 3 + 2, none⟩) hblo).trans g2⟩ | exact ⟨(hx2.cell (p := ⟨b, off + k * 3, none⟩) hblo).trans g0, (hx2.cell (p := ⟨b, off + k * 3 + 1, none⟩) hblo).trans g1, (hx2.cell (p := ⟨b, off + k * 3 + 2, none⟩) hblo).trans g2⟩)
          (first | (go_at_call 90; refine (most8 _).mono ?_; rintro e w1 ⟨Am, cm, rfl, hsm, hb1⟩; have hx1 : Below wo.heap.size wo w1 := bUn hb1) | (go_at_call 74; refine (fits8 _ _ _ _ _ _ _ l[k].2.2 w1 hsm rfl pn hpn.out hn3 hi1 hi2).mono ?_; rintro e w2 ⟨rfl, hb2⟩; have hx2 : Below wo.heap.size wo w2 := hx1.trans (hb2.mono hx1.size)))
        go_wp2
        go_ret2
        have herr : errOf placedN l = pn := by
          rw [← hpn.out]
          exact errOf_at hlt hz.out (by rw [hpn.out]; exact HP.out)
        have hf : foldL l = [] := by rw [foldL, herr, if_neg HP.out]
        rw [hf, herr]
        exact ⟨none, 0, rfl, by simp, by simp, SlAt.nil_, hB.trans (hx2.mono hB.size)⟩
    · have hkk : k = l.length := by omega
      subst hkk
      have herr : errOf placedN l = 0 := errOf_zero (by have := hz.out; rw [List.take_length] at this; exact this)
      have hf : foldL l = foldS l := by rw [foldL, herr, if_pos rfl]
      have HF := Lib.hid hf
      have HE0 := Lib.hid herr
      clear hz herr hf
      go_wp2
      go_loopw [6, 7] (fun v i wr => ∃ (k : Nat) (B : Option Addr) (vc : Nat) (out : List Wr), k ≤ 8 ∧ i = .int .i64 k ∧ v = .slice B out.length vc ∧ Below w.heap.size w wr ∧ Hid (out = (List.range k).flatMap fun (v : Nat) => pickS l v (runsL (secsOf l v))) ∧ Hid (OwnW encWr wr w.heap.size w.heap.size 74 (.slice B out.length vc) out) ∧ Hid (out.length ≤ k * 4096)) (fun _ i _ => 8 - (intOf i).toNat)
      case atStart => exact ⟨0, none, 0, [], by omega, rfl, rfl, hB, by simp [Hid], OwnW.nil_, by simp [Hid]⟩
      case round =>
        obtain ⟨wp, rfl⟩ : ∃ wp : World, wp = wr := ⟨_, rfl⟩
        obtain ⟨k, B, vc, out, hk, rfl, rfl, hB2, hout, hown, hol⟩ := hrel
        clear hB
        by_cases hlt : k < 8
        · have hki : (k : Int) < 8 := by omega
          have hIk : I64 (k : Int) := by unfold I64; omega
          have hsz := hB2.size
          go_wp2_with fail
          refine ((refExtents_any A c l k wp (H1.out wp hB2) hs hIk).mono fun _ _ h => h.sl).mono ?_
          rintro e w1 ⟨Ae, ce, rfl, _, _, hse, hb1⟩
          have hB3 : Below w.heap.size w w1 := hB2.trans (hb1.mono hsz)
          obtain ⟨es, hes⟩ : ∃ es, es = runsL (secsOf l (k : Int)) := ⟨_, rfl⟩
          rw [← hes] at hse ⊢
          have hbd := runsL_bound 4096 (secsOf l k) (secsOf_mem l k)
          rw [← hes] at hbd
          have hel : es.length ≤ 4096 := Nat.le_trans hbd.2 (secsOf_len l k)
          have hbd1 := Lib.hid hbd.1
          have HE := Lib.hid hes; clear hes hbd
          go_wp2_with fail
          refine ((pick_any A Ae c ce l k es w1 (H1.out w1 hB3) hs hIk (hse.more fun _ h => h.2) hel hbd1.out).mono fun _ _ h => h.sl).mono ?_
          rintro e w2 ⟨Ap, cp, rfl, _, _, hsp, hb2⟩
          have hsz1 := hb1.size
          have hsz2 := hb2.size
          obtain ⟨ps, hps⟩ : ∃ ps, ps = pickS l k es := ⟨_, rfl⟩
          rw [← hps] at hsp ⊢
          have hpl : ps.length ≤ 4096 := by rw [hps]; simp [pickS]; exact hel
          have HPS := Lib.hid hps; clear hps
          have hown2 := (hown.out.below hb1).below hb2
          have HO := Lib.hid hown2; clear hown2
          have hsp2 := Lib.hid (OwnW.since (v := .slice B out.length vc) (lo := w.heap.size) hsp (by omega) (fun g hg => Nat.lt_of_lt_of_le (hown.out.lt g hg).2 hsz1))
          have holb : out.length ≤ 32768 := by have := hol.out; omega
          go_wp2_with (at_builtin; refine Hid.out ?_)
          change wpList _ _ _ _ _ _
          refine wpList_appAll (E := encWr) tyWrs rfl _ _ rfl rfl HO.out rfl rfl hsp2.out (fun _ h => h.1.2) (by omega) (by simp [maxLen]; omega) (by omega) ?_
          intro A' c' w5 hown5 hg5 hat5
          have hok5 := Lib.hid (OwnW.app hown5 hg5 hat5)
          go_wp2
          go_roundw
          case rel =>
            refine ⟨k + 1, A', c', out ++ ps, by omega, by go_num, by simp, ?_, ?_, ?_, ?_⟩
            · exact (hB3.trans (hb2.mono hB3.size)).grown hg5 (by omega) (fun g h => (hown.out.lt g h).1)
            · rw [List.range_succ, List.flatMap_append, ← hout.out, HPS.out, HE.out]; simp [Hid]
            · have := hok5.out; simpa [Hid] using this
            · have := hol.out; simp [Hid]; omega
          case measure => simp [intOf]; omega
        · have hkk : k = 8 := by omega
          subst hkk
          go_wp2
          go_ret2
          have e := hout.out
          rw [HE0.out, HF.out, foldS_eq, ← e]
          obtain ⟨_, p1, p2, p3⟩ := hown.out.parts
          exact ⟨B, vc, rfl, p1, p2, p3, hB2⟩
end Go.Proofs.YtnkmklnlaepdeaaGreat

namespace Go.Proofs.YtnkmklnlaepdeaaGreat
open Go.RowKit

theorem placed_ok {x : Wr} (h : placedN x = 0) : 0 ≤ x.1 ∧ x.1 < 8 ∧ 0 < x.2.2.length ∧ 0 ≤ x.2.1 ∧ x.2.1 + x.2.2.length ≤ 4096 := by
  unfold placedN at h
  split at h
  · cases h
  · split at h
    · cases h
    · split at h
      · cases h
      · omega
/-- the error of a write behind another one -/
def stepErr (f : Wr → Int) (p : Option Wr × Wr) : Int :=
  if f p.2 ≠ 0 then f p.2 else match p.1 with
    | none => 0
    | some y => if p.2.1 < y.1 ∨ (p.2.1 = y.1 ∧ p.2.2.1 ≤ y.2.1 + y.2.2.length) then 3 else 0
def withPrev (l : List Wr) : List (Option Wr × Wr) := (none :: l.map some).zip l
theorem withPrev_len (l : List Wr) : (withPrev l).length = l.length := by simp [withPrev]
theorem withPrev_zero {l : List Wr} (h : 0 < l.length) : (withPrev l)[0]'(by rw [withPrev_len]; exact h) = (none, l[0]) := by
  simp [withPrev]
theorem withPrev_succ {l : List Wr} {k : Nat} (h : k + 1 < l.length) : (withPrev l)[k + 1]'(by rw [withPrev_len]; exact h) = (some l[k], l[k + 1]) := by
  simp [withPrev]
def chkN (f : Wr → Int) (l : List Wr) : Int := errOf (stepErr f) (withPrev l)
theorem stepErr_f {f : Wr → Int} {p : Option Wr × Wr} (h : stepErr f p = 0) : f p.2 = 0 := by
  unfold stepErr at h
  by_cases h1 : f p.2 = 0
  · exact h1
  · rw [if_pos h1] at h; exact absurd h h1
theorem takePrev {f : Wr → Int} {l : List Wr} {k : Nat} (hk : k < l.length) (h : ∀ x ∈ (withPrev l).take (k + 1), stepErr f x = 0) : f l[k] = 0 := by
  have hm : (withPrev l)[k]'(by rw [withPrev_len]; exact hk) ∈ (withPrev l).take (k + 1) := by
    rw [List.take_succ_eq_append_getElem (by rw [withPrev_len]; exact hk)]
    exact List.mem_append_right _ (List.mem_singleton.2 rfl)
  have h1 := stepErr_f (h _ hm)
  cases k with
  | zero => rw [withPrev_zero hk] at h1; exact h1
  | succ k => rw [withPrev_succ hk] at h1; exact h1
theorem takeSnoc {f : Wr → Int} {l : List Wr} {k : Nat} (hk : k < l.length) (p : Option Wr × Wr) (hp : (withPrev l)[k]'(by rw [withPrev_len]; exact hk) = p) (h : ∀ x ∈ (withPrev l).take k, stepErr f x = 0) (h0 : stepErr f p = 0) : ∀ x ∈ (withPrev l).take (k + 1), stepErr f x = 0 := by
  intro x hx
  rw [List.take_succ_eq_append_getElem (by rw [withPrev_len]; exact hk)] at hx
  rcases List.mem_append.1 hx with hx | hx
  · exact h x hx
  · rw [List.mem_singleton.1 hx, hp]; exact h0
theorem chk_at {f : Wr → Int} {l : List Wr} {k : Nat} (hk : k < l.length) (p : Option Wr × Wr) (hp : (withPrev l)[k]'(by rw [withPrev_len]; exact hk) = p) (h : ∀ x ∈ (withPrev l).take k, stepErr f x = 0) (h0 : stepErr f p ≠ 0) : chkN f l = stepErr f p := by
  have := errOf_at (f := stepErr f) (l := withPrev l) (k := k) (by rw [withPrev_len]; exact hk) h (by rw [hp]; exact h0)
  rw [chkN, this, hp]
theorem chk_zero {f : Wr → Int} {l : List Wr} (h : ∀ x ∈ (withPrev l).take l.length, stepErr f x = 0) : chkN f l = 0 := by
  refine errOf_zero ?_
  rw [List.take_of_length_le (by rw [withPrev_len]; exact Nat.le_refl _)] at h
  exact h

theorem cellAft {W w1 : World} {o : Obj} (hb : Below (W.alloc o).heap.size (W.alloc o) w1) {p : Addr} {v : Value} (h : W.cell? p = some v) : w1.cell? p = some v := by
  have hl := World.block_lt_of_cell? W p h
  exact (hb.cell (by simp; omega)).trans ((World.cell?_alloc_lt W o p hl).trans h)
theorem boxAft {W w1 : World} {cs : Array Value} {T : TypeId} (hb : Below (W.alloc (.cells cs T)).heap.size (W.alloc (.cells cs T)) w1) : w1.heap[W.heap.size]? = some (.cells cs T (0, 0)) :=
  (hb.block _ (by simp)).trans (heap_alloc_new _ _)
def mergeErr (a b : List Wr) : Int := if chkN placedN a ≠ 0 then chkN placedN a else chkN placedN b
def mergeL (a b : List Wr) : List Wr := if mergeErr a b = 0 then foldS (a ++ b) else []
theorem chk_all {f : Wr → Int} {l : List Wr} (h : chkN f l = 0) : ∀ x ∈ l, f x = 0 := by
  have hz : ∀ p ∈ withPrev l, stepErr f p = 0 := by
    intro p hp
    rcases Decidable.em (stepErr f p = 0) with h0 | h0
    · exact h0
    · exfalso
      unfold chkN errOf at h
      cases hf : (withPrev l).find? (fun x => stepErr f x != 0) with
      | none => have := List.find?_eq_none.1 hf p hp; simp at this; exact h0 this
      | some q =>
        rw [hf] at h
        have h1 := List.find?_some hf
        simp only [Option.map_some, Option.getD_some] at h
        rw [h] at h1
        simp at h1
  intro x hx
  obtain ⟨k, hk, rfl⟩ := List.mem_iff_getElem.1 hx
  exact takePrev hk (fun p hp => hz p (List.mem_of_mem_take hp))
end Go.Proofs.YtnkmklnlaepdeaaGreat

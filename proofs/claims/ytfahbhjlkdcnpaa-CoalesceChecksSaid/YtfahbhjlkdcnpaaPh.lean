/-
  The walk of pick (the reference).
-/
import Derived.Test.YtfahbhjlkdcnpaaPg
set_option linter.unusedVariables false
set_option linter.unusedSimpArgs false
set_option linter.unusedSectionVars false
set_option linter.unnecessarySimpa false
namespace Go.Proofs.Ytfahbhjlkdcnpaa
open Go.RowKit

theorem blk3 {w : World} {b : Nat} {T : TypeId} {c0 c1 c2 : Value} (h : w.heap[b]? = some (.cells #[c0, c1, c2] T (0, 0))) :
    w.cell? ⟨b, 0, none⟩ = some c0 ∧ w.cell? ⟨b, 1, none⟩ = some c1 ∧ w.cell? ⟨b, 2, none⟩ = some c2 ∧ ∀ j, w.frozen? ⟨b, j, none⟩ = false :=
  ⟨cell_of_row w b 0 _ T _ h, cell_of_row w b 1 _ T _ h, cell_of_row w b 2 _ T _ h, fun j => by simp [World.frozen?, h]⟩
theorem blk3_set {w : World} {b : Nat} {T : TypeId} {c0 c1 c2 : Value} (h : w.heap[b]? = some (.cells #[c0, c1, c2] T (0, 0))) (u : Value) : (w.setCell ⟨b, 2, none⟩ u).heap[b]? = some (.cells #[c0, c1, u] T (0, 0)) := by
  simp [World.setCell, Array.getElem?_modify, h]
def pickD (l : List Wr) (v s : Int) (j : Nat) : List Sec := (List.range j).map fun (k : Nat) => (look l v (s + k)).getD zsec
theorem pickD_succ (l : List Wr) (v s : Int) (j : Nat) : pickD l v s (j + 1) = pickD l v s j ++ [(look l v (s + j)).getD zsec] := by simp [pickD, List.range_succ]
theorem pickS_snoc (l : List Wr) (v : Int) (es : List Ext) (e : Ext) : pickS l v (es ++ [e]) = pickS l v es ++ [(v, e.1, pickD l v e.1 e.2.toNat)] := by simp [pickS, pickD]

set_option maxHeartbeats 2000000 in
theorem pick_any (A A2 : Option Addr) (c c2 : Nat) (l : List Wr) (V : Int) (es : List Ext) (w : World) (h1 : SlAt encWr w (Bl w.heap.size) A l) (hs : l.length ≤ 9223372036854775807) (h3 : I64 V)
    (h2 : SlAt encExt w (Bl w.heap.size) A2 es) (hes : es.length ≤ 4096) (hbd : ∀ e ∈ es, 0 ≤ e.1 ∧ 0 < e.2 ∧ e.1 + e.2 ≤ 4096) :
    Calls Try.prog 42 #[.slice A l.length c, .int .i64 V, .slice A2 es.length c2] w (Ret (encSl encWr) (pickS l V es) w) := by
  have H1 : Hid (∀ w', Below w.heap.size w w' → SlAt encWr w' (Bl w'.heap.size) A l) := fun w' hb => h1.belowUp hb hb.size
  have H2 : Hid (∀ w', Below w.heap.size w w' → SlAt encExt w' (Bl w.heap.size) A2 es) := fun w' hb => h2.below hb
  clear h1 h2
  have HBD := Lib.hid hbd; clear hbd
  have H3 := Lib.hid h3; clear h3
  go_enter Try.func42, Try.ntmps42
  go_wp2
  go_loopw [7, 8] (fun v i wr => ∃ (k : Nat) (B : Option Addr) (vc : Nat) (out : List Wr), k ≤ es.length ∧ i = .int .i64 k ∧ v = .slice B out.length vc ∧ Below w.heap.size w wr ∧ Hid (out = pickS l V (es.take k)) ∧ Hid (OwnW encWr wr w.heap.size w.heap.size 35 (.slice B out.length vc) out)) (fun _ i _ => es.length - (intOf i).toNat)
  case atStart => exact ⟨0, none, 0, [], by omega, rfl, rfl, Below.refl _ _, rfl, OwnW.nil_⟩
  case round =>
    obtain ⟨wo, rfl⟩ : ∃ wo : World, wo = wr := ⟨_, rfl⟩
    obtain ⟨k, B, vc, out, hk, rfl, rfl, hB, hout, hown⟩ := hrel
    by_cases hlt : k < es.length
    · obtain ⟨b, off, rfl, hb, g0, g1, i1, i2⟩ := (H2.out wo hB).ext hlt
      have hbl : b < w.heap.size := hb
      obtain ⟨hs0, hc0, hsc⟩ := HBD.out _ (List.getElem_mem hlt)
      have hnn : (0 : Int) ≤ k := by omega
      have hki : (k : Int) < es.length := by omega
      have hsz := hB.size
      obtain ⟨cnt, hcnt⟩ := Int.eq_ofNat_of_zero_le (show 0 ≤ es[k].2 by omega)
      rw [hcnt] at g1 hc0 hsc
      have HC := Lib.hid hcnt; clear hcnt i2
      obtain ⟨st, hst⟩ : ∃ st, st = es[k].1 := ⟨_, rfl⟩
      rw [← hst] at g0 hs0 hsc i1
      have HST := Lib.hid hst; clear hst
      have hol : out.length ≤ 4096 := by rw [hout.out]; simp [pickS]; omega
      go_wp2
      go_loopw [10] (fun s10 w2 => ∃ (j : Nat) (D : Option Addr) (dc : Nat) (d : List Sec), j ≤ cnt ∧ s10 = .int .i64 j ∧ Below wo.heap.size wo w2 ∧ Hid (d.length = j) ∧ Hid (d = pickD l V st j) ∧ Hid (w2.heap[wo.heap.size]? = some (.cells #[.int .i64 V, .int .i64 st, .slice D d.length dc] 35 (0, 0))) ∧ Hid (Own encSec w2 (wo.heap.size + 1) 53 (fun _ => False) (.slice D d.length dc) d)) (fun s10 _ => cnt - (intOf s10).toNat)
      case atStart => exact ⟨0, none, 0, [], by omega, rfl, (Below.refl _ _).alloc (Nat.le_refl _) _, rfl, rfl, heap_alloc_new _ _, Own.nil_⟩
      case round =>
        obtain ⟨j, D, dc, d, hj, rfl, hB2, hdl, hd, hbox, hownd⟩ := hrel
        have hsz2 := hB2.size
        have hbx : wo.heap.size < wr.heap.size := (Array.getElem?_eq_some_iff.1 hbox.out).1
        have q1 := (hB2.cell (p := ⟨b, off + k * 2 + 1, none⟩) (by simp; omega)).trans g1
        have q0 := (hB2.cell (p := ⟨b, off + k * 2, none⟩) (by simp; omega)).trans g0
        have hBw : Below w.heap.size w wr := hB.trans (hB2.mono hsz)
        by_cases hj2 : j < cnt
        · have hji : (j : Int) < cnt := by omega
          have hjn : (0 : Int) ≤ j := by omega
          have hlk := Lib.hid (refLookup_any A c l V (st + j) wr (H1.out wr hBw) hs H3.out (by unfold I64; omega))
          clear g0 g1
          go_wp2_with fail
          refine hlk.out.mono ?_
          rintro e w3 ⟨x0, x1, x2, x3, x4, x5, x6, x7, q, rfl, hok, hq, hx, hb3⟩
          have hsz3 := hb3.size
          have HQ := Lib.hid hq; clear hq
          have HX := Lib.hid hx; clear hx
          have hbox3 : w3.heap[wo.heap.size]? = some (.cells #[.int .i64 V, .int .i64 st, .slice D d.length dc] 35 (0, 0)) := (hb3.block _ hbx).trans hbox.out
          have hown3 := Lib.hid (((hownd.out.below hb3 (fun _ h => h.elim)).alloc (fun _ h => h.elim) (.cells #[.int .u8 x0, .int .u8 x1, .int .u8 x2, .int .u8 x3, .int .u8 x4, .int .u8 x5, .int .u8 x6, .int .u8 x7] 53)).alloc (fun _ h => h.elim) (.cells #[.int .u8 x0, .int .u8 x1, .int .u8 x2, .int .u8 x3, .int .u8 x4, .int .u8 x5, .int .u8 x6, .int .u8 x7] 53))
          obtain ⟨p0, p1, p2, pf⟩ := blk3 hbox3
          have HB3 := Lib.hid hbox3; clear hbox3
          have hbx3 : wo.heap.size < w3.heap.size := by omega
          have hdl2 : d.length ≤ 4096 := by have := hdl.out; omega
          clear q0 q1 hlk
          go_wp2_with (at_builtin; refine Hid.out ?_)
          change wpList _ _ _ _ _ _
          refine wpList_app1 (E := encSec) tySecs rfl _ _ rfl rfl hown3.out [x0, x1, x2, x3, x4, x5, x6, x7] [.int .u8 x0, .int .u8 x1, .int .u8 x2, .int .u8 x3, .int .u8 x4, .int .u8 x5, .int .u8 x6, .int .u8 x7] rfl ⟨rfl, hok⟩ (heap_new2 _ _ _) (fun _ h => h.elim) (by simp; omega) (by simp [maxLen]; omega) (by omega) ?_
          intro A' c' w5 hown5 hg5 hat5
          have hw5 := hg5.size
          have hrowne : some wo.heap.size ≠ (Value.slice D d.length dc).ownBlock := fun e => by have := (hownd.out.lt _ e.symm).1; omega
          have hbox5 : w5.heap[wo.heap.size]? = some (.cells #[.int .i64 V, .int .i64 st, .slice D d.length dc] 35 (0, 0)) := (hg5.block _ (by simp; omega) hrowne).trans ((Below.heap_alloc _ _ _ (by simp; omega)).trans ((Below.heap_alloc _ _ _ hbx3).trans HB3.out))
          obtain ⟨t0, t1, t2, tf⟩ := blk3 hbox5
          have hset := Lib.hid (blk3_set hbox5 (.slice A' (d.length + 1) c'))
          have hB5 : Hid (Below wo.heap.size wo w5) := ((((hB2.trans (hb3.mono hsz2)).alloc (by omega) _).alloc (by simp; omega) _).grown hg5 (by simp; omega) (fun g h => by have := (hownd.out.lt g h).1; omega))
          have HN : Hid (some wo.heap.size ≠ (Value.slice D d.length dc).ownBlock) := hrowne
          have hst5 : wo.heap.size < w5.heap.size := (Array.getElem?_eq_some_iff.1 hbox5).1
          clear hbox5 p0 p1 p2 pf hrowne
          go_wp2
          go_roundw
          case rel =>
            refine ⟨j + 1, A', c', d ++ [[x0, x1, x2, x3, x4, x5, x6, x7]], by omega, by go_num, hB5.out.setCell (by simp) _, ?_, ?_, ?_, ?_⟩
            · have := hdl.out; simp [Hid, this]
            · rw [pickD_succ, HX.out, ← hd.out]; exact rfl
            · have := hset.out; simpa [Hid] using this
            · have h5 := hown5.blk (w' := w5.setCell ⟨wo.heap.size, 2, none⟩ (.slice A' (d.length + 1) c')) (fun g hg => Below.heap_setCell _ _ _ _ (by
                rcases hg with hg | hg
                · exact hg.elim
                · have := (hown5.lt g hg).1
                  simp only
                  omega))
              simpa [Hid] using h5
          case measure => simp [intOf]; omega
        · have hjj : j = cnt := by omega
          obtain ⟨p0, p1, p2, pf⟩ := blk3 hbox.out
          have hd1 := hd.out
          rw [hjj] at hd1
          have HD1 := Lib.hid hd1; clear hd1
          have HJ := Lib.hid hjj; clear hjj
          have hdl2 : d.length ≤ 4096 := by have := hdl.out; have := HJ.out; omega
          obtain ⟨Dr, hDr⟩ : ∃ o : Obj, o = .cells #[.int .i64 V, .int .i64 st, .slice D d.length dc] 35 := ⟨_, rfl⟩
          have hownw := (hown.out.below hB2).below ((Below.refl wr.heap.size wr).alloc (Nat.le_refl _) Dr)
          rw [hDr] at hownw
          have HW := Lib.hid hownw; clear hownw hDr
          have hdr := Own.reads (S' := Bl wr.heap.size) hownd.out (fun _ h => h.elim) (fun g hg => (hownd.out.lt g hg).2)
          obtain ⟨D', dc', he, hlc, hcm, hat⟩ := hdr
          simp only [List.cons.injEq, Value.slice.injEq, and_true, true_and] at he
          obtain ⟨rfl, rfl⟩ := he
          have hBne : ∀ g, (Value.slice B out.length vc).ownBlock = some g → g < wo.heap.size := fun g hg => (hown.out.lt g hg).2
          have HBN := Lib.hid hBne; clear hBne
          have hrd : encWr.rd (wr.alloc (.cells #[.int .i64 V, .int .i64 st, .slice D d.length dc] 35)) (fun b => Nw w.heap.size (wr.alloc (.cells #[.int .i64 V, .int .i64 st, .slice D d.length dc] 35)).heap.size b ∧ (Value.slice B out.length vc).ownBlock ≠ some b) [.int .i64 V, .int .i64 st, .slice D d.length dc] (V, st, d) := by
            refine wr_mk (x := (V, st, d)) H3.out i1 hlc hcm ?_
            have hat2 := Own.reads (S' := fun b => wo.heap.size < b ∧ b < wr.heap.size) hownd.out (fun _ h => h.elim) (fun g hg => ⟨by have := (hownd.out.lt g hg).1; omega, (hownd.out.lt g hg).2⟩)
            obtain ⟨D', dc', he, _, _, hat2⟩ := hat2
            simp only [List.cons.injEq, Value.slice.injEq, and_true, true_and] at he
            obtain ⟨rfl, rfl⟩ := he
            refine (hat2.keep (w' := wr.alloc _) (fun p hp => World.cell?_of_block (Below.heap_alloc _ _ _ hp.2)) (fun g hg => ⟨⟨by omega, by simp; omega⟩, fun e => ?_⟩))
            have := HBN.out g e
            omega
          have HR := Lib.hid hrd; clear hrd hat
          clear g0 g1
          go_wp2_with (at_builtin; refine Hid.out ?_)
          change wpList _ _ _ _ _ _
          refine wpList_app1 (E := encWr) tyWrs rfl _ _ rfl rfl HW.out (V, st, d) [.int .i64 V, .int .i64 st, .slice D d.length dc] rfl HR.out (heap_alloc_new _ _) (fun _ h => h.1.2) (by simp; omega) (by simp [maxLen]; omega) (by omega) ?_
          intro A' c' w5 hown5 hg5 hat5
          have hok5 := Lib.hid (OwnW.app hown5 hg5 hat5)
          clear p0 p1 p2 pf q0 q1
          go_wp2
          go_roundw
          case rel =>
            refine ⟨k + 1, A', c', out ++ [(V, st, d)], hlt, by go_num, by simp, ?_, ?_, ?_⟩
            · exact (hBw.alloc (by omega) _).grown hg5 (by simp; omega) (fun g h => (hown.out.lt g h).1)
            · rw [List.take_succ_eq_append_getElem hlt, pickS_snoc, ← hout.out, HC.out, ← HST.out, Int.toNat_natCast, ← HD1.out]; exact rfl
            · have := hok5.out; simpa [Hid] using this
          case measure => simp [intOf]; omega
    · have hkk : k = es.length := by omega
      subst hkk
      go_wp2
      go_ret
      have e := hout.out
      rw [List.take_length] at e
      rw [← e]
      exact ⟨_, rfl, hown.out.rd, hB⟩
end Go.Proofs.Ytfahbhjlkdcnpaa

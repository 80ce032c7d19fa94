/-
  The walk of the reference's Same at extents.
  The walks of the reference's Marks and Intersect; what they give, in the sweep's words.
  The walk of the reference's Restrict.
-/
import Derived.Test.YtfahbhjlkdcnpaaMap
import Derived.Test.YtfahbhjlkdcnpaaPg
import Derived.Test.YtfahbhjlkdcnpaaUs
import Derived.Test.YtfahbhjlkdcnpaaRe
import Derived.Test.YtfahbhjlkdcnpaaTa
set_option linter.unusedVariables false
set_option linter.unusedSimpArgs false
set_option linter.unusedSectionVars false
set_option linter.unnecessarySimpa false
namespace Go.Proofs.Ytfahbhjlkdcnpaa
open Go.RowKit

theorem run_eq_ext (w : World) (a b c d : Int) : (Op.equalIn 10000 68 (.agg #[.int .i64 a, .int .i64 b]) (.agg #[.int .i64 c, .int .i64 d])).run Try.prog w = .ok ((a, b) == (c, d)) w := by
  have und : Try.prog.underlying 68 = some (.struct (Try.prog.fieldsOf 68)) := by kernel_rfl
  have fld : (Try.prog.fieldsOf 68).toList = [(Try.prog.fieldsOf 68)[0]!, (Try.prog.fieldsOf 68)[1]!] := by kernel_rfl
  have n0 : (Try.prog.fieldsOf 68)[0]!.name = "Start" := by kernel_rfl
  have n1 : (Try.prog.fieldsOf 68)[1]!.name = "Count" := by kernel_rfl
  have p0 : ∀ w, (part (Try.prog.fieldsOf 68)[0]!.type #[.int .i64 a, .int .i64 b] (Try.prog.fieldsOf 68)[0]!.offset).run Try.prog w = .ok (.int .i64 a) w := by intro w; kernel_rfl
  have p1 : ∀ w, (part (Try.prog.fieldsOf 68)[1]!.type #[.int .i64 a, .int .i64 b] (Try.prog.fieldsOf 68)[1]!.offset).run Try.prog w = .ok (.int .i64 b) w := by intro w; kernel_rfl
  have q0 : ∀ w, (part (Try.prog.fieldsOf 68)[0]!.type #[.int .i64 c, .int .i64 d] (Try.prog.fieldsOf 68)[0]!.offset).run Try.prog w = .ok (.int .i64 c) w := by intro w; kernel_rfl
  have q1 : ∀ w, (part (Try.prog.fieldsOf 68)[1]!.type #[.int .i64 c, .int .i64 d] (Try.prog.fieldsOf 68)[1]!.offset).run Try.prog w = .ok (.int .i64 d) w := by intro w; kernel_rfl
  have t0 : Try.prog.underlying (Try.prog.fieldsOf 68)[0]!.type = some (.int .i64) := by kernel_rfl
  have t1 : Try.prog.underlying (Try.prog.fieldsOf 68)[1]!.type = some (.int .i64) := by kernel_rfl
  have h := run_equalIn_agg w 9999 68 #[.int .i64 a, .int .i64 b] #[.int .i64 c, .int .i64 d] und (by kernel_rfl)
  rw [fld] at h
  simp only [Op.eqFields, n0, n1, if_pos (show "Start" ≠ "_" by decide), if_pos (show "Count" ≠ "_" by decide), Sem.run_bind, Sem.run_ite, Sem.run_pure, p0, p1, q0, q1, Result.andThen_ok, run_equalIn_int _ 9998 _ .i64 .i64 _ _ t0, run_equalIn_int _ 9998 _ .i64 .i64 _ _ t1] at h
  refine h.trans ?_
  by_cases h1 : a = c <;> by_cases h2 : b = d <;> simp [h1, h2]
set_option maxHeartbeats 1000000 in
theorem extSame_any (A A' : Option Addr) (c c' : Nat) (S S' : Nat → Prop) (ss ts : List _) (w : World) (h1 : SlAt encExt w S A ss) (h2 : SlAt encExt w S' A' ts) (hs : ss.length ≤ 9223372036854775807) (ht : ts.length ≤ 9223372036854775807) :
    Calls Try.prog 29 #[.slice A ss.length c, .slice A' ts.length c'] w fun e w' => e = .returned (.bool (ss == ts)) ∧ Drew w w' := by
  by_cases hl : ss.length = ts.length
  · have hl' : (((ss.length : Nat) : Int) != (ts.length : Int)) = false := by simp [hl]
    have HL := Lib.hid hl; clear hl
    go_enter Try.func29, Try.ntmps29
    go_wp2
    go_loopw [5] (fun i wr => ∃ k : Nat, k ≤ ss.length ∧ i = .int .i64 k ∧ Drew w wr ∧ Hid (ss.take k = ts.take k)) (fun i _ => ss.length - (intOf i).toNat)
    case atStart => exact ⟨0, by omega, rfl, Drew.refl _, by simp [Hid]⟩
    case round =>
      obtain ⟨k, hk, rfl, hd, hp⟩ := hrel
      replace h1 := h1.drew hd
      replace h2 := h2.drew hd
      by_cases hlt : k < ss.length
      · have hlt2 : k < ts.length := by have := HL.out; omega
        obtain ⟨b, off, rfl, hb, g0, g1, _, _⟩ := h1.ext hlt
        obtain ⟨b', off', rfl, hb', k0, k1, _, _⟩ := h2.ext hlt2
        have hnn : (0 : Int) ≤ k := by omega
        have hki : (k : Int) < ss.length := by omega
        have hki2 : (k : Int) < ts.length := by omega
        obtain ⟨q, hqq⟩ : ∃ q, Hid ((ss[k]'hlt == ts[k]'hlt2) = q) := ⟨_, Lib.hid rfl⟩
        have hq := fun W => run_eq_ext W (ss[k]'hlt).1 (ss[k]'hlt).2 (ts[k]'hlt2).1 (ts[k]'hlt2).2
        rw [hqq.out] at hq
        go_wp2
        go_quiet (fail)
        cases q with
        | true =>
          go_wp2
          go_roundw
          case rel => exact ⟨k + 1, hlt, by go_num, hd.step _, take_succ_eq _ _ _ hlt hlt2 hp (eq_of_beq hqq.out)⟩
          case measure => simp [intOf]; omega
        | false =>
          go_wp2
          go_ret
          refine ⟨ret_bool ?_, hd.step _⟩
          rw [eq_comm, beq_eq_false_iff_ne]
          intro e
          subst e
          have := hqq.out
          simp at this
      · have : k = ss.length := by omega
        subst this
        go_wp2
        go_ret
        refine ⟨ret_bool ?_, hd⟩
        have := hp.out
        rw [List.take_length, List.take_of_length_le (by rw [HL.out]; omega)] at this
        simp [this]
  · have hl' : (((ss.length : Nat) : Int) != (ts.length : Int)) = true := by simp; omega
    have HL := Lib.hid hl; clear hl
    go_enter Try.func29, Try.ntmps29
    go_wp2
    go_ret
    refine ⟨ret_bool ?_, Drew.refl _⟩
    rw [eq_comm, beq_eq_false_iff_ne]
    intro e
    exact HL.out (by rw [e])
end Go.Proofs.Ytfahbhjlkdcnpaa

namespace Go.Proofs.Ytfahbhjlkdcnpaa
open Go.RowKit

def marksE (l : List Ext) : List Bool := l.foldl addM noMarks
theorem marksE_snoc (l : List Ext) (e : Ext) : marksE (l ++ [e]) = addM (marksE l) e := by simp [marksE]
theorem marksE_len (l : List Ext) : (marksE l).length = 4096 := by
  induction l using snocRec with
  | h0 => exact noMarks_len
  | h1 l x ih => rw [marksE_snoc, addM_len, ih]
theorem marksE_at (l : List Ext) (i : Nat) (hi : i < 4096) : (marksE l).getD i false = l.any (inExt i) := by
  induction l using snocRec with
  | h0 =>
    have : (marksE []).getD i false = false := by
      exact rep_getD 4096 i
    rw [this]; rfl
  | h1 l e ih =>
    have hlen := marksE_len l
    have h1 : (addM (marksE l) e).getD i false = ((marksE l).getD i false || decide (e.1 ≤ i ∧ (i : Int) < e.1 + e.2)) := by
      simp [addM, hlen, hi]
    rw [marksE_snoc, h1, ih, List.any_append, List.any_cons, List.any_nil, Bool.or_false]
    refine congrArg (fun z => (l.any (inExt i) || z)) ?_
    unfold inExt
    rw [decide_eq_decide]
    omega
def RetRow (m : List Bool) (n : Nat) (w : World) (e : Ending) (w' : World) : Prop := ∃ b c, e = .returned (.slice (some ⟨b, 0, none⟩) n c) ∧ w.heap.size ≤ b ∧ BRow w' b m ∧ Below w.heap.size w w'
set_option maxHeartbeats 1000000 in
theorem refMarks_any (A : Option Addr) (c : Nat) (l : List Ext) (w : World) (h1 : SlAt encExt w (Bl w.heap.size) A l) (hs : l.length ≤ 9223372036854775807) :
    Calls Try.prog 81 #[.slice A l.length c] w (RetRow (marksE l) 4096 w) := by
  have h1 : Hid (∀ w', Below w.heap.size w w' → SlAt encExt w' (Bl w.heap.size) A l) := fun w' hb => h1.below hb
  have hmk := makeMarks
  go_enter Try.func81, Try.ntmps81
  go_wp2
  go_loopw [4] (fun i wr => ∃ k : Nat, k ≤ l.length ∧ i = .int .i64 k ∧ Below w.heap.size w wr ∧ Hid (BRow wr w.heap.size (marksE (l.take k)))) (fun i _ => l.length - (intOf i).toNat)
  case atStart => exact ⟨0, by omega, rfl, (Below.refl _ _).alloc (Nat.le_refl _) _, heap_alloc_new _ _⟩
  case round =>
    obtain ⟨k, hk, rfl, hB, hrow⟩ := hrel
    clear hmk
    by_cases hlt : k < l.length
    · have H1 := Lib.hid (h1.out wr hB)
      obtain ⟨b, off, rfl, hb, g0, g1, hi1, hi2⟩ := H1.out.ext hlt
      have hbl : b < w.heap.size := hb
      have hnn : (0 : Int) ≤ k := by omega
      have hki : (k : Int) < l.length := by omega
      have hm : Hid (marksE (l.take (k + 1)) = addM (marksE (l.take k)) (l[k].1, l[k].2)) := by
        rw [List.take_succ_eq_append_getElem hlt, marksE_snoc]; exact rfl
      have hlen := Lib.hid (marksE_len (l.take k))
      go_wp2_with fail
      refine (add4096 _ _ (marksE (l.take k)) _ _ _ hrow.out hlen.out hi1 hi2).mono ?_
      rintro e w1 ⟨⟨v, rfl⟩, hrow1, hgw⟩
      clear g0 g1
      go_wp2
      go_roundw
      case rel =>
        refine ⟨k + 1, hlt, by go_num, hB.grown hgw hB.size (fun g hg => by injection hg with hg; omega), ?_⟩
        rw [hm.out]; exact hrow1
      case measure => simp [intOf]; omega
    · have hkk : k = l.length := by omega
      subst hkk
      have hr := hrow.out
      rw [List.take_length] at hr
      have HR := Lib.hid hr; clear hr
      go_wp2
      go_ret
      exact ⟨w.heap.size, 4096, rfl, Nat.le_refl _, HR.out, hB⟩
/-- the marks of one set turned by those of another, up to a place -/
def opTo (op : Bool → Bool → Bool) (m n : List Bool) (k : Nat) : List Bool := m.mapIdx fun i x => if i < k then op x (n.getD i false) else x
theorem opTo_len (op : Bool → Bool → Bool) (m n : List Bool) (k : Nat) : (opTo op m n k).length = m.length := by simp [opTo]
theorem opTo_zero (op : Bool → Bool → Bool) (m n : List Bool) : opTo op m n 0 = m := by
  refine List.ext_getElem (by simp [opTo]) fun i h1 h2 => ?_
  simp [opTo]
theorem opTo_at (op : Bool → Bool → Bool) (m n : List Bool) (k : Nat) (hk : k < m.length) : (opTo op m n k)[k]'(by rw [opTo_len]; exact hk) = m[k] := by simp [opTo]
theorem opTo_succ (op : Bool → Bool → Bool) (m n : List Bool) (k : Nat) (hk : k < m.length) : (opTo op m n k).set k (op m[k] (n.getD k false)) = opTo op m n (k + 1) := by
  refine List.ext_getElem (by simp [opTo]) fun i h1 h2 => ?_
  rw [List.getElem_set]
  by_cases e : k = i
  · subst e; simp [opTo]
  · rw [if_neg e]
    simp only [opTo, List.getElem_mapIdx]
    by_cases h : i < k
    · rw [if_pos h, if_pos (by omega)]
    · rw [if_neg h, if_neg (by omega)]
theorem idxs_opTo (op : Bool → Bool → Bool) (a b : List Ext) : idxs (opTo op (marksE a) (marksE b) 4096) = below (fun x => op (a.any (inExt x)) (b.any (inExt x))) 4096 := by
  have hl : (opTo op (marksE a) (marksE b) 4096).length = 4096 := by rw [opTo_len, marksE_len]
  unfold idxs below
  rw [hl]
  refine congrArg _ (List.filter_congr fun i hi => ?_)
  have hi' := List.mem_range.1 hi
  have hla := marksE_len a
  show _ = op (a.any (inExt i)) (b.any (inExt i))
  rw [← marksE_at a i hi', ← marksE_at b i hi']
  have e : (opTo op (marksE a) (marksE b) 4096).getD i false = op ((marksE a).getD i false) ((marksE b).getD i false) := by
    rw [List.getD_eq_getElem?_getD, List.getElem?_eq_getElem (by rw [hl]; exact hi')]
    rw [List.getD_eq_getElem?_getD (l := marksE a), List.getElem?_eq_getElem (by rw [hla]; exact hi')]
    simp only [Option.getD_some, opTo, List.getElem_mapIdx]
    rw [if_pos hi']
  exact e
set_option maxHeartbeats 2000000 in
theorem refInter_any (A A' : Option Addr) (c c' : Nat) (a b : List Ext) (w : World) (h1 : SlAt encExt w (Bl w.heap.size) A a) (h2 : SlAt encExt w (Bl w.heap.size) A' b) (hs : a.length ≤ 9223372036854775807) (ht : b.length ≤ 9223372036854775807) :
    Calls Try.prog 55 #[.slice A a.length c, .slice A' b.length c'] w (Ret (encSl encExt) (runsL (below (fun x => (a.any (inExt x)) && (b.any (inExt x))) 4096)) w) := by
  have hc1 := Lib.hid (refMarks_any A c a w h1 hs)
  have H2 := Lib.hid h2; clear h1 h2
  have la := marksE_len a
  have lb := marksE_len b
  obtain ⟨x, hx⟩ : ∃ x, Hid (x = marksE a) := ⟨_, Lib.hid rfl⟩
  obtain ⟨y, hy⟩ : ∃ y, Hid (y = marksE b) := ⟨_, Lib.hid rfl⟩
  rw [← hx.out] at hc1 la
  rw [← hy.out] at lb
  have LA := Lib.hid la; have LB := Lib.hid lb
  clear la lb
  go_enter Try.func55, Try.ntmps55
  go_wp2_with fail
  refine hc1.out.mono ?_
  rintro e w1 ⟨bx, cx, rfl, hbx, hrx, hb1⟩
  have hc2 := refMarks_any A' c' b w1 (H2.out.fwd hb1) ht
  rw [← hy.out] at hc2
  have HC2 := Lib.hid hc2; clear hc2
  have hbx1 := hrx.lt
  have HRX := Lib.hid hrx; clear hrx
  go_wp2_with fail
  refine HC2.out.mono ?_
  rintro e w2 ⟨by_, cy, rfl, hby, hry, hb2⟩
  have HRX2 := Lib.hid (HRX.out.blk (hb2.block _ hbx1))
  have HRY := Lib.hid hry; clear hry
  have hne : bx ≠ by_ := by omega
  have hB2 : Below w.heap.size w w2 := ext_trans hb1 hb2
  go_wp2
  go_loopw [7] (fun i wr => ∃ k : Nat, k ≤ 4096 ∧ i = .int .i64 k ∧ Below w.heap.size w wr ∧ Hid (BRow wr bx (opTo (· && ·) x y k)) ∧ Hid (BRow wr by_ y)) (fun i _ => 4096 - (intOf i).toNat)
  case atStart => exact ⟨0, by omega, rfl, hB2, by rw [opTo_zero]; exact HRX2.out, HRY.out⟩
  case round =>
    obtain ⟨k, hk, rfl, hB, hrow, hrow2⟩ := hrel
    by_cases hlt : k < 4096
    · have hkx : k < x.length := by rw [LA.out]; exact hlt
      have hky : k < y.length := by rw [LB.out]; exact hlt
      have hc := hrow.out.cell (k := k) (by rw [opTo_len]; exact hkx)
      rw [opTo_at _ _ _ _ hkx] at hc
      have hf := hrow.out.frozen k
      have hc' := hrow2.out.cell (k := k) hky
      have hnn : (0 : Int) ≤ k := by omega
      have hki : (k : Int) < 4096 := by omega
      have hyd : y.getD k false = y[k]'hky := by simp [List.getD_eq_getElem?_getD, List.getElem?_eq_getElem hky]
      obtain ⟨p, hp⟩ : ∃ p, Hid (x[k]'hkx = p) := ⟨_, Lib.hid rfl⟩
      obtain ⟨q, hq⟩ : ∃ q, Hid (y[k]'hky = q) := ⟨_, Lib.hid rfl⟩
      have hnew : Hid (∀ u : Bool, u = (p && q) → (opTo (· && ·) x y k).set k u = opTo (· && ·) x y (k + 1)) := fun u hu => by
        rw [← opTo_succ _ _ _ _ hkx, hyd, hp.out, hq.out, hu]
      rw [hp.out] at hc
      rw [hq.out] at hc'
      clear hyd
      cases p with
      | true =>
        go_wp2
        go_roundw
        case rel => exact ⟨k + 1, by omega, by go_num, hB.setCell (p := ⟨bx, k, none⟩) hbx _, by rw [← hnew.out q (by simp)]; exact hrow.out.set k q, hrow2.out.blk (Below.heap_setCell _ _ _ _ (fun e => hne e.symm))⟩
        case measure => simp [intOf]; omega
      | false =>
        go_wp2
        go_roundw
        case rel => exact ⟨k + 1, by omega, by go_num, hB.setCell (p := ⟨bx, k, none⟩) hbx _, by rw [← hnew.out false (by simp)]; exact hrow.out.set k false, hrow2.out.blk (Below.heap_setCell _ _ _ _ (fun e => hne e.symm))⟩
        case measure => simp [intOf]; omega
    · have hkk : k = 4096 := by omega
      subst hkk
      have hsz := hB.size
      have hli := list_any bx cx (opTo (· && ·) x y 4096) wr hrow.out (by rw [opTo_len, LA.out]; exact Nat.le_refl _)
      have hll : (opTo (· && ·) x y 4096).length = 4096 := by rw [opTo_len, LA.out]
      rw [hll] at hli
      have hfin : Hid (idxs (opTo (· && ·) x y 4096) = below (fun x => (a.any (inExt x)) && (b.any (inExt x))) 4096) := by
        rw [hx.out, hy.out]; exact idxs_opTo _ a b
      rw [hfin.out] at hli
      have HLI := Lib.hid hli; clear hli hll
      go_wp2_with fail
      refine HLI.out.mono ?_
      rintro e w3 ⟨v, rfl, hv, hb3⟩
      go_wp2
      go_ret
      exact ⟨v, rfl, Enc.more hv (fun _ h => h.mono hsz (Nat.le_refl _)), ext_trans hB hb3⟩
end Go.Proofs.Ytfahbhjlkdcnpaa

namespace Go.Proofs.Ytfahbhjlkdcnpaa
open Go.RowKit

theorem keys_putE (M : Eff) (p : Pl) (s : Sec) : (putE M p s).map (·.1) = if p ∈ M.map (·.1) then M.map (·.1) else M.map (·.1) ++ [p] := by
  induction M with
  | nil => rfl
  | cons x M ih =>
    unfold putE
    by_cases hx : x.1 = p
    · rw [if_pos hx, if_pos (by simp [hx])]
      simp [hx]
    · rw [if_neg hx, List.map_cons, ih]
      have hx' : ¬ p = x.1 := fun e => hx e.symm
      by_cases h : p ∈ M.map (·.1)
      · rw [if_pos h, if_pos (by rw [List.map_cons]; exact List.mem_cons_of_mem _ h)]; rfl
      · rw [if_neg h, if_neg (by rw [List.map_cons, List.mem_cons]; exact fun hh => hh.elim hx' h)]; rfl
theorem nodup_putE {M : Eff} (h : (M.map (·.1)).Nodup) (p : Pl) (s : Sec) : ((putE M p s).map (·.1)).Nodup := by
  rw [keys_putE]
  split
  · exact h
  · rename_i hp
    rw [List.nodup_append]
    refine ⟨h, by simp, fun a ha b hb e => ?_⟩
    rw [List.mem_singleton] at hb
    subst hb e
    exact hp ha
theorem nodup_effW {M : Eff} (h : (M.map (·.1)).Nodup) (x : Wr) (j : Nat) : ((effW M x j).map (·.1)).Nodup := by
  induction j with
  | zero => exact h
  | succ j ih => rw [effW_succ]; exact nodup_putE ih _ _
theorem nodup_eff (l : List Wr) : ((effM l).map (·.1)).Nodup := by
  induction l using snocRec with
  | h0 => exact List.nodup_nil
  | h1 l x ih => rw [effM_snoc]; exact nodup_effW ih x _
set_option maxHeartbeats 2000000 in
theorem refRestrict_any (A A2 : Option Addr) (c c2 : Nat) (l : List Wr) (v : Int) (keep : List Ext) (w : World) (h1 : SlAt encWr w (Bl w.heap.size) A l) (hs : l.length ≤ 9223372036854775807) (h2 : SlAt encExt w (Bl w.heap.size) A2 keep) (hk : keep.length ≤ 9223372036854775807) (hv : I64 v) :
    Calls Try.prog 26 #[.slice A l.length c, .int .i64 v, .slice A2 keep.length c2] w (RetSlN encWr (restrictL l v keep) (chkN placedN l) w) := by
  have H1 : Hid (∀ w', Below w.heap.size w w' → SlAt encWr w' (Bl w'.heap.size) A l) := fun w' hb => h1.fwd hb
  have H2 : Hid (∀ w', Below w.heap.size w w' → SlAt encExt w' (Bl w'.heap.size) A2 keep) := fun w' hb => h2.fwd hb
  have HV := Lib.hid hv
  clear h1 h2 hv
  obtain ⟨ea, hea⟩ : ∃ ea, Hid (chkN placedN l = ea) := ⟨_, Lib.hid rfl⟩
  go_enter Try.func26, Try.ntmps26
  go_wp2_with fail
  refine (most8 _).mono ?_
  rintro e w1 ⟨Z1, zc1, rfl, hz1, hb1⟩
  have HC := Lib.hid (refCheck8 A Z1 c zc1 l.length l w1 rfl (H1.out w1 hb1) hs hz1 ea hea.out)
  clear hz1
  go_wp2_with fail
  refine HC.out.mono ?_
  rintro e w2 ⟨rfl, hb2⟩
  have hB2 : Below w.heap.size w w2 := ext_trans hb1 hb2
  by_cases he : ea = 0
  · have he1 : (ea != 0) = false := by simp [he]
    have HE := Lib.hid he; clear he
    have HALL : Hid (∀ x ∈ l, placedN x = 0) := chk_all (by rw [hea.out, HE.out])
    go_wp2_with fail
    refine ((refExtents_any A c l v w2 (H1.out w2 hB2) hs HV.out).mono fun _ _ h => h.sl).mono ?_
    rintro e w3 ⟨A3, c3, rfl, _, _, hs3, hb3⟩
    have hB3 : Below w.heap.size w w3 := ext_trans hB2 hb3
    obtain ⟨es, hes⟩ : ∃ es, Hid (es = runsL (secsOf l v)) := ⟨_, Lib.hid rfl⟩
    rw [← hes.out] at hs3 ⊢
    have hel : es.length ≤ 4096 := by
      rw [hes.out]
      exact Nat.le_trans (runsL_bound 4096 (secsOf l v) (secsOf_mem l v)).2 (secsOf_len l v)
    have HS3 := Lib.hid (hs3.more (fun _ h => h.2) : SlAt encExt w3 (Bl w3.heap.size) A3 es)
    clear hs3
    go_wp2_with fail
    refine ((refInter_any A3 A2 c3 c2 es keep w3 HS3.out (H2.out w3 hB3) (by omega) hk).mono fun _ _ h => h.sl).mono ?_
    rintro e w4 ⟨A4, c4, rfl, _, _, hs4, hb4⟩
    have hB4 : Below w.heap.size w w4 := ext_trans hB3 hb4
    obtain ⟨fs, hfs⟩ : ∃ fs, Hid (fs = runsL (below (fun x => (es.any (inExt x)) && (keep.any (inExt x))) 4096)) := ⟨_, Lib.hid rfl⟩
    rw [← hfs.out] at hs4 ⊢
    have hbd := runsL_bound 4096 (below (fun x => (es.any (inExt x)) && (keep.any (inExt x))) 4096) (fun x hx => by have := below_lt _ _ x hx; omega)
    rw [← hfs.out] at hbd
    have hbl : (below (fun x => (es.any (inExt x)) && (keep.any (inExt x))) 4096).length ≤ 4096 := by
      have key : ∀ (P : Int → Bool) (q : Nat), (below P q).length ≤ q := fun P q => by
        unfold below
        rw [List.length_map]
        exact Nat.le_trans (List.length_filter_le _ _) (by rw [List.length_range]; exact Nat.le_refl _)
      exact key _ 4096
    have hfl : fs.length ≤ 4096 := Nat.le_trans hbd.2 hbl
    have HBD := Lib.hid hbd.1
    have HS4 := Lib.hid (hs4.more (fun _ h => h.2) : SlAt encExt w4 (Bl w4.heap.size) A4 fs)
    clear hs4 hbd hbl
    go_wp2_with fail
    refine ((pick_any A A4 c c4 l v fs w4 (H1.out w4 hB4) hs HV.out HS4.out hfl HBD.out).mono fun _ _ h => h.sl).mono ?_
    rintro e w5 ⟨A5, c5, rfl, r1, r2, r3, hb5⟩
    have hr : Hid (restrictL l v keep = pickS l v fs) := by
      rw [Hid, restrictL, if_pos (by rw [hea.out, HE.out]), restrict_plain l v keep (nodup_eff l) HALL.out, hfs.out, hes.out, selS_ref]
    have HR := Lib.hid (And.intro r1 (And.intro r2 r3)); clear r1 r2 r3
    have hsz4 := hB4.size
    go_wp2
    go_ret2
    rw [hea.out, HE.out, hr.out]
    exact ⟨A5, c5, rfl, HR.out.1, HR.out.2.1, HR.out.2.2.more (fun g h => h.mono hsz4 (Nat.le_refl _)), ext_trans hB4 hb5⟩
  · have he1 : (ea != 0) = true := by simp [he]
    have HE := Lib.hid he; clear he
    go_wp2
    go_ret2
    rw [restrictL, hea.out, if_neg HE.out]
    exact ⟨none, 0, rfl, by simp, by simp, SlAt.nil_, hB2⟩
end Go.Proofs.Ytfahbhjlkdcnpaa

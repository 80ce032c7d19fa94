/-
  The walk of the reference's Same at extents.
  The walks of the reference's Marks and Intersect; what they give, in the sweep's words.
  The walk of the reference's Restrict.
-/
import Derived.Test.YtgmeghandjkkcaaGreatMap
import Derived.Test.YtgmeghandjkkcaaGreatPg
import Derived.Test.YtgmeghandjkkcaaGreatUs
import Derived.Test.YtgmeghandjkkcaaGreatRe
import Derived.Test.YtgmeghandjkkcaaGreatTa
set_option linter.unusedVariables false
set_option linter.unusedSimpArgs false
set_option linter.unusedSectionVars false
set_option linter.unnecessarySimpa false
namespace Go.Proofs.YtgmeghandjkkcaaGreat
open Go.RowKit

theorem run_eq_ext (w : World) (a b c d : Int) : (Op.equalIn 10000 104 (.agg #[.int .i64 a, .int .i64 b]) (.agg #[.int .i64 c, .int .i64 d])).run Tryz.prog w = .ok ((a, b) == (c, d)) w := by
  have und : Tryz.prog.underlying 104 = some (.struct (Tryz.prog.fieldsOf 104)) := by kernel_rfl
  have fld : (Tryz.prog.fieldsOf 104).toList = [(Tryz.prog.fieldsOf 104)[0]!, (Tryz.prog.fieldsOf 104)[1]!] := by kernel_rfl
  have n0 : (Tryz.prog.fieldsOf 104)[0]!.name = "Start" := by kernel_rfl
  have n1 : (Tryz.prog.fieldsOf 104)[1]!.name = "Count" := by kernel_rfl
  have p0 : ∀ w, (part (Tryz.prog.fieldsOf 104)[0]!.type #[.int .i64 a, .int .i64 b] (Tryz.prog.fieldsOf 104)[0]!.offset).run Tryz.prog w = .ok (.int .i64 a) w := by intro w; kernel_rfl
  have p1 : ∀ w, (part (Tryz.prog.fieldsOf 104)[1]!.type #[.int .i64 a, .int .i64 b] (Tryz.prog.fieldsOf 104)[1]!.offset).run Tryz.prog w = .ok (.int .i64 b) w := by intro w; kernel_rfl
  have q0 : ∀ w, (part (Tryz.prog.fieldsOf 104)[0]!.type #[.int .i64 c, .int .i64 d] (Tryz.prog.fieldsOf 104)[0]!.offset).run Tryz.prog w = .ok (.int .i64 c) w := by intro w; kernel_rfl
  have q1 : ∀ w, (part (Tryz.prog.fieldsOf 104)[1]!.type #[.int .i64 c, .int .i64 d] (Tryz.prog.fieldsOf 104)[1]!.offset).run Tryz.prog w = .ok (.int .i64 d) w := by intro w; kernel_rfl
  have t0 : Tryz.prog.underlying (Tryz.prog.fieldsOf 104)[0]!.type = some (.int .i64) := by kernel_rfl
  have t1 : Tryz.prog.underlying (Tryz.prog.fieldsOf 104)[1]!.type = some (.int .i64) := by kernel_rfl
  have h := run_equalIn_agg w 9999 104 #[.int .i64 a, .int .i64 b] #[.int .i64 c, .int .i64 d] und (by kernel_rfl)
  rw [fld] at h
  simp only [Op.eqFields, n0, n1, if_pos (show "Start" ≠ "_" by decide), if_pos (show "Count" ≠ "_" by decide), Sem.run_bind, Sem.run_ite, Sem.run_pure, p0, p1, q0, q1, Result.andThen_ok, run_equalIn_int _ 9998 _ .i64 .i64 _ _ t0, run_equalIn_int _ 9998 _ .i64 .i64 _ _ t1] at h
  refine h.trans ?_
  by_cases h1 : a = c <;> by_cases h2 : b = d <;> simp [h1, h2]
end Go.Proofs.YtgmeghandjkkcaaGreat

namespace Go.Proofs.YtgmeghandjkkcaaGreat
open Go.RowKit

def marksE (l : List Ext) : List Bool := l.foldl addM noMarks
theorem marksE_snoc (l : List Ext) (e : Ext) : marksE (l ++ [e]) = addM (marksE l) e := by simp [marksE]
theorem marksE_len (l : List Ext) : (marksE l).length = 4096 := by
  induction l using snocRec with
  | h0 => exact noMarks_len
  | h1 l x ih => rw [marksE_snoc, addM_len, ih]
theorem marksE_at (l : List Ext) (i : Nat) (hi : i < 4096) : (marksE l).getD i false = l.any (inExt i) := by
  induction l using snocRec with
  | h0 =>
    have : (marksE []).getD i false = false := by
      exact rep_getD 4096 i
    rw [this]; rfl
  | h1 l e ih =>
    have hlen := marksE_len l
    have h1 : (addM (marksE l) e).getD i false = ((marksE l).getD i false || decide (e.1 ≤ i ∧ (i : Int) < e.1 + e.2)) := by
      simp [addM, hlen, hi]
    rw [marksE_snoc, h1, ih, List.any_append, List.any_cons, List.any_nil, Bool.or_false]
    refine congrArg (fun z => (l.any (inExt i) || z)) ?_
    unfold inExt
    rw [decide_eq_decide]
    omega
def RetRow (m : List Bool) (n : Nat) (w : World) (e : Ending) (w' : World) : Prop := ∃ b c, e = .returned (.slice (some ⟨b, 0, none⟩) n c) ∧ w.heap.size ≤ b ∧ BRow w' b m ∧ Below w.heap.size w w'
set_option maxHeartbeats 1000000 in
theorem refMarks_any (A : Option Addr) (c : Nat) (l : List Ext) (w : World) (h1 : SlAt encExt w (Bl w.heap.size) A l) (hs : l.length ≤ 9223372036854775807) :
    Calls Tryz.prog 84 #[.slice A l.length c] w (RetRow (marksE l) 4096 w) := by
  have h1 : Hid (∀ w', Below w.heap.size w w' → SlAt encExt w' (Bl w.heap.size) A l) := fun w' hb => h1.below hb
  have hmk := makeMarks
  go_enter Tryz.func84, Tryz.ntmps84
  go_wp2
  go_loopw [4] (fun i wr => ∃ k : Nat, k ≤ l.length ∧ i = .int .i64 k ∧ Below w.heap.size w wr ∧ Hid (BRow wr w.heap.size (marksE (l.take k)))) (fun i _ => l.length - (intOf i).toNat)
  case atStart => exact ⟨0, by omega, rfl, (Below.refl _ _).alloc (Nat.le_refl _) _, heap_alloc_new _ _⟩
  case round =>
    obtain ⟨k, hk, rfl, hB, hrow⟩ := hrel
    clear hmk
    by_cases hlt : k < l.length
    · have H1 := Lib.hid (h1.out wr hB)
      obtain ⟨b, off, rfl, hb, g0, g1, hi1, hi2⟩ := H1.out.ext hlt
      have hbl : b < w.heap.size := hb
      have hnn : (0 : Int) ≤ k := by omega
      have hki : (k : Int) < l.length := by omega
      have hm : Hid (marksE (l.take (k + 1)) = addM (marksE (l.take k)) (l[k].1, l[k].2)) := by
        rw [List.take_succ_eq_append_getElem hlt, marksE_snoc]; exact rfl
      have hlen := Lib.hid (marksE_len (l.take k))
      go_wp2_with fail
      refine (add4096 _ _ (marksE (l.take k)) _ _ _ hrow.out hlen.out hi1 hi2).mono ?_
      rintro e w1 ⟨⟨v, rfl⟩, hrow1, hgw⟩
      clear g0 g1
      go_wp2
      go_roundw
      case rel =>
        refine ⟨k + 1, hlt, by go_num, hB.grown hgw hB.size (fun g hg => by injection hg with hg; omega), ?_⟩
        rw [hm.out]; exact hrow1
      case measure => simp [intOf]; omega
    · have hkk : k = l.length := by omega
      subst hkk
      have hr := hrow.out
      rw [List.take_length] at hr
      have HR := Lib.hid hr; clear hr
      go_wp2
      go_ret
      exact ⟨w.heap.size, 4096, rfl, Nat.le_refl _, HR.out, hB⟩
/-- the marks of one set turned by those of another, up to a place -/
def opTo (op : Bool → Bool → Bool) (m n : List Bool) (k : Nat) : List Bool := m.mapIdx fun i x => if i < k then op x (n.getD i false) else x
theorem opTo_len (op : Bool → Bool → Bool) (m n : List Bool) (k : Nat) : (opTo op m n k).length = m.length := by simp [opTo]
theorem opTo_zero (op : Bool → Bool → Bool) (m n : List Bool) : opTo op m n 0 = m := by
  refine List.ext_getElem (by simp [opTo]) fun i h1 h2 => ?_
  simp [opTo]
theorem opTo_at (op : Bool → Bool → Bool) (m n : List Bool) (k : Nat) (hk : k < m.length) : (opTo op m n k)[k]'(by rw [opTo_len]; exact hk) = m[k] := by simp [opTo]
theorem opTo_succ (op : Bool → Bool → Bool) (m n : List Bool) (k : Nat) (hk : k < m.length) : (opTo op m n k).set k (op m[k] (n.getD k false)) = opTo op m n (k + 1) := by
  refine List.ext_getElem (by simp [opTo]) fun i h1 h2 => ?_
  rw [List.getElem_set]
  by_cases e : k = i
  · subst e; simp [opTo]
  · rw [if_neg e]
    simp only [opTo, List.getElem_mapIdx]
    by_cases h : i < k
    · rw [if_pos h, if_pos (by omega)]
    · rw [if_neg h, if_neg (by omega)]
theorem idxs_opTo (op : Bool → Bool → Bool) (a b : List Ext) : idxs (opTo op (marksE a) (marksE b) 4096) = below (fun x => op (a.any (inExt x)) (b.any (inExt x))) 4096 := by
  have hl : (opTo op (marksE a) (marksE b) 4096).length = 4096 := by rw [opTo_len, marksE_len]
  unfold idxs below
  rw [hl]
  refine congrArg _ (List.filter_congr fun i hi => ?_)
  have hi' := List.mem_range.1 hi
  have hla := marksE_len a
  show _ = op (a.any (inExt i)) (b.any (inExt i))
  rw [← marksE_at a i hi', ← marksE_at b i hi']
  have e : (opTo op (marksE a) (marksE b) 4096).getD i false = op ((marksE a).getD i false) ((marksE b).getD i false) := by
    rw [List.getD_eq_getElem?_getD, List.getElem?_eq_getElem (by rw [hl]; exact hi')]
    rw [List.getD_eq_getElem?_getD (l := marksE a), List.getElem?_eq_getElem (by rw [hla]; exact hi')]
    simp only [Option.getD_some, opTo, List.getElem_mapIdx]
    rw [if_pos hi']
  exact e
end Go.Proofs.YtgmeghandjkkcaaGreat

namespace Go.Proofs.YtgmeghandjkkcaaGreat
open Go.RowKit

theorem keys_putE (M : Eff) (p : Pl) (s : Sec) : (putE M p s).map (·.1) = if p ∈ M.map (·.1) then M.map (·.1) else M.map (·.1) ++ [p] := by
  induction M with
  | nil => rfl
  | cons x M ih =>
    unfold putE
    by_cases hx : x.1 = p
    · rw [if_pos hx, if_pos (by simp [hx])]
      simp [hx]
    · rw [if_neg hx, List.map_cons, ih]
      have hx' : ¬ p = x.1 := fun e => hx e.symm
      by_cases h : p ∈ M.map (·.1)
      · rw [if_pos h, if_pos (by rw [List.map_cons]; exact List.mem_cons_of_mem _ h)]; rfl
      · rw [if_neg h, if_neg (by rw [List.map_cons, List.mem_cons]; exact fun hh => hh.elim hx' h)]; rfl
theorem nodup_putE {M : Eff} (h : (M.map (·.1)).Nodup) (p : Pl) (s : Sec) : ((putE M p s).map (·.1)).Nodup := by
  rw [keys_putE]
  split
  · exact h
  · rename_i hp
    rw [List.nodup_append]
    refine ⟨h, by simp, fun a ha b hb e => ?_⟩
    rw [List.mem_singleton] at hb
    subst hb e
    exact hp ha
theorem nodup_effW {M : Eff} (h : (M.map (·.1)).Nodup) (x : Wr) (j : Nat) : ((effW M x j).map (·.1)).Nodup := by
  induction j with
  | zero => exact h
  | succ j ih => rw [effW_succ]; exact nodup_putE ih _ _
theorem nodup_eff (l : List Wr) : ((effM l).map (·.1)).Nodup := by
  induction l using snocRec with
  | h0 => exact List.nodup_nil
  | h1 l x ih => rw [effM_snoc]; exact nodup_effW ih x _
end Go.Proofs.YtgmeghandjkkcaaGreat

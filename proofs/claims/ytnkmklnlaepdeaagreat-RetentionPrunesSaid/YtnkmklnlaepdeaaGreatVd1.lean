/-
  The plain law of Restrict: the canonical list of the selected effects is the reference's pick.
  Plain words: the extents of a list of writes. No program in sight.
  The walk of the reference's Same at extents.
  The walks of the reference's Marks and Intersect; what they give, in the sweep's words.
  The walk of the reference's Restrict.
  Plain words: a canonical list restricted to a set and to its complement. No program in sight.
  Plain words: a list of writes and its canonical list change every image in the same way. No program in sight.
-/
import Derived.Test.YtnkmklnlaepdeaaGreatSq
import Derived.Test.YtnkmklnlaepdeaaGreatUs
import Derived.Test.YtnkmklnlaepdeaaGreatMap
import Derived.Test.YtnkmklnlaepdeaaGreatPg
import Derived.Test.YtnkmklnlaepdeaaGreatTa
import Derived.Test.YtnkmklnlaepdeaaGreatPl
import Derived.Test.YtnkmklnlaepdeaaGreatPa
import Derived.Test.YtnkmklnlaepdeaaGreatIn1
import Derived.Test.YtnkmklnlaepdeaaGreatIa1
set_option linter.unusedVariables false
set_option linter.unusedSimpArgs false
set_option linter.unusedSectionVars false
set_option linter.unnecessarySimpa false
namespace Go.Proofs.YtnkmklnlaepdeaaGreat

theorem secsOf_below (l : List Wr) (v : Int) : secsOf l v = below (fun s => (look l v s).isSome) 4096 := rfl
/-- the sectors of a volume on which a list has an effect and that a set contains -/
def selS (l : List Wr) (v : Int) (keep : List Ext) : List Int := below (fun x => (look l v x).isSome && keep.any (inExt x)) 4096
theorem selS_ref (l : List Wr) (v : Int) (keep : List Ext) : below (fun x => (runsL (secsOf l v)).any (inExt x) && keep.any (inExt x)) 4096 = selS l v keep := by
  unfold selS
  have key : ∀ q, q ≤ 4096 → below (fun x => (runsL (secsOf l v)).any (inExt x) && keep.any (inExt x)) q = below (fun x => (look l v x).isSome && keep.any (inExt x)) q := by
    intro q hq
    unfold below
    refine congrArg _ (List.filter_congr fun x hx => ?_)
    have hx' := List.mem_range.1 hx
    have h := runs_any (fun s => (look l v s).isSome) 4096 (Nat.le_refl _) x
    rw [← secsOf_below] at h
    show ((runsL (secsOf l v)).any (inExt x) && keep.any (inExt x)) = ((look l v x).isSome && keep.any (inExt x))
    rw [h, decide_eq_true (by omega), Bool.true_and]
  exact key 4096 (Nat.le_refl _)
theorem selS_iff (l : List Wr) (v : Int) (keep : List Ext) (s : Int) : s ∈ selS l v keep ↔ 0 ≤ s ∧ s < 4096 ∧ (look l v s).isSome = true ∧ keep.any (inExt s) = true := by
  unfold selS below
  rw [List.mem_map]
  constructor
  · rintro ⟨i, hi, rfl⟩
    obtain ⟨h1, h2⟩ := List.mem_filter.1 hi
    have := List.mem_range.1 h1
    have h2' : ((look l v (i : Int)).isSome && keep.any (inExt (i : Int))) = true := h2
    rw [Bool.and_eq_true] at h2'
    exact ⟨Int.natCast_nonneg i, Int.ofNat_lt.2 this, h2'.1, h2'.2⟩
  · rintro ⟨h1, h2, h3, h4⟩
    have e : ((s.toNat : Nat) : Int) = s := by omega
    refine ⟨s.toNat, List.mem_filter.2 ⟨List.mem_range.2 (by omega), ?_⟩, by show ((s.toNat : Nat) : Int) = s; omega⟩
    show ((look l v ((s.toNat : Nat) : Int)).isSome && keep.any (inExt ((s.toNat : Nat) : Int))) = true
    rw [e, h3, h4]; rfl
theorem below_sorted (P : Int → Bool) (q : Nat) : (below P q).Pairwise (· < ·) := by
  unfold below
  rw [List.pairwise_map]
  exact (List.Pairwise.filter _ List.pairwise_lt_range).imp (fun h => by show (_ : Int) < _; exact Int.ofNat_lt.2 h)
/-- THE PLAIN LAW OF RESTRICT -/
theorem restrict_plain (l : List Wr) (v : Int) (keep : List Ext) (hn : ((effM l).map (·.1)).Nodup) (hl : ∀ x ∈ l, placedN x = 0) : canonL (sortedM (resM (effM l) v keep)) = pickS l v (runsL (selS l v keep)) := by
  have hopt : ∀ p, (optM (resM (effM l) v keep) p).isSome = true ↔ p ∈ (selS l v keep).map fun s => (v, s) := by
    intro p
    rw [optM_res hn, optM_eff, List.mem_map]
    constructor
    · intro h
      split at h
      · rename_i hs
        unfold selB at hs
        rw [Bool.and_eq_true] at hs
        have hv : p.1 = v := by simpa using hs.1
        have hr := look_range hl h
        exact ⟨p.2, (selS_iff l v keep p.2).2 ⟨hr.2.2.1, hr.2.2.2, by rw [← hv]; exact h, hs.2⟩, by rw [← hv]⟩
      · cases h
    · rintro ⟨s, hs, rfl⟩
      obtain ⟨_, _, h3, h4⟩ := (selS_iff l v keep s).1 hs
      have : selB v keep (v, s) = true := by unfold selB; simp [h4]
      rw [if_pos this]
      exact h3
  have ht : ∀ x y z : Pl, (!(Go.Proofs.ltOf befI) y x) = true → (!(Go.Proofs.ltOf befI) z y) = true → (!(Go.Proofs.ltOf befI) z x) = true := by
    intro x y z h1 h2
    rw [befI_lt] at *; simp at *; omega
  have hc : ∀ x y : Pl, ((!(Go.Proofs.ltOf befI) y x) || (!(Go.Proofs.ltOf befI) x y)) = true := by
    intro x y
    rw [befI_lt, befI_lt]; simp; omega
  have hsrt : ((selS l v keep).map fun s => ((v, s) : Pl)).Pairwise plLt := by
    rw [List.pairwise_map]
    exact (below_sorted _ 4096).imp (fun h => Or.inr ⟨rfl, h⟩)
  have hsort : sortP ((resM (effM l) v keep).map (·.1)) = (selS l v keep).map fun s => (v, s) := by
    refine List.Perm.eq_of_pairwise (le := fun x y => (!(Go.Proofs.ltOf befI) y x) = true) ?_ (List.pairwise_mergeSort ht hc _) ?_ ?_
    · intro x y _ _ h1 h2
      exact totPl x y (by simpa using h2) (by simpa using h1)
    · refine hsrt.imp (fun {x y} h => ?_)
      rw [befI_lt]
      unfold plLt at h
      simp; omega
    · refine (List.mergeSort_perm _ _).trans ((List.perm_ext_iff_of_nodup (resM_nodup hn v keep) ?_).2 (fun p => ?_))
      · rw [List.nodup_iff_pairwise_ne]
        refine hsrt.imp (fun {x y} h e => ?_)
        subst e
        unfold plLt at h
        omega
      · rw [← optM_mem, hopt]
  rw [sortedM, hsort, List.map_map]
  have h := (canon_pick v (fun s => (look l v s).getD zsec) (selS l v keep)).1
  unfold pickS
  rw [← h]
  refine congrArg _ (List.map_congr_left fun s hs => ?_)
  obtain ⟨_, _, _, h4⟩ := (selS_iff l v keep s).1 hs
  have hb : selB v keep (v, s) = true := by unfold selB; simp [h4]
  simp only [Function.comp]
  rw [getM_opt, optM_res hn, if_pos hb, optM_eff]
end Go.Proofs.YtnkmklnlaepdeaaGreat

namespace Go.Proofs.YtnkmklnlaepdeaaGreat

/-- the extents of the writes to a volume -/
def extL (l : List Wr) (v : Int) : List Ext := (l.filter fun x => x.1 == v).map fun x => (x.2.1, (x.2.2.length : Int))
theorem extL_snoc (l : List Wr) (x : Wr) (v : Int) : extL (l ++ [x]) v = extL l v ++ (if x.1 = v then [(x.2.1, (x.2.2.length : Int))] else []) := by
  unfold extL
  rw [List.filter_append, List.map_append]
  congr 1
  by_cases h : x.1 = v <;> simp [h]
theorem extL_len (l : List Wr) (v : Int) : (extL l v).length ≤ l.length := by
  unfold extL
  rw [List.length_map]
  exact List.length_filter_le _ _
theorem ext_any (l : List Wr) (v y : Int) (h0 : 0 ≤ y) (h1 : y < 4096) : (extL l v).any (inExt y) = (look l v y).isSome := by
  induction l using snocRec with
  | h0 => rfl
  | h1 l x ih =>
    rw [extL_snoc, List.any_append, ih, look_snoc]
    by_cases hh : hits x v y
    · rw [if_pos hh, if_pos hh.1]
      have : inExt y (x.2.1, (x.2.2.length : Int)) = true := by
        unfold inExt
        rw [decide_eq_true_eq]
        exact ⟨h0, h1, hh.2.1, hh.2.2⟩
      simp [this]
    · rw [if_neg hh]
      by_cases hv : x.1 = v
      · rw [if_pos hv]
        have : inExt y (x.2.1, (x.2.2.length : Int)) = false := by
          unfold inExt
          rw [decide_eq_false_iff_not]
          rintro ⟨_, _, a, b⟩
          exact hh ⟨hv, a, b⟩
        simp [this]
      · rw [if_neg hv]; simp
theorem extents_law (l : List Wr) (v : Int) : opL (· || ·) (extL l v) [] = runsL (secsOf l v) := by
  unfold opL
  rw [secsOf_below]
  refine congrArg _ (below_congr _ _ 4096 fun x hx => ?_)
  rw [ext_any l v x (by omega) (by omega)]
  simp
end Go.Proofs.YtnkmklnlaepdeaaGreat

namespace Go.Proofs.YtnkmklnlaepdeaaGreat
open Go.RowKit

theorem run_eq_ext (w : World) (a b c d : Int) : (Op.equalIn 10000 144 (.agg #[.int .i64 a, .int .i64 b]) (.agg #[.int .i64 c, .int .i64 d])).run Tryz.prog w = .ok ((a, b) == (c, d)) w := by
  have und : Tryz.prog.underlying 144 = some (.struct (Tryz.prog.fieldsOf 144)) := by kernel_rfl
  have fld : (Tryz.prog.fieldsOf 144).toList = [(Tryz.prog.fieldsOf 144)[0]!, (Tryz.prog.fieldsOf 144)[1]!] := by kernel_rfl
  have n0 : (Tryz.prog.fieldsOf 144)[0]!.name = "Start" := by kernel_rfl
  have n1 : (Tryz.prog.fieldsOf 144)[1]!.name = "Count" := by kernel_rfl
  have p0 : ∀ w, (part (Tryz.prog.fieldsOf 144)[0]!.type #[.int .i64 a, .int .i64 b] (Tryz.prog.fieldsOf 144)[0]!.offset).run Tryz.prog w = .ok (.int .i64 a) w := by intro w; kernel_rfl
  have p1 : ∀ w, (part (Tryz.prog.fieldsOf 144)[1]!.type #[.int .i64 a, .int .i64 b] (Tryz.prog.fieldsOf 144)[1]!.offset).run Tryz.prog w = .ok (.int .i64 b) w := by intro w; kernel_rfl
  have q0 : ∀ w, (part (Tryz.prog.fieldsOf 144)[0]!.type #[.int .i64 c, .int .i64 d] (Tryz.prog.fieldsOf 144)[0]!.offset).run Tryz.prog w = .ok (.int .i64 c) w := by intro w; kernel_rfl
  have q1 : ∀ w, (part (Tryz.prog.fieldsOf 144)[1]!.type #[.int .i64 c, .int .i64 d] (Tryz.prog.fieldsOf 144)[1]!.offset).run Tryz.prog w = .ok (.int .i64 d) w := by intro w; kernel_rfl
  have t0 : Tryz.prog.underlying (Tryz.prog.fieldsOf 144)[0]!.type = some (.int .i64) := by kernel_rfl
  have t1 : Tryz.prog.underlying (Tryz.prog.fieldsOf 144)[1]!.type = some (.int .i64) := by kernel_rfl
  have h := run_equalIn_agg w 9999 144 #[.int .i64 a, .int .i64 b] #[.int .i64 c, .int .i64 d] und (by kernel_rfl)
  rw [fld] at h
  simp only [Op.eqFields, n0, n1, if_pos (show "Start" ≠ "_" by decide), if_pos (show "Count" ≠ "_" by decide), Sem.run_bind, Sem.run_ite, Sem.run_pure, p0, p1, q0, q1, Result.andThen_ok, run_equalIn_int _ 9998 _ .i64 .i64 _ _ t0, run_equalIn_int _ 9998 _ .i64 .i64 _ _ t1] at h
  refine h.trans ?_
  by_cases h1 : a = c <;> by_cases h2 : b = d <;> simp [h1, h2]
end Go.Proofs.YtnkmklnlaepdeaaGreat

namespace Go.Proofs.YtnkmklnlaepdeaaGreat
open Go.RowKit

def marksE (l : List Ext) : List Bool := l.foldl addM noMarks
theorem marksE_snoc (l : List Ext) (e : Ext) : marksE (l ++ [e]) = addM (marksE l) e := by simp [marksE]
theorem marksE_len (l : List Ext) : (marksE l).length = 4096 := by
  induction l using snocRec with
  | h0 => exact noMarks_len
  | h1 l x ih => rw [marksE_snoc, addM_len, ih]
theorem marksE_at (l : List Ext) (i : Nat) (hi : i < 4096) : (marksE l).getD i false = l.any (inExt i) := by
  induction l using snocRec with
  | h0 =>
    have : (marksE []).getD i false = false := by
      exact rep_getD 4096 i
    rw [this]; rfl
  | h1 l e ih =>
    have hlen := marksE_len l
    have h1 : (addM (marksE l) e).getD i false = ((marksE l).getD i false || decide (e.1 ≤ i ∧ (i : Int) < e.1 + e.2)) := by
      simp [addM, hlen, hi]
    rw [marksE_snoc, h1, ih, List.any_append, List.any_cons, List.any_nil, Bool.or_false]
    refine congrArg (fun z => (l.any (inExt i) || z)) ?_
    unfold inExt
    rw [decide_eq_decide]
    omega
def RetRow (m : List Bool) (n : Nat) (w : World) (e : Ending) (w' : World) : Prop := ∃ b c, e = .returned (.slice (some ⟨b, 0, none⟩) n c) ∧ w.heap.size ≤ b ∧ BRow w' b m ∧ Below w.heap.size w w'
/-- the marks of one set turned by those of another, up to a place -/
def opTo (op : Bool → Bool → Bool) (m n : List Bool) (k : Nat) : List Bool := m.mapIdx fun i x => if i < k then op x (n.getD i false) else x
theorem opTo_len (op : Bool → Bool → Bool) (m n : List Bool) (k : Nat) : (opTo op m n k).length = m.length := by simp [opTo]
theorem opTo_zero (op : Bool → Bool → Bool) (m n : List Bool) : opTo op m n 0 = m := by
  refine List.ext_getElem (by simp [opTo]) fun i h1 h2 => ?_
  simp [opTo]
theorem opTo_at (op : Bool → Bool → Bool) (m n : List Bool) (k : Nat) (hk : k < m.length) : (opTo op m n k)[k]'(by rw [opTo_len]; exact hk) = m[k] := by simp [opTo]
theorem opTo_succ (op : Bool → Bool → Bool) (m n : List Bool) (k : Nat) (hk : k < m.length) : (opTo op m n k).set k (op m[k] (n.getD k false)) = opTo op m n (k + 1) := by
  refine List.ext_getElem (by simp [opTo]) fun i h1 h2 => ?_
  rw [List.getElem_set]
  by_cases e : k = i
  · subst e; simp [opTo]
  · rw [if_neg e]
    simp only [opTo, List.getElem_mapIdx]
    by_cases h : i < k
    · rw [if_pos h, if_pos (by omega)]
    · rw [if_neg h, if_neg (by omega)]
theorem idxs_opTo (op : Bool → Bool → Bool) (a b : List Ext) : idxs (opTo op (marksE a) (marksE b) 4096) = below (fun x => op (a.any (inExt x)) (b.any (inExt x))) 4096 := by
  have hl : (opTo op (marksE a) (marksE b) 4096).length = 4096 := by rw [opTo_len, marksE_len]
  unfold idxs below
  rw [hl]
  refine congrArg _ (List.filter_congr fun i hi => ?_)
  have hi' := List.mem_range.1 hi
  have hla := marksE_len a
  show _ = op (a.any (inExt i)) (b.any (inExt i))
  rw [← marksE_at a i hi', ← marksE_at b i hi']
  have e : (opTo op (marksE a) (marksE b) 4096).getD i false = op ((marksE a).getD i false) ((marksE b).getD i false) := by
    rw [List.getD_eq_getElem?_getD, List.getElem?_eq_getElem (by rw [hl]; exact hi')]
    rw [List.getD_eq_getElem?_getD (l := marksE a), List.getElem?_eq_getElem (by rw [hla]; exact hi')]
    simp only [Option.getD_some, opTo, List.getElem_mapIdx]
    rw [if_pos hi']
  exact e
end Go.Proofs.YtnkmklnlaepdeaaGreat

namespace Go.Proofs.YtnkmklnlaepdeaaGreat
open Go.RowKit

theorem keys_putE (M : Eff) (p : Pl) (s : Sec) : (putE M p s).map (·.1) = if p ∈ M.map (·.1) then M.map (·.1) else M.map (·.1) ++ [p] := by
  induction M with
  | nil => rfl
  | cons x M ih =>
    unfold putE
    by_cases hx : x.1 = p
    · rw [if_pos hx, if_pos (by simp [hx])]
      simp [hx]
    · rw [if_neg hx, List.map_cons, ih]
      have hx' : ¬ p = x.1 := fun e => hx e.symm
      by_cases h : p ∈ M.map (·.1)
      · rw [if_pos h, if_pos (by rw [List.map_cons]; exact List.mem_cons_of_mem _ h)]; rfl
      · rw [if_neg h, if_neg (by rw [List.map_cons, List.mem_cons]; exact fun hh => hh.elim hx' h)]; rfl
theorem nodup_putE {M : Eff} (h : (M.map (·.1)).Nodup) (p : Pl) (s : Sec) : ((putE M p s).map (·.1)).Nodup := by
  rw [keys_putE]
  split
  · exact h
  · rename_i hp
    rw [List.nodup_append]
    refine ⟨h, by simp, fun a ha b hb e => ?_⟩
    rw [List.mem_singleton] at hb
    subst hb e
    exact hp ha
theorem nodup_effW {M : Eff} (h : (M.map (·.1)).Nodup) (x : Wr) (j : Nat) : ((effW M x j).map (·.1)).Nodup := by
  induction j with
  | zero => exact h
  | succ j ih => rw [effW_succ]; exact nodup_putE ih _ _
theorem nodup_eff (l : List Wr) : ((effM l).map (·.1)).Nodup := by
  induction l using snocRec with
  | h0 => exact List.nodup_nil
  | h1 l x ih => rw [effM_snoc]; exact nodup_effW ih x _
end Go.Proofs.YtnkmklnlaepdeaaGreat

namespace Go.Proofs.YtnkmklnlaepdeaaGreat

/-- the effects of a list on a volume within a set -/
def assocK (f : List Wr) (keep : List Ext) (v : Int) : Eff := (selS f v keep).map fun s => ((v, s), (look f v s).getD zsec)
def insideE (f : List Wr) (keep : List Ext) (n : Nat) : Eff := (List.range n).flatMap fun (v : Nat) => assocK f keep v
theorem insideE_succ (f : List Wr) (keep : List Ext) (n : Nat) : insideE f keep (n + 1) = insideE f keep n ++ assocK f keep n := by simp [insideE, List.range_succ]
def resS (f : List Wr) (keep : List Ext) (v : Int) : List Wr := canonL (assocK f keep v)
theorem resS_pick (f : List Wr) (keep : List Ext) (v : Int) : resS f keep v = pickS f v (runsL (selS f v keep)) :=
  (canon_pick v (fun s => (look f v s).getD zsec) (selS f v keep)).1
theorem restrictL_res {f : List Wr} (hf : chkN placedN f = 0) (v : Int) (keep : List Ext) : restrictL f v keep = resS f keep v := by
  rw [resS_pick, restrictL, if_pos hf, restrict_plain f v keep (nodup_eff f) (chk_all hf)]
theorem insideE_mem {f : List Wr} {keep : List Ext} {n : Nat} {x : Pl × Sec} : x ∈ insideE f keep n ↔ 0 ≤ x.1.1 ∧ x.1.1 < n ∧ x.1.2 ∈ selS f x.1.1 keep ∧ x.2 = (look f x.1.1 x.1.2).getD zsec := by
  unfold insideE
  rw [List.mem_flatMap]
  constructor
  · rintro ⟨v, hv, hx⟩
    obtain ⟨s, hs, rfl⟩ := List.mem_map.1 hx
    exact ⟨Int.natCast_nonneg v, Int.ofNat_lt.2 (List.mem_range.1 hv), hs, rfl⟩
  · rintro ⟨h1, h2, h3, h4⟩
    have e : ((x.1.1.toNat : Nat) : Int) = x.1.1 := by omega
    refine ⟨x.1.1.toNat, List.mem_range.2 (by omega), ?_⟩
    rw [e]
    exact List.mem_map.2 ⟨x.1.2, h3, by rw [← h4]⟩
/-- the canonical list of all volumes' restrictions is their concatenation -/
theorem inside_snoc (f : List Wr) (keep : List Ext) (n : Nat) : canonL (insideE f keep (n + 1)) = canonL (insideE f keep n) ++ resS f keep n := by
  rw [insideE_succ, canonL_append]
  · rfl
  · intro x hx y hy
    obtain ⟨_, h2, _⟩ := insideE_mem.1 hx
    obtain ⟨s, _, rfl⟩ := List.mem_map.1 hy
    show x.1.1 ≠ (n : Int)
    omega
theorem selS_sorted (f : List Wr) (v : Int) (keep : List Ext) : (selS f v keep).Pairwise (· < ·) := below_sorted _ _
theorem insideE_sorted (f : List Wr) (keep : List Ext) (n : Nat) : ((insideE f keep n).map (·.1)).Pairwise plLt := by
  induction n with
  | zero => simp [insideE]
  | succ n ih =>
    rw [insideE_succ, List.map_append, List.pairwise_append]
    refine ⟨ih, ?_, ?_⟩
    · unfold assocK
      rw [List.map_map, List.pairwise_map]
      exact (selS_sorted f n keep).imp (fun h => Or.inr ⟨rfl, h⟩)
    · intro p hp q hq
      obtain ⟨x, hx, rfl⟩ := List.mem_map.1 hp
      obtain ⟨y, hy, rfl⟩ := List.mem_map.1 hq
      obtain ⟨s, _, rfl⟩ := List.mem_map.1 hy
      obtain ⟨_, h2, _⟩ := insideE_mem.1 hx
      exact Or.inl h2
theorem insideE_range (f : List Wr) (keep : List Ext) (n : Nat) (hn : n ≤ 8) : ∀ x ∈ insideE f keep n, 0 ≤ x.1.1 ∧ x.1.1 < 8 ∧ 0 ≤ x.1.2 ∧ x.1.2 < 4096 := by
  intro x hx
  obtain ⟨h1, h2, h3, _⟩ := insideE_mem.1 hx
  have := (selS_iff _ _ _ _).1 h3
  exact ⟨h1, by omega, this.1, this.2.1⟩
theorem chk_inside (f : List Wr) (keep : List Ext) (n : Nat) (hn : n ≤ 8) : chkN placedN (canonL (insideE f keep n)) = 0 := by
  rw [chkN_zero_iff]
  exact (canon_ok _ (insideE_sorted f keep n) (insideE_range f keep n hn)).1
theorem assocK_one (f : List Wr) (keep : List Ext) (v : Int) : (((assocK f keep v).map (·.1))).Pairwise plLt := by
  unfold assocK
  rw [List.map_map, List.pairwise_map]
  exact (selS_sorted f v keep).imp (fun h => Or.inr ⟨rfl, h⟩)
theorem chk_res (f : List Wr) (keep : List Ext) (v : Int) (h0 : 0 ≤ v) (h8 : v < 8) : chkN placedN (resS f keep v) = 0 := by
  rw [chkN_zero_iff]
  refine (canon_ok _ (assocK_one f keep v) ?_).1
  intro x hx
  obtain ⟨s, hs, rfl⟩ := List.mem_map.1 hx
  have := (selS_iff _ _ _ _).1 hs
  exact ⟨h0, h8, this.1, this.2.1⟩
theorem lastE_mem (m : Eff) (p : Pl) (g : Pl → Sec) (h : ∀ x ∈ m, x.2 = g x.1) : lastE m p = if p ∈ m.map (·.1) then some (g p) else none := by
  induction m using snocRec with
  | h0 => rfl
  | h1 m x ih =>
    rw [lastE_snoc, ih (fun y hy => h y (by simp [hy])), List.map_append]
    by_cases e : p = x.1
    · rw [if_pos e, if_pos (by rw [e]; simp), h x (by simp), e]
    · rw [if_neg e]
      have : (p ∈ m.map (·.1) ++ [x].map (·.1)) ↔ p ∈ m.map (·.1) := by simp [e]
      by_cases hp : p ∈ m.map (·.1)
      · rw [if_pos hp, if_pos (this.2 hp)]
      · rw [if_neg hp, if_neg (fun h' => hp (this.1 h'))]
theorem look_inside (f : List Wr) (keep : List Ext) (n : Nat) (V S : Int) : look (canonL (insideE f keep n)) V S = if 0 ≤ V ∧ V < n ∧ S ∈ selS f V keep then some ((look f V S).getD zsec) else none := by
  rw [look_canon, lastE_mem _ _ (fun p => (look f p.1 p.2).getD zsec) (fun x hx => (insideE_mem.1 hx).2.2.2)]
  have hiff : ((V, S) ∈ (insideE f keep n).map (·.1)) ↔ (0 ≤ V ∧ V < n ∧ S ∈ selS f V keep) := by
    rw [List.mem_map]
    constructor
    · rintro ⟨x, hx, e⟩
      have e1 : x.1.1 = V := congrArg Prod.fst e
      have e2 : x.1.2 = S := congrArg Prod.snd e
      subst e1 e2
      obtain ⟨h1, h2, h3, _⟩ := insideE_mem.1 hx
      exact ⟨h1, h2, h3⟩
    · rintro ⟨h1, h2, h3⟩
      exact ⟨((V, S), (look f V S).getD zsec), insideE_mem.2 ⟨h1, h2, h3, rfl⟩, rfl⟩
  by_cases h : 0 ≤ V ∧ V < n ∧ S ∈ selS f V keep
  · rw [if_pos h, if_pos (hiff.2 h)]
  · rw [if_neg h, if_neg (fun h' => h (hiff.1 h'))]
theorem look_res (f : List Wr) (keep : List Ext) (v V S : Int) : look (resS f keep v) V S = if V = v ∧ S ∈ selS f v keep then some ((look f v S).getD zsec) else none := by
  unfold resS
  rw [look_canon, lastE_mem _ _ (fun p => (look f v p.2).getD zsec) (fun x hx => by obtain ⟨s, _, rfl⟩ := List.mem_map.1 hx; rfl)]
  have hiff : ((V, S) ∈ (assocK f keep v).map (·.1)) ↔ (V = v ∧ S ∈ selS f v keep) := by
    unfold assocK
    rw [List.map_map, List.mem_map]
    constructor
    · rintro ⟨s, hs, e⟩
      have e1 : v = V := congrArg Prod.fst e
      have e2 : s = S := congrArg Prod.snd e
      subst e1 e2
      exact ⟨rfl, hs⟩
    · rintro ⟨rfl, h3⟩
      exact ⟨S, h3, rfl⟩
  by_cases h : V = v ∧ S ∈ selS f v keep
  · rw [if_pos h, if_pos (hiff.2 h)]
  · rw [if_neg h, if_neg (fun h' => h (hiff.1 h'))]
theorem canonL_sects (m : Eff) : sectsL (canonL m) = m.length := by
  induction m using snocRec with
  | h0 => rfl
  | h1 m x ih =>
    rw [canonL_snoc, canonStep, List.length_append, List.length_singleton, ← ih]
    split
    · rename_i v s d hg
      obtain ⟨init, hi⟩ := List.getLast?_eq_some_iff.1 hg
      split
      · rw [hi, List.dropLast_concat, sectsL_snoc, sectsL_snoc]
        simp; omega
      · rw [sectsL_snoc]; simp
    · rename_i hg
      rw [List.getLast?_eq_none_iff.1 hg]
      rfl
/-- the complement of a set below 4096 -/
def othersL (keep : List Ext) : List Ext := opL (fun p q => p && !q) [(0, 4096)] keep
theorem others_any (keep : List Ext) (y : Int) : (othersL keep).any (inExt y) = (decide (0 ≤ y ∧ y < 4096) && !(keep.any (inExt y))) := by
  unfold othersL
  rw [opL_mem]
  by_cases h : 0 ≤ y ∧ y < 4096
  · have : inExt y (0, 4096) = true := by unfold inExt; rw [decide_eq_true_eq]; simp only; omega
    rw [decide_eq_true h]
    simp [this]
  · rw [decide_eq_false h]; rfl
theorem sel_split (f : List Wr) (v : Int) (keep : List Ext) (s : Int) : s ∈ selS f v (othersL keep) ↔ 0 ≤ s ∧ s < 4096 ∧ (look f v s).isSome = true ∧ keep.any (inExt s) = false := by
  rw [selS_iff, others_any]
  constructor
  · rintro ⟨h1, h2, h3, h4⟩
    rw [decide_eq_true ⟨h1, h2⟩] at h4
    exact ⟨h1, h2, h3, by simpa using h4⟩
  · rintro ⟨h1, h2, h3, h4⟩
    refine ⟨h1, h2, h3, ?_⟩
    rw [decide_eq_true ⟨h1, h2⟩, h4]; rfl
theorem below_two (P Q : Int → Bool) (q : Nat) : (below (fun x => P x && Q x) q).length + (below (fun x => P x && !(Q x)) q).length = (below P q).length := by
  induction q with
  | zero => rfl
  | succ q ih =>
    rw [below_succ, below_succ, below_succ]
    simp only [List.length_append]
    cases hP : P q <;> cases hQ : Q q <;> simp <;> omega
theorem sel_len (f : List Wr) (v : Int) (keep : List Ext) : (selS f v keep).length + (selS f v (othersL keep)).length = (secsOf f v).length := by
  have h : selS f v (othersL keep) = below (fun x => (look f v x).isSome && !(keep.any (inExt x))) 4096 := by
    unfold selS
    exact below_congr _ _ 4096 (fun x hx => by rw [others_any, decide_eq_true (by omega)]; simp)
  rw [h, secsOf_below]
  exact below_two _ _ 4096
theorem insideE_len (f : List Wr) (keep : List Ext) (n : Nat) : (insideE f keep n).length + (insideE f (othersL keep) n).length = ((List.range n).flatMap fun (v : Nat) => assocV f v).length := by
  induction n with
  | zero => rfl
  | succ n ih =>
    rw [insideE_succ, insideE_succ, List.range_succ, List.flatMap_append]
    simp only [List.length_append, List.flatMap_cons, List.flatMap_nil, List.append_nil]
    have h1 : (assocK f keep n).length = (selS f n keep).length := List.length_map ..
    have h2 : (assocK f (othersL keep) n).length = (selS f n (othersL keep)).length := List.length_map ..
    have h3 : (assocV f n).length = (secsOf f n).length := List.length_map ..
    have := sel_len f n keep
    omega
theorem divides_sects {l f : List Wr} (keep : List Ext) (hf : f = foldS l) (hp : ∀ x ∈ l, placedN x = 0) : sectsL (canonL (insideE f keep 8)) + sectsL (canonL (insideE f (othersL keep) 8)) = sectsL f := by
  rw [canonL_sects, canonL_sects, insideE_len]
  have : foldS f = f := by rw [hf]; exact fold_fold hp
  have h2 : sectsL (foldS f) = (assoc f).length := canonL_sects _
  rw [this] at h2
  rw [h2]; rfl
theorem divides_fold {l f : List Wr} (keep : List Ext) (hf : f = foldS l) (hp : ∀ x ∈ l, placedN x = 0) : foldS (canonL (insideE f keep 8) ++ canonL (insideE f (othersL keep) 8)) = f := by
  have h0 : foldS f = f := by rw [hf]; exact fold_fold hp
  rw [← h0]
  conv => lhs; rw [h0]
  refine foldS_congr fun V S => ?_
  rw [look_append, look_inside, look_inside]
  have hpf : ∀ x ∈ f, placedN x = 0 := by rw [hf]; exact placed_fold l
  cases hl : look f V S with
  | none =>
    rw [if_neg (fun h => by have := ((selS_iff _ _ _ _).1 h.2.2).2.2.1; rw [hl] at this; cases this), if_neg (fun h => by have := ((selS_iff _ _ _ _).1 h.2.2).2.2.1; rw [hl] at this; cases this)]
    rfl
  | some d =>
    have hr := look_range hpf (by rw [hl]; rfl : (look f V S).isSome = true)
    by_cases hk : keep.any (inExt S) = true
    · rw [if_neg (fun h => by have := ((sel_split _ _ _ _).1 h.2.2).2.2.2; rw [hk] at this; cases this), if_pos ⟨hr.1, hr.2.1, (selS_iff _ _ _ _).2 ⟨hr.2.2.1, hr.2.2.2, by rw [hl]; rfl, hk⟩⟩]
      rfl
    · have hk' : keep.any (inExt S) = false := by simpa using hk
      rw [if_pos ⟨hr.1, hr.2.1, (sel_split _ _ _ _).2 ⟨hr.2.2.1, hr.2.2.2, by rw [hl]; rfl, hk'⟩⟩]
      rfl
theorem divides_merge {l f : List Wr} (keep : List Ext) (hf : f = foldS l) (hp : ∀ x ∈ l, placedN x = 0) : mergeErr (canonL (insideE f keep 8)) (canonL (insideE f (othersL keep) 8)) = 0 ∧ mergeL (canonL (insideE f keep 8)) (canonL (insideE f (othersL keep) 8)) = f := by
  have h1 : mergeErr (canonL (insideE f keep 8)) (canonL (insideE f (othersL keep) 8)) = 0 := by
    rw [mergeErr, chk_inside f keep 8 (by omega), if_neg (by simp), chk_inside f _ 8 (by omega)]
  exact ⟨h1, by rw [mergeL, h1, if_pos rfl, divides_fold keep hf hp]⟩
theorem runs_none (P : Int → Bool) (q : Nat) (h : ∀ x : Nat, x < q → P x = false) : runsL (below P q) = [] := by
  rw [below_congr P (fun _ => false) q h]
  have h0 : below (fun _ => false) q = [] := by unfold below; simp
  rw [h0]; rfl
/-- the extents of both parts have nothing in common -/
theorem divides_apart (f : List Wr) (keep : List Ext) (v : Int) : opL (· && ·) (runsL (secsOf (resS f keep v) v)) (runsL (secsOf (resS f (othersL keep) v) v)) = [] := by
  unfold opL
  have h : ∀ x : Nat, x < 4096 → ((runsL (secsOf (resS f keep v) v)).any (inExt x) && (runsL (secsOf (resS f (othersL keep) v) v)).any (inExt x)) = false := by
    intro x hx
    rw [secsOf_below, secsOf_below, runs_any _ _ (Nat.le_refl _), runs_any _ _ (Nat.le_refl _), look_res, look_res]
    by_cases hk : keep.any (inExt x) = true
    · rw [if_neg (c := v = v ∧ (x : Int) ∈ selS f v (othersL keep)) (fun h => by have := ((sel_split _ _ _ _).1 h.2).2.2.2; rw [hk] at this; cases this)]
      simp
    · rw [if_neg (c := v = v ∧ (x : Int) ∈ selS f v keep) (fun h => hk ((selS_iff _ _ _ _).1 h.2).2.2.2)]
      simp
  exact runs_none _ 4096 h
theorem resS_len (f : List Wr) (keep : List Ext) (v : Int) : (resS f keep v).length ≤ 4096 := by
  unfold resS
  refine Nat.le_trans (canonL_len _).1 ?_
  unfold assocK selS below
  rw [List.length_map, List.length_map]
  exact Nat.le_trans (List.length_filter_le _ _) (by rw [List.length_range]; exact Nat.le_refl _)
theorem inside_len (f : List Wr) (keep : List Ext) (n : Nat) : (canonL (insideE f keep n)).length ≤ n * 4096 := by
  induction n with
  | zero => simp [insideE, canonL]
  | succ n ih =>
    rw [inside_snoc, List.length_append]
    have := resS_len f keep n
    omega
end Go.Proofs.YtnkmklnlaepdeaaGreat

namespace Go.Proofs.YtnkmklnlaepdeaaGreat

theorem over_at (row : List Sec) (s : Nat) (d : List Sec) (i : Nat) (h : s + d.length ≤ row.length) : (over row s d).getD i zsec = if s ≤ i ∧ i < s + d.length then d.getD (i - s) zsec else row.getD i zsec := by
  have hls : (row.take s).length = s := by rw [List.length_take]; omega
  unfold over
  simp only [List.getD_eq_getElem?_getD]
  rw [show (if s ≤ i ∧ i < s + d.length then (d[i - s]?).getD zsec else (row[i]?).getD zsec) = (if s ≤ i ∧ i < s + d.length then d[i - s]? else row[i]?).getD zsec from by split <;> rfl]
  refine congrArg (fun o => Option.getD o zsec) ?_
  by_cases h1 : i < s
  · rw [List.append_assoc, List.getElem?_append_left (by simp; omega), List.getElem?_take, if_pos h1]
    rw [if_neg (by omega)]
  · by_cases h2 : i < s + d.length
    · rw [List.getElem?_append_left (by simp; omega), List.getElem?_append_right (by simp; omega), if_pos ⟨by omega, h2⟩, hls]
    · rw [List.getElem?_append_right (by simp; omega), if_neg (by omega), List.getElem?_drop, List.length_append, hls]
      rw [show s + d.length + (i - (s + d.length)) = i from by omega]
theorem putW_at {im : List (List Sec)} {x : Wr} (h : fitsN (lens im) x = 0) (v i : Nat) : ((putW im x).getD v []).getD i zsec = if hits x v i then datum x i else (im.getD v []).getD i zsec := by
  obtain ⟨k, s, e1, e2, hk, _, hs⟩ := fits_img h
  have hiff : hits x v i ↔ v = k ∧ s ≤ i ∧ i < s + x.2.2.length := by
    unfold hits
    rw [e1, e2]
    omega
  unfold putW
  rw [e1, e2, Int.toNat_natCast, Int.toNat_natCast]
  by_cases hv : v = k
  · subst hv
    have e3 : (im.set v (over (im.getD v []) s x.2.2)).getD v [] = over (im.getD v []) s x.2.2 := by
      rw [List.getD_eq_getElem?_getD, List.getElem?_set_self hk]; rfl
    rw [e3, over_at _ _ _ _ hs]
    by_cases hi : s ≤ i ∧ i < s + x.2.2.length
    · rw [if_pos hi, if_pos (hiff.2 ⟨rfl, hi⟩)]
      unfold datum
      rw [e2]
      congr 1
      omega
    · rw [if_neg hi, if_neg (fun hh => hi (hiff.1 hh).2)]
  · have e3 : (im.set k (over (im.getD k []) s x.2.2)).getD v [] = im.getD v [] := by
      simp only [List.getD_eq_getElem?_getD]
      rw [List.getElem?_set_ne (fun e => hv e.symm)]
    rw [e3, if_neg (fun hh => hv (hiff.1 hh).1)]
theorem putAll_at {im : List (List Sec)} {l : List Wr} (h : ∀ x ∈ l, fitsN (lens im) x = 0) (v i : Nat) : ((putAll im l).getD v []).getD i zsec = (look l v i).getD ((im.getD v []).getD i zsec) := by
  induction l using snocRec with
  | h0 => rfl
  | h1 l x ih =>
    have ih := ih (fun y hy => h y (by simp [hy]))
    have hx : fitsN (lens (putAll im l)) x = 0 := by rw [putAll_lens (fun y hy => h y (by simp [hy]))]; exact h x (by simp)
    rw [putAll_snoc, putW_at hx, look_snoc, ih]
    split <;> rfl
theorem img_ext {a b : List (List Sec)} (hl : lens a = lens b) (h : ∀ v i : Nat, (a.getD v []).getD i zsec = (b.getD v []).getD i zsec) : a = b := by
  have h1 : a.length = b.length := by have := congrArg List.length hl; rwa [lens_len, lens_len] at this
  refine List.ext_getElem h1 fun v h2 h3 => ?_
  have h4 : a[v].length = b[v].length := by
    have e1 := lens_at (im := a) h2
    have e2 := lens_at (im := b) h3
    have : (lens a)[v]'(by rw [lens_len]; exact h2) = (lens b)[v]'(by rw [lens_len]; exact h3) := by simp only [hl]
    omega
  refine List.ext_getElem h4 fun i h5 h6 => ?_
  have := h v i
  simpa [List.getD_eq_getElem?_getD, h2, h3, h5, h6] using this
theorem fits_placed1 {im : List (List Sec)} (hz : sizesN (lens im) = 0) {x : Wr} (h : fitsN (lens im) x = 0) : placedN x = 0 := by
  obtain ⟨a, b, c, d, e⟩ := fits_ok hz h
  obtain ⟨v, s, data⟩ := x
  exact placed_mk a b c d e
theorem fitsN_mk {sz : List Int} {v s : Int} {d : List Sec} (h1 : 0 ≤ v) (h2 : v < sz.length) (h3 : 0 < d.length) (h4 : 0 ≤ s) (h5 : s + d.length ≤ sz.getD v.toNat 0) : fitsN sz (v, s, d) = 0 := by
  unfold fitsN
  simp only
  rw [if_neg (by omega), if_neg (by omega), if_neg (by omega)]
/-- the canonical list fits wherever the list fits -/
theorem fits_fold {im : List (List Sec)} {l : List Wr} (hz : sizesN (lens im) = 0) (h : ∀ x ∈ l, fitsN (lens im) x = 0) : ∀ y ∈ foldS l, fitsN (lens im) y = 0 := by
  have hpl : ∀ x ∈ l, placedN x = 0 := fun x hx => fits_placed1 hz (h x hx)
  intro y hy
  obtain ⟨v, s, d⟩ := y
  obtain ⟨p1, p2, p3, p4, p5⟩ := placed_ok (placed_fold l _ hy)
  simp only at p1 p2 p3 p4 p5
  -- the last sector of y is one of l's
  have hl : (look (foldS l) v (s + d.length - 1)).isSome = true := by
    have hall : ∀ (m : List Wr), (v, s, d) ∈ m → (look m v (s + d.length - 1)).isSome = true := by
      intro m
      induction m using snocRec with
      | h0 => simp
      | h1 m x ih =>
        intro hm
        rw [look_snoc]
        split
        · rfl
        · rename_i hh
          rcases List.mem_append.1 hm with hm | hm
          · exact ih hm
          · rw [← List.mem_singleton.1 hm] at hh
            exact absurd ⟨rfl, by simp only; omega, by simp only; omega⟩ hh
    exact hall _ hy
  rw [look_fold hpl] at hl
  have hex : ∃ x ∈ l, hits x v (s + d.length - 1) := by
    apply Decidable.byContradiction
    intro hno
    rw [look_none l v (s + d.length - 1) (fun x hx hh => hno ⟨x, hx, hh⟩)] at hl
    cases hl
  obtain ⟨x, hx, hh1, hh2, hh3⟩ := hex
  obtain ⟨k, s2, e1, e2, hk, _, hs⟩ := fits_img (h x hx)
  have e3 : (lens im).getD v.toNat 0 = ((im.getD k []).length : Int) := by
    have : v.toNat = k := by omega
    rw [this, List.getD_eq_getElem?_getD, List.getD_eq_getElem?_getD, List.getElem?_eq_getElem (by rw [lens_len]; exact hk), List.getElem?_eq_getElem hk]
    exact lens_at hk
  exact fitsN_mk p1 (by rw [lens_len]; omega) p3 p4 (by rw [e3]; omega)
/-- THE SAME CHANGE -/
theorem changes_same {im : List (List Sec)} {l : List Wr} (hz : sizesN (lens im) = 0) (h : ∀ x ∈ l, fitsN (lens im) x = 0) : putAll im (foldS l) = putAll im l := by
  have hf := fits_fold hz h
  refine img_ext (by rw [putAll_lens hf, putAll_lens h]) fun v i => ?_
  rw [putAll_at hf, putAll_at h, look_fold (fun x hx => fits_placed1 hz (h x hx))]
theorem changes_check {im : List (List Sec)} {l : List Wr} (hz : sizesN (lens im) = 0) (h : ∀ x ∈ l, fitsN (lens im) x = 0) : chkS (foldS l) (lens im) = 0 := by
  have hf := fits_fold hz h
  unfold chkS
  rw [if_neg (by rw [hz]; simp), chkN_zero_iff]
  intro p hp
  have h0 := (chkN_zero_iff placedN (foldS l)).1 (chk_fold l) p hp
  have hm : p.2 ∈ foldS l := by
    obtain ⟨i, hi, rfl⟩ := List.mem_iff_getElem.1 hp
    have hi' : i < (foldS l).length := by rw [withPrev_len] at hi; exact hi
    cases i with
    | zero => rw [withPrev_zero hi']; exact List.getElem_mem _
    | succ i => rw [withPrev_succ hi']; exact List.getElem_mem _
  have h1 := hf p.2 hm
  have h2 := placed_fold l p.2 hm
  unfold stepErr at h0 ⊢
  rw [if_neg (by rw [h2]; simp)] at h0
  rw [if_neg (by rw [h1]; simp)]
  exact h0
theorem below_or (P Q : Int → Bool) (q : Nat) : (below (fun x => P x || Q x) q).length ≤ (below P q).length + (below Q q).length := by
  induction q with
  | zero => simp [below]
  | succ q ih =>
    rw [below_succ, below_succ, below_succ]
    simp only [List.length_append]
    cases hP : P q <;> cases hQ : Q q <;> simp <;> omega
theorem below_range (a n : Int) (q : Nat) : ((below (fun x => decide (a ≤ x ∧ x < a + n)) q).length : Int) ≤ (if (q : Int) - a < 0 then 0 else if n < 0 then 0 else if (q : Int) - a < n then (q : Int) - a else n) := by
  induction q with
  | zero => simp [below]; split <;> (try split) <;> (try split) <;> omega
  | succ q ih =>
    rw [below_succ]
    by_cases h : a ≤ (q : Int) ∧ (q : Int) < a + n
    · rw [if_pos (by rw [decide_eq_true_eq]; exact h), List.length_append, List.length_singleton]
      split at ih <;> (try split at ih) <;> (try split at ih) <;> split <;> (try split) <;> (try split) <;> omega
    · rw [if_neg (by rw [decide_eq_true_eq]; exact h), List.append_nil]
      split at ih <;> (try split at ih) <;> (try split at ih) <;> split <;> (try split) <;> (try split) <;> omega
theorem secs_snoc (l : List Wr) (x : Wr) (v : Int) : (secsOf (l ++ [x]) v).length ≤ (secsOf l v).length + (if x.1 = v then x.2.2.length else 0) := by
  by_cases hv : x.1 = v
  · rw [if_pos hv]
    have e : secsOf (l ++ [x]) v = below (fun s => (look l v s).isSome || decide (x.2.1 ≤ s ∧ s < x.2.1 + (x.2.2.length : Int))) 4096 := by
      rw [secsOf_below]
      refine below_congr _ _ 4096 fun s _ => ?_
      rw [look_snoc]
      by_cases hh : hits x v s
      · rw [if_pos hh, decide_eq_true hh.2]; simp
      · rw [if_neg hh, decide_eq_false (fun h => hh ⟨hv, h⟩)]; simp
    have h1 := below_or (fun s => (look l v s).isSome) (fun s => decide (x.2.1 ≤ s ∧ s < x.2.1 + (x.2.2.length : Int))) 4096
    have h2 := below_range x.2.1 x.2.2.length 4096
    rw [e, secsOf_below]
    have h3 : ((below (fun s => decide (x.2.1 ≤ s ∧ s < x.2.1 + (x.2.2.length : Int))) 4096).length : Int) ≤ x.2.2.length := by
      refine Int.le_trans h2 ?_
      split <;> (try split) <;> (try split) <;> omega
    omega
  · rw [if_neg hv]
    have e : secsOf (l ++ [x]) v = secsOf l v := by
      rw [secsOf_below, secsOf_below]
      refine below_congr _ _ 4096 fun s _ => ?_
      rw [look_snoc, if_neg (fun h => hv h.1)]
    rw [e]; omega
theorem vols_snoc (l : List Wr) (x : Wr) (n : Nat) : (((List.range n).map fun (v : Nat) => (secsOf (l ++ [x]) v).length).sum : Nat) ≤ ((List.range n).map fun (v : Nat) => (secsOf l v).length).sum + (if 0 ≤ x.1 ∧ x.1 < n then x.2.2.length else 0) := by
  induction n with
  | zero => simp
  | succ n ih =>
    have h := secs_snoc l x n
    simp only [List.range_succ, List.map_append, List.map_cons, List.map_nil, List.sum_append, List.sum_cons, List.sum_nil, Nat.add_zero]
    by_cases hv : x.1 = (n : Int)
    · rw [if_pos hv] at h
      rw [if_neg (by omega)] at ih
      rw [if_pos (by omega)]
      omega
    · rw [if_neg hv] at h
      by_cases hx : 0 ≤ x.1 ∧ x.1 < n
      · rw [if_pos hx] at ih
        rw [if_pos (by omega)]
        omega
      · rw [if_neg hx] at ih
        rw [if_neg (by omega)]
        omega
theorem assocV_len (l : List Wr) (v : Int) : (assocV l v).length = (secsOf l v).length := List.length_map ..
theorem assoc_len (l : List Wr) : (assoc l).length = ((List.range 8).map fun (v : Nat) => (secsOf l v).length).sum := by
  unfold assoc
  simp only [List.length_flatMap, assocV_len]
theorem secsOf_nil (v : Int) : secsOf [] v = [] := by
  unfold secsOf
  rw [List.filter_eq_nil_iff.2 (fun a _ => by rw [look_nil]; simp), List.map_nil]
theorem assoc_le (l : List Wr) : (assoc l).length ≤ sectsL l := by
  rw [assoc_len]
  induction l using snocRec with
  | h0 => simp only [secsOf_nil]; decide
  | h1 l x ih =>
    rw [sectsL_snoc]
    have := vols_snoc l x 8
    split at this <;> omega
theorem sects_le (l : List Wr) : sectsL (foldS l) ≤ sectsL l := by
  have h2 : sectsL (foldS l) = (assoc l).length := canonL_sects _
  rw [h2]
  exact assoc_le l
end Go.Proofs.YtnkmklnlaepdeaaGreat

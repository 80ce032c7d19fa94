/-
  Readings: which plain data the cells of a value hold in a world, whatever the type; what keeps a reading; slices that a call owns. No program in sight.; What all chapters share: sectors held against each other, blocks of few cells, cmp.Compare.; The walks of the small functions of coalesce: placed, behind, before, and of cmp.Compare, cmp.Or.; Rows of marks.; The walks of holds, Lookup (the reference).; The walks of Extents and pick (the reference).; The law's write: a list of one write.
-/
import Derived.WalkKit
import Derived.WalkSpells
import Derived.WalkLawsBesides
import Derived.Lib.Hide
import Derived.Deep.QuietTactic
import Derived.BigQuiet
import Derived.StillTailTactics
import Derived.Deep.RegionHeld3
import Derived.Maps.AppendAt
import Derived.Deep.AppendLies
import Derived.Test.YtgndgkjefgjamaaGreatProg
import Derived.ChangeKeysEq
import Derived.Deep.OwnRows
import Derived.Test.YtgndgkjefgjamaaGreatZ01
import Derived.Test.YtgndgkjefgjamaaGreatZ02
import Derived.Test.YtgndgkjefgjamaaGreatZ03
import Derived.Test.YtgndgkjefgjamaaGreatZ04
import Derived.Test.YtgndgkjefgjamaaGreatZ05
import Derived.Test.YtgndgkjefgjamaaGreatZ06
import Derived.Test.YtgndgkjefgjamaaGreatZ07
import Derived.Test.YtgndgkjefgjamaaGreatZ08
import Derived.Test.YtgndgkjefgjamaaGreatZ09
import Derived.Test.YtgndgkjefgjamaaGreatZ10
set_option linter.unusedVariables false
set_option linter.unusedSimpArgs false
set_option linter.unusedSectionVars false
set_option linter.unnecessarySimpa false
namespace Go.Proofs.YtgndgkjefgjamaaGreat
open Go.RowKit

section
variable {α β : Type} {R R' : α → β → Prop}
end

section
variable {α : Type} {E : Enc α} {w w' : World} {S S' : Nat → Prop} {cs : List Value} {x : α}
end

section
variable {α : Type} {E : Enc α} {w w' : World} {S S' : Nat → Prop} {A : Option Addr} {l : List α}
end

section
variable {α : Type} {E : Enc α} {w w' : World} {base : Nat} {e : TypeId} {S S' : Nat → Prop} {v v' : Value} {l : List α}
end

end Go.Proofs.YtgndgkjefgjamaaGreat

namespace Go.Proofs.YtgndgkjefgjamaaGreat
open Go.RowKit

section
variable {w w' : World} {S : Nat → Prop} {A : Option Addr} {cs : List Value}
end
end Go.Proofs.YtgndgkjefgjamaaGreat

namespace Go.Proofs.YtgndgkjefgjamaaGreat

theorem look_take (l : List Wr) (k : Nat) (hk : k < l.length) (V S : Int) (h : ∀ j (hj : j < l.length), k < j → ¬ hits l[j] V S) : look l V S = look (l.take (k + 1)) V S := by
  have e : l = l.take (k + 1) ++ l.drop (k + 1) := (List.take_append_drop _ _).symm
  have key : ∀ m : List Wr, (∀ x ∈ m, ¬ hits x V S) → ∀ a, look (a ++ m) V S = look a V S := by
    intro m
    induction m using snocRec with
    | h0 => simp
    | h1 m x ih =>
      intro hm a
      rw [← List.append_assoc, look_snoc, if_neg (hm x (by simp))]
      exact ih (fun y hy => hm y (by simp [hy])) a
  conv => lhs; rw [e]
  refine key _ ?_ _
  intro x hx
  obtain ⟨i, hi, rfl⟩ := List.mem_iff_getElem.1 hx
  rw [List.getElem_drop]
  exact h _ _ (by omega)
theorem look_none (l : List Wr) (V S : Int) (h : ∀ x ∈ l, ¬ hits x V S) : look l V S = none := by
  induction l using snocRec with
  | h0 => rfl
  | h1 l x ih => rw [look_snoc, if_neg (h x (by simp))]; exact ih (fun y hy => h y (by simp [hy]))

/-- the places at which a list of marks says yes -/
def idxs (m : List Bool) : List Int := ((List.range m.length).filter fun i => m.getD i false).map Int.ofNat
theorem idxs_snoc (m : List Bool) (q : Bool) : idxs (m ++ [q]) = idxs m ++ (if q then [(m.length : Int)] else []) := by
  unfold idxs
  rw [List.length_append, List.length_singleton, List.range_succ, List.filter_append, List.map_append]
  congr 1
  · congr 1
    refine List.filter_congr fun i hi => ?_
    have := List.mem_range.1 hi
    simp [List.getElem?_append_left this]
  · cases q <;> simp
theorem run_end (m : List Bool) : (∃ s c, (runsL (idxs m)).getLast? = some (s, c) ∧ s + c = m.length) ↔ m.getLast? = some true := by
  induction m using snocRec with
  | h0 => simp [runsL, idxs]
  | h1 m q ih =>
    rw [idxs_snoc]
    cases q with
    | false =>
      have hle : ∀ (xs : List Int) (B : Int), (∀ x ∈ xs, x < B) → ∀ s c, (runsL xs).getLast? = some (s, c) → s + c ≤ B := by
        intro xs
        induction xs using snocRec with
        | h0 => intro B _ s c h; simp [runsL] at h
        | h1 xs x ihx =>
          intro B hB s c h
          have hx := hB x (by simp)
          rw [runsL_snoc, runStep] at h
          split at h
          · split at h
            · rename_i s' c' hg he
              simp at h
              obtain ⟨rfl, rfl⟩ := h
              omega
            · simp at h
              obtain ⟨rfl, rfl⟩ := h
              omega
          · simp at h
            obtain ⟨rfl, rfl⟩ := h
            omega
      constructor
      · rintro ⟨s, c, h1, h2⟩
        simp at h1 h2
        have := hle (idxs m) m.length (by
          intro x hx
          simp [idxs] at hx
          obtain ⟨i, ⟨hi, _⟩, rfl⟩ := hx
          omega) s c h1
        omega
      · intro h
        simp at h
    | true =>
      simp only [if_true, runsL_snoc, List.getLast?_concat, List.length_append, List.length_singleton, iff_true]
      unfold runStep
      split
      · split
        · rename_i s c hg he
          exact ⟨s, c + 1, by simp, by omega⟩
        · exact ⟨m.length, 1, by simp, by omega⟩
      · exact ⟨m.length, 1, by simp, by omega⟩

theorem idxs_mem (m : List Bool) : ∀ x ∈ idxs m, 0 ≤ x ∧ x < m.length := by
  intro x hx
  simp [idxs] at hx
  obtain ⟨i, ⟨hi, _⟩, rfl⟩ := hx
  omega
theorem idxs_len (m : List Bool) : (idxs m).length ≤ m.length := by
  unfold idxs
  rw [List.length_map]
  exact Nat.le_trans (List.length_filter_le _ _) (by simp)
theorem runStep_more {out : List Ext} {s c x : Int} (h : out.getLast? = some (s, c)) (he : s + c = x) : runStep out x = out.set (out.length - 1) (s, c + 1) := by
  unfold runStep
  rw [h]
  simp only [he, if_true]
  obtain ⟨l, rfl⟩ := List.getLast?_eq_some_iff.1 h
  simp
theorem secsOf_mem (l : List Wr) (v : Int) : ∀ x ∈ secsOf l v, 0 ≤ x ∧ x < 4096 := by
  intro x hx
  obtain ⟨i, hi, rfl⟩ := List.mem_map.1 hx
  have := List.mem_range.1 (List.mem_filter.1 hi).1
  exact ⟨Int.natCast_nonneg i, by show (i : Int) < 4096; omega⟩
theorem secsOf_len (l : List Wr) (v : Int) : (secsOf l v).length ≤ 4096 := by
  unfold secsOf
  rw [List.length_map]
  refine Nat.le_trans (List.length_filter_le _ _) (Nat.le_of_eq (List.length_range ..))
/-- the writes on some extents of a volume -/
def pickS (l : List Wr) (v : Int) (es : List Ext) : List Wr := es.map fun e => (v, e.1, (List.range e.2.toNat).map fun (k : Nat) => (look l v (e.1 + k)).getD zsec)

theorem canon_pick (v : Int) (f : Int → Sec) (xs : List Int) : canonL (xs.map fun s => ((v, s), f s)) = (runsL xs).map (fun e => (v, e.1, (List.range e.2.toNat).map fun (k : Nat) => f (e.1 + k))) ∧ ∀ e ∈ runsL xs, 0 < e.2 := by
  induction xs using snocRec with
  | h0 => simp [canonL, runsL]
  | h1 xs x ih =>
    obtain ⟨ih1, ih2⟩ := ih
    rw [List.map_append, List.map_singleton, canonL_snoc, runsL_snoc, ih1]
    unfold canonStep runStep
    rw [List.getLast?_map]
    rcases hg : (runsL xs).getLast? with _ | ⟨s, c⟩
    · simp [List.range_succ]
    · have hc : 0 < c := ih2 (s, c) (List.mem_of_getLast? hg)
      simp only [Option.map_some, List.length_map, List.length_range]
      have hcc : ((c.toNat : Nat) : Int) = c := by omega
      by_cases he : s + c = x
      · rw [if_pos (by rw [hcc, he]), if_pos he]
        refine ⟨?_, ?_⟩
        · rw [List.map_append, List.map_dropLast, List.map_singleton]
          congr 1
          have hs : (c + 1).toNat = c.toNat + 1 := by omega
          simp only [hs, List.range_succ, List.map_append, List.map_singleton, hcc, he]
        · intro e he'
          rcases List.mem_append.1 he' with h | h
          · exact ih2 e ((List.dropLast_sublist _).subset h)
          · rw [List.mem_singleton.1 h]; show 0 < c + 1; omega
      · rw [if_neg (by rw [hcc]; intro h; exact he (by injection h)), if_neg he]
        refine ⟨?_, ?_⟩
        · rw [List.map_append, List.map_singleton]
          simp [List.range_succ]
        · intro e he'
          rcases List.mem_append.1 he' with h | h
          · exact ih2 e h
          · rw [List.mem_singleton.1 h]; show (0 : Int) < 1; omega
theorem canonL_vols (m : Eff) : ∀ x ∈ canonL m, ∃ y ∈ m, y.1.1 = x.1 := by
  induction m using snocRec with
  | h0 => simp [canonL]
  | h1 m z ih =>
    intro x hx
    rw [canonL_snoc, canonStep] at hx
    split at hx
    · split at hx
      · rename_i v s d hg he
        rcases List.mem_append.1 hx with h | h
        · obtain ⟨y, hy, e⟩ := ih x ((List.dropLast_sublist _).subset h)
          exact ⟨y, by simp [hy], e⟩
        · rw [List.mem_singleton.1 h]
          exact ⟨z, by simp, by rw [← he]⟩
      · rcases List.mem_append.1 hx with h | h
        · obtain ⟨y, hy, e⟩ := ih x h
          exact ⟨y, by simp [hy], e⟩
        · rw [List.mem_singleton.1 h]
          exact ⟨z, by simp, rfl⟩
    · rw [List.mem_singleton.1 hx]
      exact ⟨z, by simp, rfl⟩
/-- lists of places of different volumes -/
theorem canonL_append (a b : Eff) (h : ∀ x ∈ a, ∀ y ∈ b, x.1.1 ≠ y.1.1) : canonL (a ++ b) = canonL a ++ canonL b := by
  induction b using snocRec with
  | h0 => simp [canonL]
  | h1 b z ih =>
    have ih := ih (fun x hx y hy => h x hx y (by simp [hy]))
    rw [← List.append_assoc, canonL_snoc, canonL_snoc, ih]
    unfold canonStep
    rw [List.getLast?_append]
    rcases hb : (canonL b).getLast? with _ | ⟨v, s, d⟩
    · have hb0 : canonL b = [] := List.getLast?_eq_none_iff.1 hb
      rw [hb0]
      simp only [Option.none_or, List.append_nil]
      rcases ha : (canonL a).getLast? with _ | ⟨v, s, d⟩
      · have ha0 : canonL a = [] := List.getLast?_eq_none_iff.1 ha
        simp [ha0]
      · obtain ⟨y, hy, e⟩ := canonL_vols a _ (List.mem_of_getLast? ha)
        have hne := h y hy z (by simp)
        simp only
        rw [if_neg]
        intro e2
        exact hne (e.trans (congrArg Prod.fst e2))
    · simp only [Option.some_or]
      split
      · rw [List.dropLast_append_of_ne_nil (by intro e; rw [e] at hb; simp at hb), List.append_assoc]
      · rw [List.append_assoc]
theorem foldS_eq (l : List Wr) : foldS l = (List.range 8).flatMap fun (v : Nat) => pickS l v (runsL (secsOf l v)) := by
  have key : ∀ n, canonL ((List.range n).flatMap fun (v : Nat) => assocV l v) = (List.range n).flatMap fun (v : Nat) => pickS l v (runsL (secsOf l v)) := by
    intro n
    induction n with
    | zero => simp [canonL]
    | succ n ih =>
      rw [List.range_succ, List.flatMap_append, List.flatMap_append, canonL_append, ih]
      · refine congrArg _ ?_
        simp only [List.flatMap_cons, List.flatMap_nil, List.append_nil]
        have h := (canon_pick n (fun s => (look l n s).getD zsec) (secsOf l n)).1
        unfold assocV pickS
        exact h
      · intro x hx y hy
        simp only [List.flatMap_cons, List.flatMap_nil, List.append_nil, List.mem_flatMap, List.mem_range, assocV, List.mem_map] at hx hy
        obtain ⟨v, hv, s, _, rfl⟩ := hx
        obtain ⟨s', _, rfl⟩ := hy
        show (v : Int) ≠ (n : Int)
        omega
  unfold foldS assoc
  exact key 8
end Go.Proofs.YtgndgkjefgjamaaGreat
namespace Go.Proofs.YtgndgkjefgjamaaGreat
open Go.RowKit

theorem blk8 {w : World} {b : Nat} {T : TypeId} {c0 c1 c2 c3 c4 c5 c6 c7 : Value} (h : w.heap[b]? = some (.cells #[c0, c1, c2, c3, c4, c5, c6, c7] T (0, 0))) :
    w.cell? ⟨b, 0, none⟩ = some c0 ∧ w.cell? ⟨b, 1, none⟩ = some c1 ∧ w.cell? ⟨b, 2, none⟩ = some c2 ∧ w.cell? ⟨b, 3, none⟩ = some c3 ∧ w.cell? ⟨b, 4, none⟩ = some c4 ∧ w.cell? ⟨b, 5, none⟩ = some c5 ∧ w.cell? ⟨b, 6, none⟩ = some c6 ∧ w.cell? ⟨b, 7, none⟩ = some c7 ∧ ∀ j, w.frozen? ⟨b, j, none⟩ = false :=
  ⟨cell_of_row w b 0 _ T _ h, cell_of_row w b 1 _ T _ h, cell_of_row w b 2 _ T _ h, cell_of_row w b 3 _ T _ h, cell_of_row w b 4 _ T _ h, cell_of_row w b 5 _ T _ h, cell_of_row w b 6 _ T _ h, cell_of_row w b 7 _ T _ h, fun j => by simp [World.frozen?, h]⟩
end Go.Proofs.YtgndgkjefgjamaaGreat
namespace Go.Proofs.YtgndgkjefgjamaaGreat
open Go.RowKit

end Go.Proofs.YtgndgkjefgjamaaGreat

namespace Go.Proofs.YtgndgkjefgjamaaGreat
open Go.RowKit

end Go.Proofs.YtgndgkjefgjamaaGreat

namespace Go.Proofs.YtgndgkjefgjamaaGreat
open Go.RowKit

section
variable {sz : List Int} {k : Nat} {s : Int} {data : List Sec}
end
end Go.Proofs.YtgndgkjefgjamaaGreat

namespace Go.Proofs.YtgndgkjefgjamaaGreat
open Go.RowKit

theorem most_any (w : World) :
    Calls Tryz.prog 121 #[] w (Ret (encSl encInt) (List.replicate 8 4096) w) := by
  go_enter Tryz.func121, Tryz.ntmps121
  go_wp2
  go_loopw [1, 2] (fun v i wr => ∃ k : Nat, k ≤ 8 ∧ i = .int .i64 k ∧ Below w.heap.size w wr ∧ Own encInt wr w.heap.size 3 (fun _ => False) v (List.replicate k 4096)) (fun _ i _ => 8 - (intOf i).toNat)
  case atStart => exact ⟨0, by omega, rfl, Below.refl _ _, Own.nil_⟩
  case round =>
    obtain ⟨k, hk, rfl, hb, hown⟩ := hrel
    by_cases hlt : k < 8
    · have hki : (k : Int) < 8 := by omega
      have hown1 := hown.alloc (fun _ h => h.elim) (.cells #[.int .i64 4096] 3)
      have HO := Lib.hid hown1; clear hown1
      have hsz := hb.size
      go_wp2_with (at_builtin; refine wpList_app1 (E := encInt) tyInts rfl _ _ rfl rfl HO.out 4096 [.int .i64 4096] rfl ⟨rfl, by unfold I64; omega⟩ (heap_alloc_new _ _) (fun _ h => h.elim) (by simp; omega) (by simp [maxLen]; omega) (by simp; omega) ?_; intro A c' w1 hown2 hg hat)
      go_roundw
      case rel =>
        refine ⟨k + 1, hlt, by go_num, ?_, ?_⟩
        · exact (hb.alloc hb.size _).grown hg (by have := hb.size; simp; omega) (fun g h => (hown.lt g h).1)
        · rw [List.replicate_succ']
          simpa using hown2
      case measure => simp [intOf]; omega
    · have hkk : k = 8 := by omega
      subst hkk
      go_wp2
      go_ret
      exact ⟨_, rfl, hown.rd (fun _ h => h.elim), hb⟩
end Go.Proofs.YtgndgkjefgjamaaGreat
namespace Go.Proofs.YtgndgkjefgjamaaGreat
open Go.RowKit

section
variable {w w' : World} {b k : Nat} {m : List Bool}
end
def addTo (m : List Bool) (lo k : Nat) : List Bool := m.mapIdx fun i x => x || decide (lo ≤ i ∧ i < k)
def addM (m : List Bool) (e : Ext) : List Bool := m.mapIdx fun i x => x || decide (e.1 ≤ i ∧ (i : Int) < e.1 + e.2)
theorem addTo_len (m : List Bool) (lo k : Nat) : (addTo m lo k).length = m.length := by simp [addTo]
theorem addM_len (m : List Bool) (e : Ext) : (addM m e).length = m.length := by simp [addM]
theorem addTo_lo (m : List Bool) (lo : Nat) : addTo m lo lo = m := by
  refine List.ext_getElem (by simp [addTo]) fun i h1 h2 => ?_
  have : ¬ (lo ≤ i ∧ i < lo) := by omega
  simp [addTo]; omega
theorem addTo_succ (m : List Bool) (lo k : Nat) (h : lo ≤ k) : (addTo m lo k).set k true = addTo m lo (k + 1) := by
  refine List.ext_getElem (by simp [addTo]) fun i h1 h2 => ?_
  rw [List.getElem_set]
  split
  · subst_vars; simp [addTo]; omega
  · simp only [addTo, List.getElem_mapIdx]
    congr 1
    rw [decide_eq_decide]; omega
theorem addTo_hi (m : List Bool) (e : Ext) (lo k : Nat) (h : ∀ i : Nat, i < m.length → ((lo ≤ i ∧ i < k) ↔ (e.1 ≤ i ∧ (i : Int) < e.1 + e.2))) : addTo m lo k = addM m e := by
  refine List.ext_getElem (by simp [addTo, addM]) fun i h1 h2 => ?_
  simp only [addTo, addM, List.getElem_mapIdx]
  congr 1
  rw [decide_eq_decide]
  exact h i (by simpa [addTo] using h1)
theorem addM_none (m : List Bool) (e : Ext) (h : ∀ i : Nat, i < m.length → ¬ (e.1 ≤ i ∧ (i : Int) < e.1 + e.2)) : addM m e = m := by
  refine List.ext_getElem (by simp [addM]) fun i h1 h2 => ?_
  have := h i h2
  simp [addM]; omega
end Go.Proofs.YtgndgkjefgjamaaGreat
namespace Go.Proofs.YtgndgkjefgjamaaGreat
open Go.RowKit

theorem HoldRet.yes {x : Wr} {V S k : Int} {w w' : World} (h : hits x V S) (hk : k = S - x.2.1) (hb : Below w.heap.size w w') : HoldRet x V S w (.returned (.tuple #[.int .i64 k, .bool true])) w' :=
  ⟨_, _, rfl, Or.inl ⟨rfl, h, hk⟩, hb⟩
theorem holds_any (v s : Int) (D : Option Addr) (c : Nat) (data : List Sec) (w : World) (V S : Int) (hn : data.length ≤ 9223372036854775807) (h1 : I64 v) (h2 : I64 s) (h3 : I64 V) (h4 : I64 S) :
    Calls Tryz.prog 172 #[.agg #[.int .i64 v, .int .i64 s, .slice D data.length c], .int .i64 V, .int .i64 S] w (HoldRet (v, s, data) V S w) := by
  obtain ⟨h2a, h2b⟩ := h2
  obtain ⟨h4a, h4b⟩ := h4
  clear h1 h3
  have hb1 : Hid (∀ o, Below w.heap.size w (w.alloc o)) := fun o => (Below.refl _ _).alloc (Nat.le_refl _) o
  by_cases c1 : v = V
  · have c1' : (v != V) = false := by simp [c1]
    have C1 := Lib.hid c1; clear c1
    by_cases c2 : data.length = 0
    · have c2' : ((data.length : Int) == 0) = true := by simp [c2]
      have C2 := Lib.hid c2; clear c2
      go_enter Tryz.func172, Tryz.ntmps172
      go_wp2
      go_ret2
      exact HoldRet.no (fun h => by have := C2.out; have := h.2; simp only at this; omega) (hb1.out _)
    · have c2' : ((data.length : Int) == 0) = false := by rw [beq_eq_false_iff_ne]; omega
      by_cases c3 : S < s
      · go_enter Tryz.func172, Tryz.ntmps172
        go_wp2
        go_ret2
        exact HoldRet.no (fun h => by have := h.2; simp only at this; omega) (hb1.out _)
      · by_cases c4 : s < 0 ∧ 0 ≤ S
        · obtain ⟨c4, c5⟩ := c4
          by_cases c6 : s + data.length ≤ S
          · go_enter Tryz.func172, Tryz.ntmps172
            go_wp2
            go_ret2
            exact HoldRet.no (fun h => by have := h.2; simp only at this; omega) (hb1.out _)
          · go_enter Tryz.func172, Tryz.ntmps172
            go_wp2
            go_ret2
            exact HoldRet.yes ⟨C1.out, by simp only; omega⟩ rfl (hb1.out _)
        · by_cases c7 : S - s < data.length
          · have c7' : decide (S - s < (data.length : Int)) = true := by simpa using c7
            by_cases c8 : s < 0
            · have c9 : S < 0 := by omega
              clear c4
              go_enter Tryz.func172, Tryz.ntmps172
              go_wp2
              go_quiet (fail)
              go_wp2
              go_ret2
              exact HoldRet.yes ⟨C1.out, by simp only; omega⟩ rfl (bDrew (hb1.out _) _)
            · clear c4
              go_enter Tryz.func172, Tryz.ntmps172
              go_wp2
              go_quiet (fail)
              go_wp2
              go_ret2
              exact HoldRet.yes ⟨C1.out, by simp only; omega⟩ rfl (bDrew (hb1.out _) _)
          · have c7' : decide (S - s < (data.length : Int)) = false := by simpa using c7
            by_cases c8 : s < 0
            · have c9 : S < 0 := by omega
              clear c4
              go_enter Tryz.func172, Tryz.ntmps172
              go_wp2
              go_quiet (fail)
              go_wp2
              go_ret2
              exact HoldRet.no (fun h => by have := h.2; simp only at this; omega) (bDrew (hb1.out _) _)
            · clear c4
              go_enter Tryz.func172, Tryz.ntmps172
              go_wp2
              go_quiet (fail)
              go_wp2
              go_ret2
              exact HoldRet.no (fun h => by have := h.2; simp only at this; omega) (bDrew (hb1.out _) _)
  · have c1' : (v != V) = true := by simp [c1]
    have C1 := Lib.hid c1; clear c1
    go_enter Tryz.func172, Tryz.ntmps172
    go_wp2
    go_ret2
    exact HoldRet.no (fun h => C1.out h.1) (hb1.out _)

def LookRet (l : List Wr) (V S : Int) (w : World) (e : Ending) (w' : World) : Prop :=
  ∃ x0 x1 x2 x3 x4 x5 x6 x7 q, e = .returned (.tuple #[.agg #[.int .u8 x0, .int .u8 x1, .int .u8 x2, .int .u8 x3, .int .u8 x4, .int .u8 x5, .int .u8 x6, .int .u8 x7], .bool q]) ∧
    OkSec [x0, x1, x2, x3, x4, x5, x6, x7] ∧ q = (look l V S).isSome ∧ (look l V S).getD zsec = [x0, x1, x2, x3, x4, x5, x6, x7] ∧ Below w.heap.size w w'

/-- a whole sector stored -/
def set8 (w : World) (b : Nat) (x0 x1 x2 x3 x4 x5 x6 x7 : Value) : World :=
  ((((((((w.setCell ⟨b, 0, none⟩ x0).setCell ⟨b, 1, none⟩ x1).setCell ⟨b, 2, none⟩ x2).setCell ⟨b, 3, none⟩ x3).setCell ⟨b, 4, none⟩ x4).setCell ⟨b, 5, none⟩ x5).setCell ⟨b, 6, none⟩ x6).setCell ⟨b, 7, none⟩ x7)
theorem set8_row {w : World} {b : Nat} {T : TypeId} {c0 c1 c2 c3 c4 c5 c6 c7 : Value} (h : w.heap[b]? = some (.cells #[c0, c1, c2, c3, c4, c5, c6, c7] T (0, 0))) (x0 x1 x2 x3 x4 x5 x6 x7 : Value) :
    (set8 w b x0 x1 x2 x3 x4 x5 x6 x7).heap[b]? = some (.cells #[x0, x1, x2, x3, x4, x5, x6, x7] T (0, 0)) := by
  simp [set8, World.setCell, Array.getElem?_modify, h]
theorem set8_below {B b : Nat} {a w : World} (h : Below B a w) (hB : B ≤ b) (x0 x1 x2 x3 x4 x5 x6 x7 : Value) : Below B a (set8 w b x0 x1 x2 x3 x4 x5 x6 x7) :=
  (((((((h.setCell (p := ⟨b, 0, none⟩) hB _).setCell (p := ⟨b, 1, none⟩) hB _).setCell (p := ⟨b, 2, none⟩) hB _).setCell (p := ⟨b, 3, none⟩) hB _).setCell (p := ⟨b, 4, none⟩) hB _).setCell (p := ⟨b, 5, none⟩) hB _).setCell (p := ⟨b, 6, none⟩) hB _).setCell (p := ⟨b, 7, none⟩) hB _
set_option maxHeartbeats 1000000 in
theorem refLookup_any (A : Option Addr) (c : Nat) (l : List Wr) (V S : Int) (w : World) (h1 : SlAt encWr w (Bl w.heap.size) A l) (hs : l.length ≤ 9223372036854775807) (h3 : I64 V) (h4 : I64 S) :
    Calls Tryz.prog 151 #[.slice A l.length c, .int .i64 V, .int .i64 S] w (LookRet l V S w) := by
  have h1 : Hid (∀ w', Below w.heap.size w w' → SlAt encWr w' (Bl w.heap.size) A l) := fun w' hb => h1.below hb
  have H3 := Lib.hid h3; clear h3
  have H4 := Lib.hid h4; clear h4
  go_enter Tryz.func151, Tryz.ntmps151
  go_wp2
  go_loopw [8, 9, 10] (fun i _ _ wr => ∃ k : Nat, k ≤ l.length ∧ i = .int .i64 ((k : Int) - 1) ∧ Below w.heap.size w wr ∧ Hid (wr.heap[w.heap.size]? = some (.cells zrow 95 (0, 0))) ∧ Hid (∀ j (hj : j < l.length), k ≤ j → ¬ hits l[j] V S)) (fun i _ _ _ => (intOf i + 1).toNat)
  case atStart => exact ⟨l.length, by omega, by simp, (Below.refl _ _).alloc (Nat.le_refl _) _, heap_alloc_new _ _, fun j hj h => by omega⟩
  case round =>
    obtain ⟨k, hk, rfl, hB, hrow, hno⟩ := hrel
    have hblt : w.heap.size < wr.heap.size := (Array.getElem?_eq_some_iff.1 hrow.out).1
    obtain ⟨r0, r1, r2, r3, r4, r5, r6, r7, rf⟩ := blk8 hrow.out
    cases k with
    | zero =>
      go_wp2
      have hrow2 := set8_row hrow.out (.int .u8 0) (.int .u8 0) (.int .u8 0) (.int .u8 0) (.int .u8 0) (.int .u8 0) (.int .u8 0) (.int .u8 0)
      obtain ⟨s0, s1, s2, s3, s4, s5, s6, s7, _⟩ := blk8 hrow2
      have hno' : look l V S = none := look_none l V S (fun x hx => by
        obtain ⟨j, hj, rfl⟩ := List.mem_iff_getElem.1 hx
        exact hno.out j hj (Nat.zero_le _))
      refine bodyPost_ret (v := .tuple #[.agg #[.int .u8 0, .int .u8 0, .int .u8 0, .int .u8 0, .int .u8 0, .int .u8 0, .int .u8 0, .int .u8 0], .bool false]) ?_ rfl ?_
      · simp only [set8] at s0 s1 s2 s3 s4 s5 s6 s7
        simp [results, Tryz.results151, go_sem, s0, s1, s2, s3, s4, s5, s6, s7]
      · exact ⟨0, 0, 0, 0, 0, 0, 0, 0, false, rfl, zsec_ok, by rw [hno']; rfl, by rw [hno']; rfl, set8_below hB (Nat.le_refl _) _ _ _ _ _ _ _ _⟩
    | succ k =>
      have hlt : k < l.length := by omega
      have ek : ((k + 1 : Nat) : Int) - 1 = (k : Int) := by omega
      rw [ek]
      have H1 := Lib.hid (h1.out wr hB)
      obtain ⟨b, off, D, dc, rfl, hb, g0, g1, g2, hD, hn1, hn2, hi1, hi2⟩ := H1.out.wr hlt
      have hnn : (0 : Int) ≤ k := by omega
      have hki : (k : Int) < l.length := by omega
      unfold maxLen at hn2
      have HN := Lib.hid hno.out; clear hno
      go_wp2_with fail
      refine (holds_any _ _ _ _ _ _ _ _ (by omega) hi1 hi2 H3.out H4.out).mono ?_
      rintro e w1 ⟨kk, q, rfl, hq | hq, hb1⟩
      · obtain ⟨rfl, hh, hkk⟩ := hq
        simp only at hkk
        have hh' := hh
        obtain ⟨_, hh2, hh3⟩ := hh
        simp only at hh2 hh3
        have hkk0 : 0 ≤ kk := by omega
        obtain ⟨kn, rfl⟩ := Int.eq_ofNat_of_zero_le hkk0
        have hkn : kn < l[k].2.2.length := by omega
        have hB1 : Below w.heap.size w w1 := hB.trans (hb1.mono hB.size)
        have hD1 := hD.below (hb1.mono hB.size)
        have hrow1 : w1.heap[w.heap.size]? = some (.cells zrow 95 (0, 0)) := (hb1.block _ hblt).trans hrow.out
        obtain ⟨b2, off2, x0, x1, x2, x3, x4, x5, x6, x7, rfl, hb2, hx, hok, d0, d1, d2, d3, d4, d5, d6, d7⟩ := hD1.sec hkn
        have hbl2 : b2 < w.heap.size := hb2
        have hbl : b < w.heap.size := hb
        have k2 := (hb1.cell (p := ⟨b, off + k * 3 + 2, none⟩) (by simp; omega)).trans g2
        obtain ⟨t0, t1, t2, t3, t4, t5, t6, t7, tf⟩ := blk8 hrow1
        have hknl : (kn : Int) < l[k].2.2.length := by omega
        have hkn0 : (0 : Int) ≤ kn := by omega
        have HX := Lib.hid hx; clear hx
        have HK := Lib.hid hkk; clear hkk
        have hrow2 := Lib.hid (set8_row hrow1 (.int .u8 x0) (.int .u8 x1) (.int .u8 x2) (.int .u8 x3) (.int .u8 x4) (.int .u8 x5) (.int .u8 x6) (.int .u8 x7))
        clear hrow1 r0 r1 r2 r3 r4 r5 r6 r7 rf
        go_wp2
        obtain ⟨s0, s1, s2, s3, s4, s5, s6, s7, _⟩ := blk8 hrow2.out
        refine bodyPost_ret (v := .tuple #[.agg #[.int .u8 x0, .int .u8 x1, .int .u8 x2, .int .u8 x3, .int .u8 x4, .int .u8 x5, .int .u8 x6, .int .u8 x7], .bool true]) ?_ rfl ?_
        · simp only [set8] at s0 s1 s2 s3 s4 s5 s6 s7
          simp [results, Tryz.results151, go_sem, s0, s1, s2, s3, s4, s5, s6, s7]
        · have hl := look_take l k hlt V S (fun j hj hjk => HN.out j hj hjk)
          rw [List.take_succ_eq_append_getElem hlt, look_snoc, if_pos hh'] at hl
          have hd : datum l[k] S = [x0, x1, x2, x3, x4, x5, x6, x7] := by
            rw [← HX.out]
            have e1 : (S - l[k].2.1).toNat = kn := by have := HK.out; omega
            simp [datum, e1, hkn]
          exact ⟨x0, x1, x2, x3, x4, x5, x6, x7, true, rfl, by rw [← HX.out]; exact hok, by rw [hl]; rfl, by rw [hl]; exact hd, set8_below hB1 (Nat.le_refl _) _ _ _ _ _ _ _ _⟩
      · obtain ⟨rfl, hh⟩ := hq
        have HH := Lib.hid hh; clear hh
        clear r0 r1 r2 r3 r4 r5 r6 r7 rf g0 g1 g2
        go_wp2
        go_roundw
        case rel =>
          refine ⟨k, by omega, by go_num, hB.trans (hb1.mono hB.size), (hb1.block _ hblt).trans hrow.out, fun j hj hjk => ?_⟩
          by_cases e : j = k
          · subst e; exact HH.out
          · exact HN.out j hj (by omega)
        case measure => simp [intOf]
end Go.Proofs.YtgndgkjefgjamaaGreat

namespace Go.Proofs.YtgndgkjefgjamaaGreat
open Go.RowKit

def AddRet (m' : List Bool) (b : Nat) (w : World) (e : Ending) (w' : World) : Prop := (∃ v, e = .returned v) ∧ BRow w' b m' ∧ w.grownBy w' (some b)

theorem grown_set {w wr : World} {b k : Nat} {u : Value} (h : w.grownBy wr (some b)) : w.grownBy (wr.setCell ⟨b, k, none⟩ u) (some b) :=
  ⟨h.os, h.tape, h.output, by simpa [World.setCell] using h.size, fun i hi hne => (Below.heap_setCell wr _ u i (fun e => hne (by rw [e]))).trans (h.block i hi hne)⟩
set_option maxHeartbeats 1000000 in
theorem add_any (b c : Nat) (m : List Bool) (s n : Int) (w : World) (h : BRow w b m) (hm : m.length ≤ 4096) (hs : I64 s) (hn : I64 n) :
    Calls Tryz.prog 133 #[.slice (some ⟨b, 0, none⟩) m.length c, .agg #[.int .i64 s, .int .i64 n]] w (AddRet (addM m (s, n)) b w) := by
  obtain ⟨hs1, hs2⟩ := hs
  obtain ⟨hn1, hn2⟩ := hn
  have hlt := h.lt
  have H := Lib.hid h; clear h
  have hend : Hid (∀ o, w.grownBy (w.alloc o) (some b)) := fun o => World.grownBy_alloc w o _
  have hrow0 : Hid (∀ o, BRow (w.alloc o) b m) := fun o => H.out.blk (Below.heap_alloc _ _ _ hlt)
  by_cases c1 : n ≤ 0
  · go_enter Tryz.func133, Tryz.ntmps133
    go_wp2
    refine bodyPost_ret (results_none rfl _ _ _) rfl ?_
    refine ⟨⟨_, rfl⟩, ?_, hend.out _⟩
    rw [addM_none m (s, n) (fun i _ => by simp only; omega)]
    exact hrow0.out _
  · by_cases c2 : (m.length : Int) ≤ s
    · go_enter Tryz.func133, Tryz.ntmps133
      go_wp2
      refine bodyPost_ret (results_none rfl _ _ _) rfl ?_
      refine ⟨⟨_, rfl⟩, ?_, hend.out _⟩
      rw [addM_none m (s, n) (fun i _ => by simp only; omega)]
      exact hrow0.out _
    · have hbne : b ≠ w.heap.size := by omega
      by_cases c3 : s < 0
      · by_cases c4 : (m.length : Int) ≤ s + n
        · go_enter Tryz.func133, Tryz.ntmps133
          go_wp2
          all_goals
            go_loopw [6] (fun i wr => ∃ k : Nat, 0 ≤ k ∧ ((k : Int) ≤ 0 ∨ (k : Int) ≤ (m.length : Int)) ∧ i = .int .i64 k ∧ Hid (BRow wr b (addTo m 0 k)) ∧ Hid (w.grownBy wr (some b))) (fun i _ => ((m.length : Int) - intOf i).toNat)
            case atStart => exact ⟨0, Nat.le_refl _, Or.inl (by omega), rfl, by rw [addTo_lo]; exact hrow0.out _, hend.out _⟩
            case round =>
              obtain ⟨k, hk0, hk1, rfl, hr, hg⟩ := hrel
              by_cases hlt2 : (k : Int) < (m.length : Int)
              · have hkl : k < m.length := by omega
                have hc := hr.out.cell (k := k) (by rw [addTo_len]; exact hkl)
                have hf := hr.out.frozen k
                have hki : (k : Int) < m.length := by omega
                have hnn : (0 : Int) ≤ k := by omega
                go_wp2
                go_roundw
                case rel => exact ⟨k + 1, by omega, Or.inr (by omega), by go_num, by rw [← addTo_succ m _ k hk0]; exact hr.out.set k true, grown_set hg.out⟩
                case measure => simp [intOf]; omega
              · go_wp2
                go_end0
                refine ⟨⟨_, rfl⟩, ?_, hg.out⟩
                rw [← addTo_hi m _ 0 k (fun i hi => by simp only; omega)]
                exact hr.out
        · go_enter Tryz.func133, Tryz.ntmps133
          go_wp2
          all_goals
            go_loopw [6] (fun i wr => ∃ k : Nat, 0 ≤ k ∧ ((k : Int) ≤ 0 ∨ (k : Int) ≤ (s + n)) ∧ i = .int .i64 k ∧ Hid (BRow wr b (addTo m 0 k)) ∧ Hid (w.grownBy wr (some b))) (fun i _ => ((s + n) - intOf i).toNat)
            case atStart => exact ⟨0, Nat.le_refl _, Or.inl (by omega), rfl, by rw [addTo_lo]; exact hrow0.out _, hend.out _⟩
            case round =>
              obtain ⟨k, hk0, hk1, rfl, hr, hg⟩ := hrel
              by_cases hlt2 : (k : Int) < (s + n)
              · have hkl : k < m.length := by omega
                have hc := hr.out.cell (k := k) (by rw [addTo_len]; exact hkl)
                have hf := hr.out.frozen k
                have hki : (k : Int) < m.length := by omega
                have hnn : (0 : Int) ≤ k := by omega
                go_wp2
                go_roundw
                case rel => exact ⟨k + 1, by omega, Or.inr (by omega), by go_num, by rw [← addTo_succ m _ k hk0]; exact hr.out.set k true, grown_set hg.out⟩
                case measure => simp [intOf]; omega
              · go_wp2
                go_end0
                refine ⟨⟨_, rfl⟩, ?_, hg.out⟩
                rw [← addTo_hi m _ 0 k (fun i hi => by simp only; omega)]
                exact hr.out
      · obtain ⟨sn, rfl⟩ := Int.eq_ofNat_of_zero_le (show 0 ≤ s by omega)
        by_cases c4 : (m.length : Int) ≤ sn + n
        · by_cases c5 : n ≤ 4096
          · go_enter Tryz.func133, Tryz.ntmps133
            go_wp2
            all_goals
              go_loopw [6] (fun i wr => ∃ k : Nat, sn ≤ k ∧ ((k : Int) ≤ sn ∨ (k : Int) ≤ (m.length : Int)) ∧ i = .int .i64 k ∧ Hid (BRow wr b (addTo m sn k)) ∧ Hid (w.grownBy wr (some b))) (fun i _ => ((m.length : Int) - intOf i).toNat)
              case atStart => exact ⟨sn, Nat.le_refl _, Or.inl (by omega), rfl, by rw [addTo_lo]; exact hrow0.out _, hend.out _⟩
              case round =>
                obtain ⟨k, hk0, hk1, rfl, hr, hg⟩ := hrel
                by_cases hlt2 : (k : Int) < (m.length : Int)
                · have hkl : k < m.length := by omega
                  have hc := hr.out.cell (k := k) (by rw [addTo_len]; exact hkl)
                  have hf := hr.out.frozen k
                  have hki : (k : Int) < m.length := by omega
                  have hnn : (0 : Int) ≤ k := by omega
                  go_wp2
                  go_roundw
                  case rel => exact ⟨k + 1, by omega, Or.inr (by omega), by go_num, by rw [← addTo_succ m _ k hk0]; exact hr.out.set k true, grown_set hg.out⟩
                  case measure => simp [intOf]; omega
                · go_wp2
                  go_end0
                  refine ⟨⟨_, rfl⟩, ?_, hg.out⟩
                  rw [← addTo_hi m _ sn k (fun i hi => by simp only; omega)]
                  exact hr.out
          · have c6 : (m.length : Int) ≤ sn + 4096 := by omega
            go_enter Tryz.func133, Tryz.ntmps133
            go_wp2
            all_goals
              go_loopw [6] (fun i wr => ∃ k : Nat, sn ≤ k ∧ ((k : Int) ≤ sn ∨ (k : Int) ≤ (m.length : Int)) ∧ i = .int .i64 k ∧ Hid (BRow wr b (addTo m sn k)) ∧ Hid (w.grownBy wr (some b))) (fun i _ => ((m.length : Int) - intOf i).toNat)
              case atStart => exact ⟨sn, Nat.le_refl _, Or.inl (by omega), rfl, by rw [addTo_lo]; exact hrow0.out _, hend.out _⟩
              case round =>
                obtain ⟨k, hk0, hk1, rfl, hr, hg⟩ := hrel
                by_cases hlt2 : (k : Int) < (m.length : Int)
                · have hkl : k < m.length := by omega
                  have hc := hr.out.cell (k := k) (by rw [addTo_len]; exact hkl)
                  have hf := hr.out.frozen k
                  have hki : (k : Int) < m.length := by omega
                  have hnn : (0 : Int) ≤ k := by omega
                  go_wp2
                  go_roundw
                  case rel => exact ⟨k + 1, by omega, Or.inr (by omega), by go_num, by rw [← addTo_succ m _ k hk0]; exact hr.out.set k true, grown_set hg.out⟩
                  case measure => simp [intOf]; omega
                · go_wp2
                  go_end0
                  refine ⟨⟨_, rfl⟩, ?_, hg.out⟩
                  rw [← addTo_hi m _ sn k (fun i hi => by simp only; omega)]
                  exact hr.out
        · go_enter Tryz.func133, Tryz.ntmps133
          go_wp2
          all_goals
            go_loopw [6] (fun i wr => ∃ k : Nat, sn ≤ k ∧ ((k : Int) ≤ sn ∨ (k : Int) ≤ (sn + n)) ∧ i = .int .i64 k ∧ Hid (BRow wr b (addTo m sn k)) ∧ Hid (w.grownBy wr (some b))) (fun i _ => ((sn + n) - intOf i).toNat)
            case atStart => exact ⟨sn, Nat.le_refl _, Or.inl (by omega), rfl, by rw [addTo_lo]; exact hrow0.out _, hend.out _⟩
            case round =>
              obtain ⟨k, hk0, hk1, rfl, hr, hg⟩ := hrel
              by_cases hlt2 : (k : Int) < (sn + n)
              · have hkl : k < m.length := by omega
                have hc := hr.out.cell (k := k) (by rw [addTo_len]; exact hkl)
                have hf := hr.out.frozen k
                have hki : (k : Int) < m.length := by omega
                have hnn : (0 : Int) ≤ k := by omega
                go_wp2
                go_roundw
                case rel => exact ⟨k + 1, by omega, Or.inr (by omega), by go_num, by rw [← addTo_succ m _ k hk0]; exact hr.out.set k true, grown_set hg.out⟩
                case measure => simp [intOf]; omega
              · go_wp2
                go_end0
                refine ⟨⟨_, rfl⟩, ?_, hg.out⟩
                rw [← addTo_hi m _ sn k (fun i hi => by simp only; omega)]
                exact hr.out

theorem list_skip (m : List Bool) (k : Nat) (hk : k < m.length) (h : m[k] = false) : runsL (idxs (m.take (k + 1))) = runsL (idxs (m.take k)) := by
  rw [List.take_succ_eq_append_getElem hk, idxs_snoc, h]; simp
theorem list_step (m : List Bool) (k : Nat) (hk : k < m.length) (h : m[k] = true) : runsL (idxs (m.take (k + 1))) = runStep (runsL (idxs (m.take k))) k := by
  rw [List.take_succ_eq_append_getElem hk, idxs_snoc, h]
  simp only [if_true]
  rw [runsL_snoc, List.length_take, Nat.min_eq_left (by omega)]
theorem list_end (m : List Bool) (k : Nat) (hk : k < m.length) : (∃ s c, (runsL (idxs (m.take (k + 1)))).getLast? = some (s, c) ∧ s + c = ((k + 1 : Nat) : Int)) ↔ m[k] = true := by
  have := run_end (m.take (k + 1))
  rw [List.length_take, Nat.min_eq_left (by omega)] at this
  rw [this, List.take_succ_eq_append_getElem hk, List.getLast?_concat]
  simp
theorem list_bound (m : List Bool) (k : Nat) (hk : k ≤ m.length) : (∀ e ∈ runsL (idxs (m.take k)), 0 ≤ e.1 ∧ 0 < e.2 ∧ e.1 + e.2 ≤ k) ∧ (runsL (idxs (m.take k))).length ≤ k := by
  have h := runsL_bound k (idxs (m.take k)) (fun x hx => by
    have := idxs_mem _ x hx
    rw [List.length_take, Nat.min_eq_left hk] at this
    exact this)
  refine ⟨h.1, Nat.le_trans h.2 ?_⟩
  have := idxs_len (m.take k)
  rw [List.length_take, Nat.min_eq_left hk] at this
  exact this

set_option maxHeartbeats 1000000 in
theorem list_any (b c : Nat) (m : List Bool) (w : World) (h : BRow w b m) (hm : m.length ≤ 4096) :
    Calls Tryz.prog 134 #[.slice (some ⟨b, 0, none⟩) m.length c] w (Ret (encSl encExt) (runsL (idxs m)) w) := by
  have hlt := h.lt
  have H : Hid (∀ w', Below w.heap.size w w' → BRow w' b m) := fun w' hb => h.blk (hb.block b hlt)
  clear h
  go_enter Tryz.func134, Tryz.ntmps134
  go_wp2
  go_loopw [3, 4] (fun v i wr => ∃ (k : Nat) (A : Option Addr) (vc : Nat) (out : List Ext), k ≤ m.length ∧ i = .int .i64 k ∧ v = .slice A out.length vc ∧ Below w.heap.size w wr ∧ Hid (out = runsL (idxs (m.take k))) ∧ Own encExt wr w.heap.size 104 (fun _ => False) (.slice A out.length vc) out) (fun _ i _ => m.length - (intOf i).toNat)
  case atStart => exact ⟨0, none, 0, [], by omega, rfl, rfl, Below.refl _ _, rfl, Own.nil_⟩
  case round =>
    obtain ⟨k, A, vc, out, hk, rfl, rfl, hB, hout, hown⟩ := hrel
    by_cases hlt2 : k < m.length
    · have hc := (H.out wr hB).cell hlt2
      have hki : (k : Int) < m.length := by omega
      have hnn : (0 : Int) ≤ k := by omega
      have hbd := list_bound m k hk
      rw [← hout.out] at hbd
      obtain ⟨hbd1, hbd2⟩ := hbd
      have HBD := Lib.hid hbd1; clear hbd1
      cases hq : m[k] with
      | false =>
        rw [hq] at hc
        have HQ := Lib.hid hq; clear hq
        go_wp2
        go_roundw
        case rel => exact ⟨k + 1, A, vc, out, hlt2, by go_num, rfl, hB, by rw [list_skip m k hlt2 HQ.out]; exact hout.out, hown⟩
        case measure => simp [intOf]; omega
      | true =>
        rw [hq] at hc
        have hst := list_step m k hlt2 hq
        rw [← hout.out] at hst
        have HST := Lib.hid hst; clear hst hq
        have hsz := hB.size
        have hown1 := hown.alloc (fun _ h => h.elim) (.cells #[.int .i64 k, .int .i64 1] 104)
        have HO := Lib.hid hown1; clear hown1
        have s1 : w.heap.size ≤ (wr.alloc (.cells #[.int .i64 k, .int .i64 1] 104)).heap.size := by simp; omega
        have s2 : out.length + 1 ≤ maxLen := by simp [maxLen]; omega
        have s3 : (out.length + 1) * 16 ≤ 140737488355328 := by omega
        have i1 : I64 (k : Int) := by unfold I64; omega
        have i2 : I64 1 := by unfold I64; omega
        by_cases hk0 : k = 0
        · have hk0' : ¬ (0 : Int) < k := by omega
          have hnw : Hid (runStep out k = out ++ [((k : Int), 1)]) := runStep_new (fun s c hg => by
            have := HBD.out (s, c) (List.mem_of_getLast? hg)
            simp only at this
            omega)
          clear hk0
          go_wp2_with (at_builtin; refine wpList_app1 (E := encExt) tyExts rfl _ _ rfl rfl HO.out ((k : Int), 1) [.int .i64 k, .int .i64 1] rfl (ext_mk (x := ((k : Int), 1)) i1 i2) (heap_alloc_new _ _) (fun _ h => h.elim) s1 s2 s3 ?_; intro A' c' w1 hown2 hg hat)
          go_roundw
          case rel =>
            refine ⟨k + 1, A', c', out ++ [((k : Int), 1)], hlt2, by go_num, by simp, ?_, ?_, ?_⟩
            · exact (hB.alloc hB.size _).grown hg s1 (fun g h => (hown.lt g h).1)
            · rw [HST.out, hnw.out]; exact rfl
            · simpa using hown2
          case measure => simp [intOf]; omega
        · have hk0' : (0 : Int) < k := by omega
          have hk1 : k - 1 < m.length := by omega
          have hc2 := (H.out wr hB).cell hk1
          have e2 : (1 : Int) ≤ k := by omega
          have e3 : (k : Int) - 1 < m.length := by omega
          have e0 : k - 1 + 1 = k := by omega
          have E0 := Lib.hid e0; clear e0
          have e1 : ((k : Int) - 1).toNat = k - 1 := by omega
          have hle := list_end m (k - 1) hk1
          rw [E0.out, ← hout.out] at hle
          cases hq2 : m[k - 1] with
          | false =>
            rw [hq2] at hc2
            have hnw : Hid (runStep out k = out ++ [((k : Int), 1)]) := runStep_new (fun s c hg e => by
              have := hle.1 ⟨s, c, hg, e⟩
              rw [hq2] at this
              cases this)
            clear hle hq2 hk0
            go_wp2_with (at_builtin; refine wpList_app1 (E := encExt) tyExts rfl _ _ rfl rfl HO.out ((k : Int), 1) [.int .i64 k, .int .i64 1] rfl (ext_mk (x := ((k : Int), 1)) i1 i2) (heap_alloc_new _ _) (fun _ h => h.elim) s1 s2 s3 ?_; intro A' c' w1 hown2 hg hat)
            go_roundw
            case rel =>
              refine ⟨k + 1, A', c', out ++ [((k : Int), 1)], hlt2, by go_num, by simp, ?_, ?_, ?_⟩
              · exact (hB.alloc hB.size _).grown hg s1 (fun g h => (hown.lt g h).1)
              · rw [HST.out, hnw.out]; exact rfl
              · simpa using hown2
            case measure => simp [intOf]; omega
          | true =>
            rw [hq2] at hc2
            obtain ⟨s, n, hg, he⟩ := hle.2 hq2
            have hpos : 0 < out.length := by
              cases out with
              | nil => simp at hg
              | cons a l => simp
            have hlast : out[out.length - 1]'(by omega) = (s, n) := by
              rw [List.getLast?_eq_getElem?, List.getElem?_eq_getElem (by omega)] at hg
              injection hg
            have hmore : Hid (runStep out k = out.set (out.length - 1) (s, n + 1)) := runStep_more hg he
            have hsn := HBD.out (s, n) (List.mem_of_getLast? hg)
            simp only at hsn
            obtain ⟨hs0, hn0, hsn⟩ := hsn
            obtain ⟨g, cs, rfl, hg1, hg2, _, hcell, hfz, hrd⟩ := hown.elem (i := out.length - 1) (by omega)
            obtain ⟨rfl, _, _⟩ := ext_cs hrd
            rw [hlast] at hcell
            have d0 := hcell 0 _ rfl
            have d1 := hcell 1 _ rfl
            have e4 : ((out.length : Int) - 1).toNat = out.length - 1 := by omega
            have e5 : (1 : Int) ≤ out.length := by omega
            have hst := Lib.hid (hown.stored (i := out.length - 1) (j := 1) (by omega) (by decide) (.int .i64 (n + 1)) (s, n + 1) (fun cs hr => by
              obtain ⟨rfl, _, _⟩ := ext_cs hr
              rw [hlast]
              exact ext_mk (x := (s, n + 1)) (by unfold I64; simp only; omega) (by unfold I64; simp only; omega)))
            have HL := Lib.hid hlast
            clear hle hq2 hk0 hcell hrd hlast hg he HO
            simp only [show encExt.size = 2 from rfl, Nat.add_zero] at d0 d1 hst
            go_wp2
            go_roundw
            case rel =>
              refine ⟨k + 1, some ⟨g, 0, none⟩, vc, out.set (out.length - 1) (s, n + 1), hlt2, by go_num, by simp, hB.setCell (by simpa using hg1) _, ?_, ?_⟩
              · rw [HST.out, hmore.out]; exact rfl
              · simpa using hst.out
            case measure => simp [intOf]; omega
    · have hkk : k = m.length := by omega
      subst hkk
      go_wp2
      go_ret
      refine ⟨_, rfl, ?_, hB⟩
      have e := hout.out
      rw [List.take_length] at e
      rw [← e]
      exact hown.rd (fun _ h => h.elim)
end Go.Proofs.YtgndgkjefgjamaaGreat
namespace Go.Proofs.YtgndgkjefgjamaaGreat
open Go.RowKit

def noMarks : List Bool := List.replicate 4096 false
theorem rep_getD (n i : Nat) : (List.replicate n false).getD i false = false := by
  rw [List.getD_eq_getElem?_getD, List.getElem?_replicate]
  split <;> rfl
theorem map_noMarks : noMarks.map Value.bool = List.replicate 4096 (Value.bool false) := List.map_replicate
def marksOf (v : Int) (m : List Bool) (x : Wr) : List Bool := if x.1 = v then addM m (x.2.1, x.2.2.length) else m
def marksL (l : List Wr) (v : Int) : List Bool := l.foldl (marksOf v) noMarks
theorem noMarks_len : noMarks.length = 4096 := List.length_replicate ..
theorem marksL_snoc (l : List Wr) (x : Wr) (v : Int) : marksL (l ++ [x]) v = marksOf v (marksL l v) x := by simp [marksL]
theorem marksL_len (l : List Wr) (v : Int) : (marksL l v).length = 4096 := by
  induction l using snocRec with
  | h0 => exact noMarks_len
  | h1 l x ih =>
    rw [marksL_snoc, marksOf]
    split
    · rw [addM_len, ih]
    · exact ih
theorem marksL_at (l : List Wr) (v : Int) (i : Nat) (hi : i < 4096) : (marksL l v).getD i false = (look l v i).isSome := by
  induction l using snocRec with
  | h0 =>
    have : (marksL [] v).getD i false = false := by
      exact rep_getD 4096 i
    rw [this]; rfl
  | h1 l x ih =>
    rw [marksL_snoc, marksOf, look_snoc]
    by_cases hv : x.1 = v
    · rw [if_pos hv]
      have hlen := marksL_len l v
      have e : (addM (marksL l v) (x.2.1, (x.2.2.length : Int))).getD i false = ((marksL l v).getD i false || decide (x.2.1 ≤ i ∧ (i : Int) < x.2.1 + x.2.2.length)) := by
        simp [addM, hlen, hi]
      rw [e, ih]
      by_cases hh : hits x v i
      · rw [if_pos hh]; simp [hh.2.1, hh.2.2]
      · rw [if_neg hh]
        have : ¬ (x.2.1 ≤ (i : Int) ∧ (i : Int) < x.2.1 + x.2.2.length) := fun h => hh ⟨hv, h.1, h.2⟩
        simp [this]
    · rw [if_neg hv, if_neg (fun h => hv h.1)]
      exact ih
theorem idxs_marks (l : List Wr) (v : Int) : idxs (marksL l v) = secsOf l v := by
  unfold idxs secsOf
  rw [marksL_len]
  refine congrArg _ ?_
  exact List.filter_congr fun i hi => marksL_at l v i (List.mem_range.1 hi)

theorem makeMarks (w : World) : (Instr.makeSlice 195 (.int .i64 4096) (.int .i64 4096)).run Tryz.prog w = .ok (.slice (some ⟨w.heap.size, 0, none⟩) 4096 4096) (w.alloc (.cells (noMarks.map Value.bool).toArray 4)) := by
  have h := run_make_row' (P := Tryz.prog) 195 4 (.bool false) 1 Tryz.underlying195 (by kernel_rfl) rfl .i64 .i64 4096 (by omega) (by omega) w
  have e : (noMarks.map Value.bool).toArray = madeCells #[.bool false] 4096 := by
    apply Array.ext'
    rw [toList_madeCells_one]
    exact map_noMarks
  rw [e]
  exact h

theorem add4096 (b c : Nat) (m : List Bool) (s n : Int) (w : World) (h : BRow w b m) (hm : m.length = 4096) (hs : I64 s) (hn : I64 n) :
    Calls Tryz.prog 133 #[.slice (some ⟨b, 0, none⟩) 4096 c, .agg #[.int .i64 s, .int .i64 n]] w (AddRet (addM m (s, n)) b w) := by
  have := add_any b c m s n w h (by omega) hs hn
  rw [hm] at this
  exact this
set_option maxHeartbeats 1000000 in
theorem refExtents_any (A : Option Addr) (c : Nat) (l : List Wr) (V : Int) (w : World) (h1 : SlAt encWr w (Bl w.heap.size) A l) (hs : l.length ≤ 9223372036854775807) (h3 : I64 V) :
    Calls Tryz.prog 81 #[.slice A l.length c, .int .i64 V] w (Ret (encSl encExt) (runsL (secsOf l V)) w) := by
  have h1 : Hid (∀ w', Below w.heap.size w w' → SlAt encWr w' (Bl w.heap.size) A l) := fun w' hb => h1.below hb
  have hmk := makeMarks
  go_enter Tryz.func81, Tryz.ntmps81
  go_wp2
  go_loopw [6] (fun i wr => ∃ k : Nat, k ≤ l.length ∧ i = .int .i64 k ∧ Below w.heap.size w wr ∧ Hid (BRow wr w.heap.size (marksL (l.take k) V))) (fun i _ => l.length - (intOf i).toNat)
  case atStart => exact ⟨0, by omega, rfl, (Below.refl _ _).alloc (Nat.le_refl _) _, heap_alloc_new _ _⟩
  case round =>
    obtain ⟨k, hk, rfl, hB, hrow⟩ := hrel
    clear hmk
    by_cases hlt : k < l.length
    · have H1 := Lib.hid (h1.out wr hB)
      obtain ⟨b, off, D, dc, rfl, hb, g0, g1, g2, hD, hn1, hn2, hi1, hi2⟩ := H1.out.wr hlt
      have hbl : b < w.heap.size := hb
      have hnn : (0 : Int) ≤ k := by omega
      have hki : (k : Int) < l.length := by omega
      unfold maxLen at hn2
      by_cases hv : l[k].1 = V
      · have hv' : (l[k].1 == V) = true := by simp [hv]
        have hm : Hid (marksL (l.take (k + 1)) V = addM (marksL (l.take k) V) (l[k].2.1, (l[k].2.2.length : Int))) := by
          rw [List.take_succ_eq_append_getElem hlt, marksL_snoc, marksOf, if_pos hv]; exact rfl
        have HV := Lib.hid hv; clear hv
        have hlen := Lib.hid (marksL_len (l.take k) V)
        have hi3 : I64 (l[k].2.2.length : Int) := by unfold I64; omega
        go_wp2
        go_region_held3 (fun w' => w'.cell? ⟨b, off + k * 3 + 1, none⟩ = some (.int .i64 l[k].2.1) ∧ w'.cell? ⟨b, off + k * 3 + 2, none⟩ = some (.slice D l[k].2.2.length dc))
          (first | go_keep | exact ⟨(World.cell?_of_block (hgw.block b (Nat.lt_of_lt_of_le hbl hB.size) (by simp; omega))).trans g1, (World.cell?_of_block (hgw.block b (Nat.lt_of_lt_of_le hbl hB.size) (by simp; omega))).trans g2⟩)
          (first | (go_at_call 133; refine (add4096 _ _ (marksL (l.take k) V) _ _ wr.drew hrow.out hlen.out hi2 hi3).mono ?_; rintro e w1 ⟨⟨v, rfl⟩, hrow1, hgx⟩; have hgw : wr.grownBy w1 (some w.heap.size) := ⟨hgx.os, hgx.tape, hgx.output, hgx.size, hgx.block⟩; clear hgx))
        go_wp2
        go_roundw
        case rel =>
          refine ⟨k + 1, hlt, by go_num, hB.trans ⟨hgw.os, hgw.tape, hgw.output, hgw.size, fun i hi => hgw.block i (Nat.lt_of_lt_of_le hi hB.size) (by simp; omega)⟩, ?_⟩
          rw [hm.out]; exact hrow1
        case measure => simp [intOf]; omega
      · have hv' : (l[k].1 == V) = false := by simp [hv]
        have hm : Hid (marksL (l.take (k + 1)) V = marksL (l.take k) V) := by
          rw [List.take_succ_eq_append_getElem hlt, marksL_snoc, marksOf, if_neg hv]; exact rfl
        have HV := Lib.hid hv; clear hv
        go_wp2
        go_roundw
        case rel => exact ⟨k + 1, hlt, by go_num, hB, by rw [hm.out]; exact hrow.out⟩
        case measure => simp [intOf]; omega
    · have hkk : k = l.length := by omega
      subst hkk
      have hr := hrow.out
      rw [List.take_length] at hr
      have hlen := marksL_len l V
      have hli := Lib.hid (list_any w.heap.size 4096 (marksL l V) wr hr (by omega))
      rw [hlen, idxs_marks] at hli
      clear hlen
      go_wp2_with fail
      refine hli.out.mono ?_
      rintro e w1 ⟨v, rfl, hv, hb1⟩
      go_wp2
      go_ret
      exact ⟨v, rfl, Enc.more hv (fun _ h => h.mono hB.size (Nat.le_refl _)), hB.trans (hb1.mono hB.size)⟩
end Go.Proofs.YtgndgkjefgjamaaGreat

namespace Go.Proofs.YtgndgkjefgjamaaGreat
open Go.RowKit

def pickD (l : List Wr) (v s : Int) (j : Nat) : List Sec := (List.range j).map fun (k : Nat) => (look l v (s + k)).getD zsec
theorem pickD_succ (l : List Wr) (v s : Int) (j : Nat) : pickD l v s (j + 1) = pickD l v s j ++ [(look l v (s + j)).getD zsec] := by simp [pickD, List.range_succ]
theorem pickS_snoc (l : List Wr) (v : Int) (es : List Ext) (e : Ext) : pickS l v (es ++ [e]) = pickS l v es ++ [(v, e.1, pickD l v e.1 e.2.toNat)] := by simp [pickS, pickD]

set_option maxHeartbeats 2000000 in
theorem pick_any (A A2 : Option Addr) (c c2 : Nat) (l : List Wr) (V : Int) (es : List Ext) (w : World) (h1 : SlAt encWr w (Bl w.heap.size) A l) (hs : l.length ≤ 9223372036854775807) (h3 : I64 V)
    (h2 : SlAt encExt w (Bl w.heap.size) A2 es) (hes : es.length ≤ 4096) (hbd : ∀ e ∈ es, 0 ≤ e.1 ∧ 0 < e.2 ∧ e.1 + e.2 ≤ 4096) :
    Calls Tryz.prog 122 #[.slice A l.length c, .int .i64 V, .slice A2 es.length c2] w (Ret (encSl encWr) (pickS l V es) w) := by
  have H1 : Hid (∀ w', Below w.heap.size w w' → SlAt encWr w' (Bl w'.heap.size) A l) := fun w' hb => h1.belowUp hb hb.size
  have H2 : Hid (∀ w', Below w.heap.size w w' → SlAt encExt w' (Bl w.heap.size) A2 es) := fun w' hb => h2.below hb
  clear h1 h2
  have HBD := Lib.hid hbd; clear hbd
  have H3 := Lib.hid h3; clear h3
  go_enter Tryz.func122, Tryz.ntmps122
  go_wp2
  go_loopw [7, 8] (fun v i wr => ∃ (k : Nat) (B : Option Addr) (vc : Nat) (out : List Wr), k ≤ es.length ∧ i = .int .i64 k ∧ v = .slice B out.length vc ∧ Below w.heap.size w wr ∧ Hid (out = pickS l V (es.take k)) ∧ Hid (OwnW encWr wr w.heap.size w.heap.size 45 (.slice B out.length vc) out)) (fun _ i _ => es.length - (intOf i).toNat)
  case atStart => exact ⟨0, none, 0, [], by omega, rfl, rfl, Below.refl _ _, rfl, OwnW.nil_⟩
  case round =>
    obtain ⟨wo, rfl⟩ : ∃ wo : World, wo = wr := ⟨_, rfl⟩
    obtain ⟨k, B, vc, out, hk, rfl, rfl, hB, hout, hown⟩ := hrel
    by_cases hlt : k < es.length
    · obtain ⟨b, off, rfl, hb, g0, g1, i1, i2⟩ := (H2.out wo hB).ext hlt
      have hbl : b < w.heap.size := hb
      obtain ⟨hs0, hc0, hsc⟩ := HBD.out _ (List.getElem_mem hlt)
      have hnn : (0 : Int) ≤ k := by omega
      have hki : (k : Int) < es.length := by omega
      have hsz := hB.size
      obtain ⟨cnt, hcnt⟩ := Int.eq_ofNat_of_zero_le (show 0 ≤ es[k].2 by omega)
      rw [hcnt] at g1 hc0 hsc
      have HC := Lib.hid hcnt; clear hcnt i2
      obtain ⟨st, hst⟩ : ∃ st, st = es[k].1 := ⟨_, rfl⟩
      rw [← hst] at g0 hs0 hsc i1
      have HST := Lib.hid hst; clear hst
      have hol : out.length ≤ 4096 := by rw [hout.out]; simp [pickS]; omega
      go_wp2
      go_loopw [10] (fun s10 w2 => ∃ (j : Nat) (D : Option Addr) (dc : Nat) (d : List Sec), j ≤ cnt ∧ s10 = .int .i64 j ∧ Below wo.heap.size wo w2 ∧ Hid (d.length = j) ∧ Hid (d = pickD l V st j) ∧ Hid (w2.heap[wo.heap.size]? = some (.cells #[.int .i64 V, .int .i64 st, .slice D d.length dc] 45 (0, 0))) ∧ Hid (Own encSec w2 (wo.heap.size + 1) 95 (fun _ => False) (.slice D d.length dc) d)) (fun s10 _ => cnt - (intOf s10).toNat)
      case atStart => exact ⟨0, none, 0, [], by omega, rfl, (Below.refl _ _).alloc (Nat.le_refl _) _, rfl, rfl, heap_alloc_new _ _, Own.nil_⟩
      case round =>
        obtain ⟨j, D, dc, d, hj, rfl, hB2, hdl, hd, hbox, hownd⟩ := hrel
        have hsz2 := hB2.size
        have hbx : wo.heap.size < wr.heap.size := (Array.getElem?_eq_some_iff.1 hbox.out).1
        have q1 := (hB2.cell (p := ⟨b, off + k * 2 + 1, none⟩) (by simp; omega)).trans g1
        have q0 := (hB2.cell (p := ⟨b, off + k * 2, none⟩) (by simp; omega)).trans g0
        have hBw : Below w.heap.size w wr := hB.trans (hB2.mono hsz)
        by_cases hj2 : j < cnt
        · have hji : (j : Int) < cnt := by omega
          have hjn : (0 : Int) ≤ j := by omega
          have hlk := Lib.hid (refLookup_any A c l V (st + j) wr (H1.out wr hBw) hs H3.out (by unfold I64; omega))
          clear g0 g1
          go_wp2_with fail
          refine hlk.out.mono ?_
          rintro e w3 ⟨x0, x1, x2, x3, x4, x5, x6, x7, q, rfl, hok, hq, hx, hb3⟩
          have hsz3 := hb3.size
          have HQ := Lib.hid hq; clear hq
          have HX := Lib.hid hx; clear hx
          have hbox3 : w3.heap[wo.heap.size]? = some (.cells #[.int .i64 V, .int .i64 st, .slice D d.length dc] 45 (0, 0)) := (hb3.block _ hbx).trans hbox.out
          have hown3 := Lib.hid (((hownd.out.below hb3 (fun _ h => h.elim)).alloc (fun _ h => h.elim) (.cells #[.int .u8 x0, .int .u8 x1, .int .u8 x2, .int .u8 x3, .int .u8 x4, .int .u8 x5, .int .u8 x6, .int .u8 x7] 95)).alloc (fun _ h => h.elim) (.cells #[.int .u8 x0, .int .u8 x1, .int .u8 x2, .int .u8 x3, .int .u8 x4, .int .u8 x5, .int .u8 x6, .int .u8 x7] 95))
          obtain ⟨p0, p1, p2, pf⟩ := blk3 hbox3
          have HB3 := Lib.hid hbox3; clear hbox3
          have hbx3 : wo.heap.size < w3.heap.size := by omega
          have hdl2 : d.length ≤ 4096 := by have := hdl.out; omega
          clear q0 q1 hlk
          go_wp2_with (at_builtin; refine Hid.out ?_)
          change wpList _ _ _ _ _ _
          refine wpList_app1 (E := encSec) tySecs rfl _ _ rfl rfl hown3.out [x0, x1, x2, x3, x4, x5, x6, x7] [.int .u8 x0, .int .u8 x1, .int .u8 x2, .int .u8 x3, .int .u8 x4, .int .u8 x5, .int .u8 x6, .int .u8 x7] rfl ⟨rfl, hok⟩ (heap_new2 _ _ _) (fun _ h => h.elim) (by simp; omega) (by simp [maxLen]; omega) (by omega) ?_
          intro A' c' w5 hown5 hg5 hat5
          have hw5 := hg5.size
          have hrowne : some wo.heap.size ≠ (Value.slice D d.length dc).ownBlock := fun e => by have := (hownd.out.lt _ e.symm).1; omega
          have hbox5 : w5.heap[wo.heap.size]? = some (.cells #[.int .i64 V, .int .i64 st, .slice D d.length dc] 45 (0, 0)) := (hg5.block _ (by simp; omega) hrowne).trans ((Below.heap_alloc _ _ _ (by simp; omega)).trans ((Below.heap_alloc _ _ _ hbx3).trans HB3.out))
          obtain ⟨t0, t1, t2, tf⟩ := blk3 hbox5
          have hset := Lib.hid (blk3_set hbox5 (.slice A' (d.length + 1) c'))
          have hB5 : Hid (Below wo.heap.size wo w5) := ((((hB2.trans (hb3.mono hsz2)).alloc (by omega) _).alloc (by simp; omega) _).grown hg5 (by simp; omega) (fun g h => by have := (hownd.out.lt g h).1; omega))
          have HN : Hid (some wo.heap.size ≠ (Value.slice D d.length dc).ownBlock) := hrowne
          have hst5 : wo.heap.size < w5.heap.size := (Array.getElem?_eq_some_iff.1 hbox5).1
          clear hbox5 p0 p1 p2 pf hrowne
          go_wp2
          go_roundw
          case rel =>
            refine ⟨j + 1, A', c', d ++ [[x0, x1, x2, x3, x4, x5, x6, x7]], by omega, by go_num, hB5.out.setCell (by simp) _, ?_, ?_, ?_, ?_⟩
            · have := hdl.out; simp [Hid, this]
            · rw [pickD_succ, HX.out, ← hd.out]; exact rfl
            · have := hset.out; simpa [Hid] using this
            · have h5 := hown5.blk (w' := w5.setCell ⟨wo.heap.size, 2, none⟩ (.slice A' (d.length + 1) c')) (fun g hg => Below.heap_setCell _ _ _ _ (by
                rcases hg with hg | hg
                · exact hg.elim
                · have := (hown5.lt g hg).1
                  simp only
                  omega))
              simpa [Hid] using h5
          case measure => simp [intOf]; omega
        · have hjj : j = cnt := by omega
          obtain ⟨p0, p1, p2, pf⟩ := blk3 hbox.out
          have hd1 := hd.out
          rw [hjj] at hd1
          have HD1 := Lib.hid hd1; clear hd1
          have HJ := Lib.hid hjj; clear hjj
          have hdl2 : d.length ≤ 4096 := by have := hdl.out; have := HJ.out; omega
          obtain ⟨Dr, hDr⟩ : ∃ o : Obj, o = .cells #[.int .i64 V, .int .i64 st, .slice D d.length dc] 45 := ⟨_, rfl⟩
          have hownw := (hown.out.below hB2).below ((Below.refl wr.heap.size wr).alloc (Nat.le_refl _) Dr)
          rw [hDr] at hownw
          have HW := Lib.hid hownw; clear hownw hDr
          have hdr := Own.reads (S' := Bl wr.heap.size) hownd.out (fun _ h => h.elim) (fun g hg => (hownd.out.lt g hg).2)
          obtain ⟨D', dc', he, hlc, hcm, hat⟩ := hdr
          simp only [List.cons.injEq, Value.slice.injEq, and_true, true_and] at he
          obtain ⟨rfl, rfl⟩ := he
          have hBne : ∀ g, (Value.slice B out.length vc).ownBlock = some g → g < wo.heap.size := fun g hg => (hown.out.lt g hg).2
          have HBN := Lib.hid hBne; clear hBne
          have hrd : encWr.rd (wr.alloc (.cells #[.int .i64 V, .int .i64 st, .slice D d.length dc] 45)) (fun b => Nw w.heap.size (wr.alloc (.cells #[.int .i64 V, .int .i64 st, .slice D d.length dc] 45)).heap.size b ∧ (Value.slice B out.length vc).ownBlock ≠ some b) [.int .i64 V, .int .i64 st, .slice D d.length dc] (V, st, d) := by
            refine wr_mk (x := (V, st, d)) H3.out i1 hlc hcm ?_
            have hat2 := Own.reads (S' := fun b => wo.heap.size < b ∧ b < wr.heap.size) hownd.out (fun _ h => h.elim) (fun g hg => ⟨by have := (hownd.out.lt g hg).1; omega, (hownd.out.lt g hg).2⟩)
            obtain ⟨D', dc', he, _, _, hat2⟩ := hat2
            simp only [List.cons.injEq, Value.slice.injEq, and_true, true_and] at he
            obtain ⟨rfl, rfl⟩ := he
            refine (hat2.keep (w' := wr.alloc _) (fun p hp => World.cell?_of_block (Below.heap_alloc _ _ _ hp.2)) (fun g hg => ⟨⟨by omega, by simp; omega⟩, fun e => ?_⟩))
            have := HBN.out g e
            omega
          have HR := Lib.hid hrd; clear hrd hat
          clear g0 g1
          go_wp2_with (at_builtin; refine Hid.out ?_)
          change wpList _ _ _ _ _ _
          refine wpList_app1 (E := encWr) tyWrs rfl _ _ rfl rfl HW.out (V, st, d) [.int .i64 V, .int .i64 st, .slice D d.length dc] rfl HR.out (heap_alloc_new _ _) (fun _ h => h.1.2) (by simp; omega) (by simp [maxLen]; omega) (by omega) ?_
          intro A' c' w5 hown5 hg5 hat5
          have hok5 := Lib.hid (OwnW.app hown5 hg5 hat5)
          clear p0 p1 p2 pf q0 q1
          go_wp2
          go_roundw
          case rel =>
            refine ⟨k + 1, A', c', out ++ [(V, st, d)], hlt, by go_num, by simp, ?_, ?_, ?_⟩
            · exact (hBw.alloc (by omega) _).grown hg5 (by simp; omega) (fun g h => (hown.out.lt g h).1)
            · rw [List.take_succ_eq_append_getElem hlt, pickS_snoc, ← hout.out, HC.out, ← HST.out, Int.toNat_natCast, ← HD1.out]; exact rfl
            · have := hok5.out; simpa [Hid] using this
          case measure => simp [intOf]; omega
    · have hkk : k = es.length := by omega
      subst hkk
      go_wp2
      go_ret
      have e := hout.out
      rw [List.take_length] at e
      rw [← e]
      exact ⟨_, rfl, hown.out.rd, hB⟩
end Go.Proofs.YtgndgkjefgjamaaGreat

namespace Go.Proofs.YtgndgkjefgjamaaGreat
open Go.RowKit

def most : List Int := List.replicate 8 4096
theorem most_len : most.length = 8 := List.length_replicate ..
theorem fits_placed (x : Wr) : fitsN most x = placedN x := by
  unfold fitsN placedN
  rw [most_len]
  by_cases h1 : x.1 < 0 ∨ x.1 ≥ 8
  · rw [if_pos (by simpa using h1), if_pos h1]
  · rw [if_neg (by simpa using h1), if_neg h1]
    by_cases h2 : x.2.2.length = 0
    · rw [if_pos h2, if_pos h2]
    · rw [if_neg h2, if_neg h2]
      have : most.getD x.1.toNat 0 = 4096 := by
        have hlt : x.1.toNat < 8 := by omega
        rw [List.getD_eq_getElem?_getD, most, List.getElem?_replicate, if_pos hlt]; rfl
      rw [this]
      by_cases h3 : x.2.1 < 0 ∨ x.2.1 > 4096 - x.2.2.length
      · rw [if_pos (by omega), if_pos h3]
      · rw [if_neg (by omega), if_neg h3]
theorem most8 (w : World) : Calls Tryz.prog 121 #[] w fun e w' => ∃ A c, e = .returned (.slice A 8 c) ∧ SlAt encInt w' (Bl w'.heap.size) A most ∧ Below w.heap.size w w' :=
  (most_any w).mono fun _ _ h => by
    obtain ⟨A, c, rfl, _, _, h3, hb⟩ := h.sl
    exact ⟨A, c, by rw [List.length_replicate], h3.more (fun _ h => h.2), hb⟩
theorem fits8 (A : Option Addr) (c : Nat) (v s : Int) (D : Option Addr) (dc n : Nat) (data : List Sec) (w : World) (h1 : SlAt encInt w (Bl w.heap.size) A most) (hd : data.length = n) (pn : Int) (hp : placedN (v, s, data) = pn) (hn : n ≤ 9223372036854775807) (hv : I64 v) (hs2 : I64 s) :
    Calls Tryz.prog 116 #[.slice A 8 c, .agg #[.int .i64 v, .int .i64 s, .slice D n dc]] w fun e w' => e = .returned (.int .i64 pn) ∧ Below w.heap.size w w' := by
  subst hp
  subst hd
  have := fits_any A c (Bl w.heap.size) most v s D dc data w h1 (by rw [most_len]; omega) (fun _ h => h) hn hv hs2
  rw [most_len, fits_placed] at this
  exact this

set_option maxHeartbeats 2000000 in
theorem refFold_any (A : Option Addr) (c : Nat) (l : List Wr) (w : World) (h1 : SlAt encWr w (Bl w.heap.size) A l) (hs : l.length ≤ 9223372036854775807) :
    Calls Tryz.prog 66 #[.slice A l.length c] w (RetSlN encWr (foldL l) (errOf placedN l) w) := by
  have H1 : Hid (∀ w', Below w.heap.size w w' → SlAt encWr w' (Bl w'.heap.size) A l) := fun w' hb => h1.belowUp hb hb.size
  have H2 : Hid (∀ w', Below w.heap.size w w' → SlAt encWr w' (Bl w.heap.size) A l) := fun w' hb => h1.below hb
  clear h1
  go_enter Tryz.func66, Tryz.ntmps66
  go_wp2
  go_loopw [4] (fun i wr => ∃ k : Nat, k ≤ l.length ∧ i = .int .i64 k ∧ Below w.heap.size w wr ∧ Hid (∀ x ∈ l.take k, placedN x = 0)) (fun i _ => l.length - (intOf i).toNat)
  case atStart => exact ⟨0, by omega, rfl, Below.refl _ _, by simp [Hid]⟩
  case round =>
    obtain ⟨wo, rfl⟩ : ∃ wo : World, wo = wr := ⟨_, rfl⟩
    obtain ⟨k, hk, rfl, hB, hz⟩ := hrel
    by_cases hlt : k < l.length
    · obtain ⟨b, off, D, dc, rfl, hb, g0, g1, g2, hD, hn1, hn2, hi1, hi2⟩ := (H2.out wo hB).wr hlt
      have hbl : b < w.heap.size := hb
      have hblo : b < wo.heap.size := Nat.lt_of_lt_of_le hbl hB.size
      have hnn : (0 : Int) ≤ k := by omega
      have hki : (k : Int) < l.length := by omega
      unfold maxLen at hn2
      have hn3 : l[k].2.2.length ≤ 9223372036854775807 := by omega
      obtain ⟨pn, hpn⟩ : ∃ pn, Hid (placedN l[k] = pn) := ⟨placedN l[k], Lib.hid rfl⟩
      by_cases hp0 : pn = 0
      · have hp1 : (pn != 0) = false := by simp [hp0]
        have HP := Lib.hid hp0; clear hp0
        go_wp2
        go_region_held3 (fun w' => w'.cell? ⟨b, off + k * 3, none⟩ = some (.int .i64 l[k].1) ∧ w'.cell? ⟨b, off + k * 3 + 1, none⟩ = some (.int .i64 l[k].2.1) ∧ w'.cell? ⟨b, off + k * 3 + 2, none⟩ = some (.slice D l[k].2.2.length dc))
          (first | go_keep | exact ⟨(hx1.cell (p := ⟨b, off + k * 3, none⟩) hblo).trans g0, (hx1.cell (p := ⟨b, off + k * 3 + 1, none⟩) hblo).trans g1, (hx1.cell (p := ⟨b, off + k * 3 + 2, none⟩) hblo).trans g2⟩ | exact ⟨(hx2.cell (p := ⟨b, off + k * 3, none⟩) hblo).trans g0, (hx2.cell (p := ⟨b, off + k * 3 + 1, none⟩) hblo).trans g1, (hx2.cell (p := ⟨b, off + k * 3 + 2, none⟩) hblo).trans g2⟩)
          (first | (go_at_call 121; refine (most8 _).mono ?_; rintro e w1 ⟨Am, cm, rfl, hsm, hb1⟩; have hx1 : Below wo.heap.size wo w1 := bUn hb1) | (go_at_call 116; refine (fits8 _ _ _ _ _ _ _ l[k].2.2 w1 hsm rfl pn hpn.out hn3 hi1 hi2).mono ?_; rintro e w2 ⟨rfl, hb2⟩; have hx2 : Below wo.heap.size wo w2 := hx1.trans (hb2.mono hx1.size)))
        go_wp2
        go_roundw
        case rel =>
          refine ⟨k + 1, hlt, by go_num, hB.trans (hx2.mono hB.size), ?_⟩
          intro x hx
          rw [List.take_succ_eq_append_getElem hlt] at hx
          rcases List.mem_append.1 hx with hx | hx
          · exact hz.out x hx
          · rw [List.mem_singleton.1 hx, hpn.out, HP.out]
        case measure => simp [intOf]; omega
      · have hp1 : (pn != 0) = true := by simp [hp0]
        have HP := Lib.hid hp0; clear hp0
        go_wp2
        go_region_held3 (fun w' => w'.cell? ⟨b, off + k * 3, none⟩ = some (.int .i64 l[k].1) ∧ w'.cell? ⟨b, off + k * 3 + 1, none⟩ = some (.int .i64 l[k].2.1) ∧ w'.cell? ⟨b, off + k * 3 + 2, none⟩ = some (.slice D l[k].2.2.length dc))
          (first | go_keep | exact ⟨(hx1.cell (p := ⟨b, off + k * 3, none⟩) hblo).trans g0, (hx1.cell (p := ⟨b, off + k * 3 + 1, none⟩) hblo).trans g1, (hx1.cell (p := ⟨b, off + k * 3 + 2, none⟩) hblo).trans g2⟩ | exact ⟨(hx2.cell (p := ⟨b, off + k * 3, none⟩) hblo).trans g0, (hx2.cell (p := ⟨b, off + k * 3 + 1, none⟩) hblo).trans g1, (hx2.cell (p := ⟨b, off + k * 3 + 2, none⟩) hblo).trans g2⟩)
          (first | (go_at_call 121; refine (most8 _).mono ?_; rintro e w1 ⟨Am, cm, rfl, hsm, hb1⟩; have hx1 : Below wo.heap.size wo w1 := bUn hb1) | (go_at_call 116; refine (fits8 _ _ _ _ _ _ _ l[k].2.2 w1 hsm rfl pn hpn.out hn3 hi1 hi2).mono ?_; rintro e w2 ⟨rfl, hb2⟩; have hx2 : Below wo.heap.size wo w2 := hx1.trans (hb2.mono hx1.size)))
        go_wp2
        go_ret2
        have herr : errOf placedN l = pn := by
          rw [← hpn.out]
          exact errOf_at hlt hz.out (by rw [hpn.out]; exact HP.out)
        have hf : foldL l = [] := by rw [foldL, herr, if_neg HP.out]
        rw [hf, herr]
        exact ⟨none, 0, rfl, by simp, by simp, SlAt.nil_, hB.trans (hx2.mono hB.size)⟩
    · have hkk : k = l.length := by omega
      subst hkk
      have herr : errOf placedN l = 0 := errOf_zero (by have := hz.out; rw [List.take_length] at this; exact this)
      have hf : foldL l = foldS l := by rw [foldL, herr, if_pos rfl]
      have HF := Lib.hid hf
      have HE0 := Lib.hid herr
      clear hz herr hf
      go_wp2
      go_loopw [6, 7] (fun v i wr => ∃ (k : Nat) (B : Option Addr) (vc : Nat) (out : List Wr), k ≤ 8 ∧ i = .int .i64 k ∧ v = .slice B out.length vc ∧ Below w.heap.size w wr ∧ Hid (out = (List.range k).flatMap fun (v : Nat) => pickS l v (runsL (secsOf l v))) ∧ Hid (OwnW encWr wr w.heap.size w.heap.size 45 (.slice B out.length vc) out) ∧ Hid (out.length ≤ k * 4096)) (fun _ i _ => 8 - (intOf i).toNat)
      case atStart => exact ⟨0, none, 0, [], by omega, rfl, rfl, hB, by simp [Hid], OwnW.nil_, by simp [Hid]⟩
      case round =>
        obtain ⟨wp, rfl⟩ : ∃ wp : World, wp = wr := ⟨_, rfl⟩
        obtain ⟨k, B, vc, out, hk, rfl, rfl, hB2, hout, hown, hol⟩ := hrel
        clear hB
        by_cases hlt : k < 8
        · have hki : (k : Int) < 8 := by omega
          have hIk : I64 (k : Int) := by unfold I64; omega
          have hsz := hB2.size
          go_wp2_with fail
          refine ((refExtents_any A c l k wp (H1.out wp hB2) hs hIk).mono fun _ _ h => h.sl).mono ?_
          rintro e w1 ⟨Ae, ce, rfl, _, _, hse, hb1⟩
          have hB3 : Below w.heap.size w w1 := hB2.trans (hb1.mono hsz)
          obtain ⟨es, hes⟩ : ∃ es, es = runsL (secsOf l (k : Int)) := ⟨_, rfl⟩
          rw [← hes] at hse ⊢
          have hbd := runsL_bound 4096 (secsOf l k) (secsOf_mem l k)
          rw [← hes] at hbd
          have hel : es.length ≤ 4096 := Nat.le_trans hbd.2 (secsOf_len l k)
          have hbd1 := Lib.hid hbd.1
          have HE := Lib.hid hes; clear hes hbd
          go_wp2_with fail
          refine ((pick_any A Ae c ce l k es w1 (H1.out w1 hB3) hs hIk (hse.more fun _ h => h.2) hel hbd1.out).mono fun _ _ h => h.sl).mono ?_
          rintro e w2 ⟨Ap, cp, rfl, _, _, hsp, hb2⟩
          have hsz1 := hb1.size
          have hsz2 := hb2.size
          obtain ⟨ps, hps⟩ : ∃ ps, ps = pickS l k es := ⟨_, rfl⟩
          rw [← hps] at hsp ⊢
          have hpl : ps.length ≤ 4096 := by rw [hps]; simp [pickS]; exact hel
          have HPS := Lib.hid hps; clear hps
          have hown2 := (hown.out.below hb1).below hb2
          have HO := Lib.hid hown2; clear hown2
          have hsp2 := Lib.hid (OwnW.since (v := .slice B out.length vc) (lo := w.heap.size) hsp (by omega) (fun g hg => Nat.lt_of_lt_of_le (hown.out.lt g hg).2 hsz1))
          have holb : out.length ≤ 32768 := by have := hol.out; omega
          go_wp2_with (at_builtin; refine Hid.out ?_)
          change wpList _ _ _ _ _ _
          refine wpList_appAll (E := encWr) tyWrs rfl _ _ rfl rfl HO.out rfl rfl hsp2.out (fun _ h => h.1.2) (by omega) (by simp [maxLen]; omega) (by omega) ?_
          intro A' c' w5 hown5 hg5 hat5
          have hok5 := Lib.hid (OwnW.app hown5 hg5 hat5)
          go_wp2
          go_roundw
          case rel =>
            refine ⟨k + 1, A', c', out ++ ps, by omega, by go_num, by simp, ?_, ?_, ?_, ?_⟩
            · exact (hB3.trans (hb2.mono hB3.size)).grown hg5 (by omega) (fun g h => (hown.out.lt g h).1)
            · rw [List.range_succ, List.flatMap_append, ← hout.out, HPS.out, HE.out]; simp [Hid]
            · have := hok5.out; simpa [Hid] using this
            · have := hol.out; simp [Hid]; omega
          case measure => simp [intOf]; omega
        · have hkk : k = 8 := by omega
          subst hkk
          go_wp2
          go_ret2
          have e := hout.out
          rw [HE0.out, HF.out, foldS_eq, ← e]
          obtain ⟨_, p1, p2, p3⟩ := hown.out.parts
          exact ⟨B, vc, rfl, p1, p2, p3, hB2⟩
end Go.Proofs.YtgndgkjefgjamaaGreat

namespace Go.Proofs.YtgndgkjefgjamaaGreat
open Go.RowKit

end Go.Proofs.YtgndgkjefgjamaaGreat
namespace Go.Proofs.YtgndgkjefgjamaaGreat
open Go.RowKit Go.Shelf
attribute [local go_sem] Oper.semAt_some

theorem tySecs36 : SliceTy Tryz.prog 43 95 8 8 := sliceTy_mk (z := .agg #[.int .u8 0, .int .u8 0, .int .u8 0, .int .u8 0, .int .u8 0, .int .u8 0, .int .u8 0, .int .u8 0]) Tryz.underlying43 (by kernel_rfl) rfl (by decide)
end Go.Proofs.YtgndgkjefgjamaaGreat

namespace Go.Proofs.YtgndgkjefgjamaaGreat
open Go.RowKit Go.Shelf
attribute [local go_sem] Oper.semAt_some

end Go.Proofs.YtgndgkjefgjamaaGreat

namespace Go.Proofs.YtgndgkjefgjamaaGreat
open Go.RowKit Go.Shelf
attribute [local go_sem] Oper.semAt_some

set_option maxHeartbeats 4000000 in
theorem refCopy07_any (A : Option Addr) (c n : Nat) (l : Img) (w : World) (hn : l.length = n) (h1 : SlAt (encSl encSec) w (Bl w.heap.size) A l) (hl : n ≤ 100000) (hrow : ∀ r ∈ l, r.length ≤ 1000000) :
    Calls Tryz.prog 126 #[.slice A n c] w (RetSl (encSl encSec) l w) := by
  subst hn
  have H1 : Hid (∀ w', Below w.heap.size w w' → SlAt (encSl encSec) w' (Bl w.heap.size) A l) := fun w' hb => h1.below hb
  have HROW := Lib.hid hrow
  clear h1 hrow
  obtain ⟨n0, hn0⟩ : ∃ n0, w.heap.size = n0 := ⟨_, rfl⟩
  go_enter Tryz.func126, Tryz.ntmps126
  go_wp2
  go_loopw [3, 4] (fun v i wr => ∃ (k : Nat) (B : Option Addr) (vc : Nat) (out : Img), k ≤ l.length ∧ i = .int .i64 k ∧ v = .slice B k vc ∧ Below n0 w wr ∧ n0 ≤ wr.heap.size ∧ Hid (out = l.take k) ∧ Hid (out.length = k) ∧ Hid (OwnX (fun _ => False) (encSl encSec) wr n0 43 (.slice B k vc) out)) (fun _ i _ => l.length - (intOf i).toNat)
  case atStart => exact ⟨0, none, 0, [], by omega, rfl, rfl, Below.refl _ _, by omega, by simp [Hid], rfl, OwnX.nil_⟩
  case round =>
    obtain ⟨wo, rfl⟩ : ∃ wo : World, wo = wr := ⟨_, rfl⟩
    obtain ⟨k, B, vc, out, hk, rfl, rfl, hB, hsz, hout, hlen, hown⟩ := hrel
    by_cases hlt : k < l.length
    · have hnn : (0 : Int) ≤ k := by omega
      have hki : (k : Int) < l.length := by omega
      obtain ⟨b, off, D, dc, rfl, hb, g0, hD, hd1, hd2⟩ := (H1.out wo (by rw [hn0]; exact hB)).sl hlt
      have hrl := HROW.out l[k] (List.getElem_mem hlt)
      have hst : Hid (l.take (k + 1) = l.take k ++ [l[k]]) := List.take_succ_eq_append_getElem hlt
      obtain ⟨row, hrw⟩ : ∃ x, l[k] = x := ⟨_, rfl⟩
      rw [hrw] at g0 hD hd1 hrl hst
      have HD := Lib.hid (hD.more (S' := fun g => g < wo.heap.size) (fun g hg => by have : g < w.heap.size := hg; omega))
      have hlt1 := Lib.hid hown.out.lt
      clear hrw hD
      go_wp2_with (at_builtin; refine Hid.out ?_)
      change wpList _ _ _ _ _ _
      refine wpList_appAll (E := encSec) tySecs36 rfl _ _ rfl rfl (Own.nil_ (w := wo) (base := wo.heap.size) (e := 95) (S := fun g => g < wo.heap.size)) (news := row) rfl rfl HD.out (fun _ h => h) (Nat.le_refl _) (by unfold maxLen; simp; omega) (by simp; omega) ?_
      intro A4 c4 w4 hown4 hg4 hat4
      have hown4' : Own encSec w4 wo.heap.size 95 (fun g => g < wo.heap.size) (.slice A4 row.length c4) row := by simpa using hown4
      have hg4' : wo.grownBy w4 none := hg4
      have hx4 : Below wo.heap.size wo w4 := (Below.refl _ _).grown hg4' (Nat.le_refl _) (fun k e => by cases e)
      have hox4 : OwnX (fun _ => False) encSec w4 wo.heap.size 95 (.slice A4 row.length c4) row := ⟨(Own.flat hown4' (fun h => h)).more (fun _ h => h.elim) (fun g hg hS => hS.2.2 hg), fun _ _ h => h⟩
      obtain ⟨_, q1, q2, q3⟩ := hox4.parts
      have hz4 := hx4.size
      have hO4 := Lib.hid ((hown.out.below hx4).alloc (.cells #[.slice A4 row.length c4] 43))
      have hO4o := Lib.hid hO4.out.1
      have HRD : Hid ((encSl encSec).rd (w4.alloc (.cells #[.slice A4 row.length c4] 43)) (fun g => Nw n0 (w4.alloc (.cells #[.slice A4 row.length c4] 43)).heap.size g ∧ ¬ False ∧ (Value.slice B k vc).ownBlock ≠ some g) [.slice A4 row.length c4] row) :=
        ⟨A4, c4, rfl, q1, q2, (q3.blk (fun g hg => Below.heap_alloc _ _ _ hg.1.2)).more (fun g hg => ⟨⟨by have := hg.1.1; omega, by have := hg.1.2; simp; omega⟩, fun h => h, fun e => by have := (hlt1.out g e).2; have := hg.1.1; omega⟩)⟩
      clear hown4 hg4 hat4 hown4' hg4' hox4 q1 q2 q3
      simp only [List.length_nil, Nat.zero_add]
      go_wp2_with (at_builtin; refine Hid.out ?_)
      change wpList _ _ _ _ _ _
      refine wpList_app1 (E := encSl encSec) tyImage rfl _ _ rfl rfl hO4o.out row [.slice A4 row.length c4] rfl HRD.out (heap_alloc_new _ _) (fun _ h => h.1.2) (by simp; omega) (by unfold maxLen; rw [hlen.out]; omega) (by rw [hlen.out]; omega) ?_
      intro A5 c5 w5 hown5 hg5 hat5
      rw [hlen.out] at hown5 hat5
      rw [hlen.out]
      have hO5 : Hid (OwnX (fun _ => False) (encSl encSec) w5 n0 43 (.slice A5 (k + 1) c5) (out ++ [row])) := hO4.out.app hown5 hg5 hat5 (fun g hg => hg.elim)
      have hlo := hO4.out.lt
      have hz5 := hg5.size
      have hB5 : Below n0 w w5 := (((hB.trans (hx4.mono hsz))).alloc (by omega) (.cells #[.slice A4 row.length c4] 43)).grown hg5 (by simp; omega) (fun g h => (hlo g h).1)
      have hz6 : n0 ≤ w5.heap.size := by simp at hz5; omega
      clear hown5 hg5 hat5 hO4 hO4o HRD hlo hz5
      go_wp2
      go_roundw
      case rel => exact ⟨k + 1, A5, c5, out ++ [row], hlt, by go_num, rfl, hB5, hz6, by rw [Hid, hst.out, hout.out], by rw [Hid, List.length_append, hlen.out]; rfl, hO5.out⟩
      case measure => simp [intOf]; omega
    · have hkk : k = l.length := by omega
      subst hkk
      rw [List.take_length] at hout
      go_wp2
      go_ret
      obtain ⟨_, p1, p2, p3⟩ := hown.out.parts
      rw [hout.out] at p1 p3
      exact ⟨B, vc, rfl, p1, p2, p3.more (fun g hg => ⟨by have := hg.1.1; omega, hg.1.2⟩), by rw [hn0]; exact hB⟩
end Go.Proofs.YtgndgkjefgjamaaGreat

namespace Go.Proofs.YtgndgkjefgjamaaGreat
open Go.RowKit Go.Shelf
attribute [local go_sem] Oper.semAt_some

end Go.Proofs.YtgndgkjefgjamaaGreat

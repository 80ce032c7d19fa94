/-
  The walks of the small functions of coalesce: placed, behind, before, and of cmp.Compare, cmp.Or.
  The walks of Few, FitsSizes, Most, holds, Sectors, Sizes.
  The walks of FitsSizes, Most, holds, Sectors, Sizes.
  The walks of Most, holds, Sectors, Sizes, write.
-/
import Derived.Test.YtnkmklnlaepdeaaMap
import Derived.Test.YtnkmklnlaepdeaaLaws
set_option linter.unusedVariables false
set_option linter.unusedSimpArgs false
set_option linter.unusedSectionVars false
set_option linter.unnecessarySimpa false
namespace Go.Proofs.Ytnkmklnlaepdeaa
open Go.RowKit

def placedN (x : Wr) : Int := if x.1 < 0 ∨ x.1 ≥ 8 then 7 else if x.2.2.length = 0 then 1 else if x.2.1 < 0 ∨ x.2.1 > 4096 - x.2.2.length then 2 else 0

theorem placed_any (v s : Int) (n : Nat) (D : Option Addr) (c : Nat) (w : World) (hn : n ≤ 9223372036854775807) (data : List Sec) (hd : data.length = n) :
    Calls Try.prog 89 #[.agg #[.int .i64 v, .int .i64 s, .slice D n c]] w fun e w' => e = .returned (.int .i64 (placedN (v, s, data))) ∧ Below w.heap.size w w' := by
  have HD := Lib.hid hd; clear hd
  go_enter Try.func89, Try.ntmps89
  go_wp2
  all_goals go_ret
  all_goals refine ⟨ret_int ?_, (Below.refl _ _).alloc (Nat.le_refl _) _⟩
  all_goals (have := HD.out; simp only [placedN]; simp_all; try omega)
theorem behind_any (v s : Int) (w : World) (h1 : -9223372036854775808 ≤ s) (h2 : s < 9223372036854775807) :
    Calls Try.prog 95 #[.agg #[.int .i64 v, .int .i64 s]] w fun e w' => e = .returned (.agg #[.int .i64 v, .int .i64 (s + 1)]) ∧ Below w.heap.size w w' := by
  go_enter Try.func95, Try.ntmps95
  go_wp2
  exact bodyPost_ret (v := .agg #[.int .i64 v, .int .i64 (s + 1)]) (by simp [results, Try.results95, go_sem]) rfl ⟨rfl, ((Below.refl _ _).alloc (Nat.le_refl _) _).alloc (by simp) _⟩
def orI (x y : Int) : Int := if x ≠ 0 then x else y
theorem or2_any (x y : Int) (c b : Nat) (w : World) (h0 : w.cell? ⟨b, 0, none⟩ = some (.int .i64 x)) (h1 : w.cell? ⟨b, 1, none⟩ = some (.int .i64 y)) :
    Calls Try.prog 100 #[.slice (some ⟨b, 0, none⟩) 2 c] w fun e w' => e = .returned (.int .i64 (orI x y)) ∧ w' = w := by
  go_enter Try.func100, Try.ntmps100
  go_wp2
  go_loopw [5, 8] (fun _ i wr => wr = w ∧ (i = .int .i64 0 ∨ (i = .int .i64 1 ∧ Hid (x = 0)) ∨ (i = .int .i64 2 ∧ Hid (x = 0) ∧ Hid (y = 0)))) (fun _ i _ => 2 - (intOf i).toNat)
  case atStart => exact ⟨rfl, Or.inl rfl⟩
  case round =>
    obtain ⟨rfl, rfl | ⟨rfl, hx⟩ | ⟨rfl, hx, hy⟩⟩ := hrel
    · by_cases hx : x = 0
      · have hx' : (x != 0) = false := by simp [hx]
        have HX := Lib.hid hx; clear hx
        go_wp2
        go_roundw
        case rel => exact ⟨by trivial, Or.inr (Or.inl ⟨rfl, HX.out⟩)⟩
        case measure => simp [intOf]
      · have hx' : (x != 0) = true := by simp [hx]
        have HX := Lib.hid hx; clear hx
        go_wp2
        go_ret
        exact ⟨ret_int (by have := HX.out; simp_all [orI]), rfl⟩
    · by_cases hy : y = 0
      · have hy' : (y != 0) = false := by simp [hy]
        have HY := Lib.hid hy; clear hy
        go_wp2
        go_roundw
        case rel => exact ⟨by trivial, Or.inr (Or.inr ⟨rfl, hx, HY.out⟩)⟩
        case measure => simp [intOf]
      · have hy' : (y != 0) = true := by simp [hy]
        have HY := Lib.hid hy; clear hy
        go_wp2
        go_ret
        exact ⟨ret_int (by have := hx.out; simp_all [orI]), rfl⟩
    · go_wp2
      go_ret
      exact ⟨ret_int (by have h1 := hx.out; have h2 := hy.out; simp_all [orI]), rfl⟩
def befI (p q : Pl) : Int := orI (cmpI p.1 q.1) (cmpI p.2 q.2)
theorem before_any (p q : Pl) (w : World) :
    Calls Try.prog 97 #[plV p, plV q] w fun e w' => e = .returned (.int .i64 (befI p q)) ∧ Below w.heap.size w w' := by
  obtain ⟨a, b⟩ := p
  obtain ⟨c, d⟩ := q
  simp only [plV]
  go_enter Try.func97, Try.ntmps97
  go_wp2_with fail
  go_region_held3 (fun w' => w'.cell? ⟨w.heap.size, 0, none⟩ = some (.int .i64 a) ∧ w'.cell? ⟨w.heap.size, 1, none⟩ = some (.int .i64 b) ∧ w'.cell? ⟨w.heap.size + 1, 0, none⟩ = some (.int .i64 c) ∧ w'.cell? ⟨w.heap.size + 1, 1, none⟩ = some (.int .i64 d)) (go_keep)
    (first | (go_at_call 101; refine (compare_any _ _ _).mono ?_; rintro e w' ⟨rfl, rfl⟩) | (go_at_call 100; refine (or2_any (cmpI a c) (cmpI b d) _ _ _ ?_ ?_).mono ?_; go_simp; go_simp; rintro e w' ⟨rfl, rfl⟩))
  go_wp2
  go_ret
  refine ⟨ret_int rfl, ?_⟩
  exact ((((Below.refl _ _).alloc (Nat.le_refl _) _).alloc (by simp) _).alloc (by simp; omega) _).drew
end Go.Proofs.Ytnkmklnlaepdeaa

namespace Go.Proofs.Ytnkmklnlaepdeaa
open Go.RowKit

def fewL (l : List Wr) : Bool := l.length ≤ 40 && (l.all fun x => x.2.2.length ≤ 24)
theorem few_any (A : Option Addr) (c : Nat) (S : Nat → Prop) (l : List Wr) (w : World) (h1 : SlAt encWr w S A l) (hs : l.length ≤ 9223372036854775807) :
    Calls Try.prog 41 #[.slice A l.length c] w fun e w' => e = .returned (.bool (fewL l)) ∧ w' = w := by
  go_enter Try.func41, Try.ntmps41
  go_wp2
  go_loopw [3] (fun i wr => wr = w ∧ ∃ k : Nat, k ≤ l.length ∧ k ≤ 60 ∧ i = .int .i64 k ∧ Hid (∀ x ∈ l.take k, x.2.2.length ≤ 24)) (fun i _ => 60 - (intOf i).toNat)
  case atStart => exact ⟨rfl, 0, by omega, by omega, rfl, by simp [Hid]⟩
  case round =>
    obtain ⟨rfl, k, hk, hk2, rfl, hp⟩ := hrel
    have HP := Lib.hid hp.out; clear hp
    by_cases hlt : k < l.length
    · by_cases hlt2 : k < 60
      · obtain ⟨b, off, D, dc, rfl, hb, g0, g1, g2, hD, hn1, hn2, _, _⟩ := h1.wr hlt
        have hnn : (0 : Int) ≤ k := by omega
        have hki : (k : Int) < l.length := by omega
        have hki2 : (k : Int) < 60 := by omega
        unfold maxLen at hn2
        by_cases hd : l[k].2.2.length ≤ 24
        · have hd' : ((24 : Int) < (l[k].2.2.length : Int)) = False := by simp; omega
          have HDD := Lib.hid hd; clear hd
          go_wp2
          go_roundw
          case rel =>
            refine ⟨by trivial, k + 1, hlt, hlt2, by go_num, ?_⟩
            intro x hx
            rw [List.take_succ_eq_append_getElem hlt] at hx
            rcases List.mem_append.1 hx with hx | hx
            · exact HP.out x hx
            · rw [List.mem_singleton.1 hx]; exact HDD.out
          case measure => simp [intOf]; omega
        · have hd' : ((24 : Int) < (l[k].2.2.length : Int)) = True := by simp; omega
          have HDD := Lib.hid hd; clear hd
          go_wp2
          go_ret
          refine ⟨ret_bool ?_, rfl⟩
          rw [eq_comm, fewL, Bool.and_eq_false_iff]
          right
          rw [List.all_eq_false]
          exact ⟨l[k], List.getElem_mem hlt, by have := HDD.out; simpa using this⟩
      · have : ¬ ((k : Int) < 60) := by omega
        have hki : (k : Int) < l.length := by omega
        have hL : ¬ ((l.length : Int) ≤ 40) := by omega
        go_wp2
        go_ret
        refine ⟨ret_bool ?_, rfl⟩
        rw [eq_comm, fewL]
        simp
        omega
    · have hkk : k = l.length := by omega
      have HK := Lib.hid hkk
      have hki : ¬ ((k : Int) < l.length) := by omega
      clear hkk
      go_wp2
      go_ret
      refine ⟨ret_bool ?_, rfl⟩
      have h3 := HP.out
      rw [HK.out, List.take_length] at h3
      have : (l.all fun x => decide (x.2.2.length ≤ 24)) = true := List.all_eq_true.2 (fun x hx => by simpa using h3 x hx)
      simp [fewL, this]
      omega
/-- the sum of the numbers of sectors -/
def sectsL (l : List Wr) : Nat := (l.map (·.2.2.length)).sum
theorem sectsL_snoc (l : List Wr) (x : Wr) : sectsL (l ++ [x]) = sectsL l + x.2.2.length := by simp [sectsL]
end Go.Proofs.Ytnkmklnlaepdeaa

namespace Go.Proofs.Ytnkmklnlaepdeaa
open Go.RowKit

def fitsN (sz : List Int) (x : Wr) : Int := if x.1 < 0 ∨ x.1 ≥ sz.length then 7 else if x.2.2.length = 0 then 1 else if x.2.1 < 0 ∨ x.2.1 ≥ sz.getD x.1.toNat 0 ∨ x.2.2.length > sz.getD x.1.toNat 0 - x.2.1 then 2 else 0

section
variable {sz : List Int} {k : Nat} {s : Int} {data : List Sec}
theorem fitsN_7 {v : Int} (h : v < 0 ∨ sz.length ≤ v) : fitsN sz (v, s, data) = 7 := by unfold fitsN; exact if_pos h
theorem fitsN_1 (hk : k < sz.length) (h : data.length = 0) : fitsN sz ((k : Int), s, data) = 1 := by
  unfold fitsN; rw [if_neg (by simp; omega)]; exact if_pos h
theorem fitsN_2 (hk : k < sz.length) (h : data.length ≠ 0) (h2 : s < 0 ∨ sz[k] ≤ s ∨ sz[k] - s < data.length) : fitsN sz ((k : Int), s, data) = 2 := by
  have hg : sz.getD (k : Int).toNat 0 = sz[k] := by simp [hk]
  unfold fitsN
  simp only [hg]
  rw [if_neg (by omega), if_neg (by simpa using h), if_pos h2]
theorem fitsN_0 (hk : k < sz.length) (h : data.length ≠ 0) (h2 : ¬ (s < 0 ∨ sz[k] ≤ s ∨ sz[k] - s < data.length)) : fitsN sz ((k : Int), s, data) = 0 := by
  have hg : sz.getD (k : Int).toNat 0 = sz[k] := by simp [hk]
  unfold fitsN
  simp only [hg]
  rw [if_neg (by omega), if_neg (by simpa using h), if_neg h2]
end
end Go.Proofs.Ytnkmklnlaepdeaa

namespace Go.Proofs.Ytnkmklnlaepdeaa
open Go.RowKit

theorem tyInts : SliceTy Try.prog 30 3 1 8 := sliceTy_mk (z := .int .i64 0) Try.underlying30 (by kernel_rfl) rfl (by decide)
theorem tySecs : SliceTy Try.prog 73 72 8 8 := sliceTy_mk (z := .agg #[.int .u8 0, .int .u8 0, .int .u8 0, .int .u8 0, .int .u8 0, .int .u8 0, .int .u8 0, .int .u8 0]) Try.underlying73 (by kernel_rfl) rfl (by decide)
theorem tyWrs : SliceTy Try.prog 61 102 3 40 := sliceTy_mk (z := .agg #[.int .i64 0, .int .i64 0, .slice none 0 0]) Try.underlying61 (by kernel_rfl) rfl (by decide)

end Go.Proofs.Ytnkmklnlaepdeaa

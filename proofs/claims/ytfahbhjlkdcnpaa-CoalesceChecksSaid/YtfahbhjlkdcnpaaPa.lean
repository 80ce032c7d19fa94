/-
  The walks of the small functions of coalesce: placed, behind, before, and of cmp.Compare, cmp.Or.
-/
import Derived.Test.YtfahbhjlkdcnpaaMap
set_option linter.unusedVariables false
set_option linter.unusedSimpArgs false
set_option linter.unusedSectionVars false
set_option linter.unnecessarySimpa false
namespace Go.Proofs.Ytfahbhjlkdcnpaa
open Go.RowKit

def placedN (x : Wr) : Int := if x.1 < 0 ∨ x.1 ≥ 8 then 7 else if x.2.2.length = 0 then 1 else if x.2.1 < 0 ∨ x.2.1 > 4096 - x.2.2.length then 2 else 0
def cmpI (a b : Int) : Int := if a < b then -1 else if b < a then 1 else 0

theorem placed_any (v s : Int) (n : Nat) (D : Option Addr) (c : Nat) (w : World) (hn : n ≤ 9223372036854775807) (data : List Sec) (hd : data.length = n) :
    Calls Try.prog 37 #[.agg #[.int .i64 v, .int .i64 s, .slice D n c]] w fun e w' => e = .returned (.int .i64 (placedN (v, s, data))) ∧ Below w.heap.size w w' := by
  have HD := Lib.hid hd; clear hd
  go_enter Try.func37, Try.ntmps37
  go_wp2
  all_goals go_ret
  all_goals refine ⟨ret_int ?_, (Below.refl _ _).alloc (Nat.le_refl _) _⟩
  all_goals (have := HD.out; simp only [placedN]; simp_all; try omega)
theorem compare_any (a b : Int) (w : World) :
    Calls Try.prog 90 #[.int .i64 a, .int .i64 b] w fun e w' => e = .returned (.int .i64 (cmpI a b)) ∧ w' = w := by
  go_enter Try.func90, Try.ntmps90
  go_wp2
  all_goals go_ret
  all_goals refine ⟨ret_int ?_, rfl⟩
  all_goals (simp only [cmpI]; simp_all; try omega)

theorem behind_any (v s : Int) (w : World) (h1 : -9223372036854775808 ≤ s) (h2 : s < 9223372036854775807) :
    Calls Try.prog 68 #[.agg #[.int .i64 v, .int .i64 s]] w fun e w' => e = .returned (.agg #[.int .i64 v, .int .i64 (s + 1)]) ∧ Below w.heap.size w w' := by
  go_enter Try.func68, Try.ntmps68
  go_wp2
  exact bodyPost_ret (v := .agg #[.int .i64 v, .int .i64 (s + 1)]) (by simp [results, Try.results68, go_sem]) rfl ⟨rfl, ((Below.refl _ _).alloc (Nat.le_refl _) _).alloc (by simp) _⟩
def orI (x y : Int) : Int := if x ≠ 0 then x else y
theorem or2_any (x y : Int) (c b : Nat) (w : World) (h0 : w.cell? ⟨b, 0, none⟩ = some (.int .i64 x)) (h1 : w.cell? ⟨b, 1, none⟩ = some (.int .i64 y)) :
    Calls Try.prog 89 #[.slice (some ⟨b, 0, none⟩) 2 c] w fun e w' => e = .returned (.int .i64 (orI x y)) ∧ w' = w := by
  go_enter Try.func89, Try.ntmps89
  go_wp2
  go_loopw [5, 8] (fun _ i wr => wr = w ∧ (i = .int .i64 0 ∨ (i = .int .i64 1 ∧ Hid (x = 0)) ∨ (i = .int .i64 2 ∧ Hid (x = 0) ∧ Hid (y = 0)))) (fun _ i _ => 2 - (intOf i).toNat)
  case atStart => exact ⟨rfl, Or.inl rfl⟩
  case round =>
    obtain ⟨rfl, rfl | ⟨rfl, hx⟩ | ⟨rfl, hx, hy⟩⟩ := hrel
    · by_cases hx : x = 0
      · have hx' : (x != 0) = false := by simp [hx]
        have HX := Lib.hid hx; clear hx
        go_wp2
        go_roundw
        case rel => exact ⟨by trivial, Or.inr (Or.inl ⟨rfl, HX.out⟩)⟩
        case measure => simp [intOf]
      · have hx' : (x != 0) = true := by simp [hx]
        have HX := Lib.hid hx; clear hx
        go_wp2
        go_ret
        exact ⟨ret_int (by have := HX.out; simp_all [orI]), rfl⟩
    · by_cases hy : y = 0
      · have hy' : (y != 0) = false := by simp [hy]
        have HY := Lib.hid hy; clear hy
        go_wp2
        go_roundw
        case rel => exact ⟨by trivial, Or.inr (Or.inr ⟨rfl, hx, HY.out⟩)⟩
        case measure => simp [intOf]
      · have hy' : (y != 0) = true := by simp [hy]
        have HY := Lib.hid hy; clear hy
        go_wp2
        go_ret
        exact ⟨ret_int (by have := hx.out; simp_all [orI]), rfl⟩
    · go_wp2
      go_ret
      exact ⟨ret_int (by have h1 := hx.out; have h2 := hy.out; simp_all [orI]), rfl⟩
def befI (p q : Pl) : Int := orI (cmpI p.1 q.1) (cmpI p.2 q.2)
theorem before_any (p q : Pl) (w : World) :
    Calls Try.prog 70 #[plV p, plV q] w fun e w' => e = .returned (.int .i64 (befI p q)) ∧ Below w.heap.size w w' := by
  obtain ⟨a, b⟩ := p
  obtain ⟨c, d⟩ := q
  simp only [plV]
  go_enter Try.func70, Try.ntmps70
  go_wp2_with fail
  go_region_held3 (fun w' => w'.cell? ⟨w.heap.size, 0, none⟩ = some (.int .i64 a) ∧ w'.cell? ⟨w.heap.size, 1, none⟩ = some (.int .i64 b) ∧ w'.cell? ⟨w.heap.size + 1, 0, none⟩ = some (.int .i64 c) ∧ w'.cell? ⟨w.heap.size + 1, 1, none⟩ = some (.int .i64 d)) (go_keep)
    (first | (go_at_call 90; refine (compare_any _ _ _).mono ?_; rintro e w' ⟨rfl, rfl⟩) | (go_at_call 89; refine (or2_any (cmpI a c) (cmpI b d) _ _ _ ?_ ?_).mono ?_; go_simp; go_simp; rintro e w' ⟨rfl, rfl⟩))
  go_wp2
  go_ret
  refine ⟨ret_int rfl, ?_⟩
  exact ((((Below.refl _ _).alloc (Nat.le_refl _) _).alloc (by simp) _).alloc (by simp; omega) _).drew
end Go.Proofs.Ytfahbhjlkdcnpaa

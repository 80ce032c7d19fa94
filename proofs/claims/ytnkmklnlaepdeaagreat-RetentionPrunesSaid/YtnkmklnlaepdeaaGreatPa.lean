/-
  The walks of the small functions of coalesce: placed, behind, before, and of cmp.Compare, cmp.Or.
  The walks of Few, FitsSizes, Most, holds, Sectors, Sizes.
  The walks of FitsSizes, Most, holds, Sectors, Sizes.
  The walks of Most, holds, Sectors, Sizes, write.
-/
import Derived.Test.YtnkmklnlaepdeaaGreatMap
import Derived.Test.YtnkmklnlaepdeaaGreatLaws
set_option linter.unusedVariables false
set_option linter.unusedSimpArgs false
set_option linter.unusedSectionVars false
set_option linter.unnecessarySimpa false
namespace Go.Proofs.YtnkmklnlaepdeaaGreat
open Go.RowKit

def placedN (x : Wr) : Int := if x.1 < 0 ∨ x.1 ≥ 8 then 7 else if x.2.2.length = 0 then 1 else if x.2.1 < 0 ∨ x.2.1 > 4096 - x.2.2.length then 2 else 0

theorem placed_any (v s : Int) (n : Nat) (D : Option Addr) (c : Nat) (w : World) (hn : n ≤ 9223372036854775807) (data : List Sec) (hd : data.length = n) :
    Calls Tryz.prog 86 #[.agg #[.int .i64 v, .int .i64 s, .slice D n c]] w fun e w' => e = .returned (.int .i64 (placedN (v, s, data))) ∧ Below w.heap.size w w' := by
  have HD := Lib.hid hd; clear hd
  go_enter Tryz.func86, Tryz.ntmps86
  go_wp2
  all_goals go_ret
  all_goals refine ⟨ret_int ?_, (Below.refl _ _).alloc (Nat.le_refl _) _⟩
  all_goals (have := HD.out; simp only [placedN]; simp_all; try omega)
theorem behind_any (v s : Int) (w : World) (h1 : -9223372036854775808 ≤ s) (h2 : s < 9223372036854775807) :
    Calls Tryz.prog 94 #[.agg #[.int .i64 v, .int .i64 s]] w fun e w' => e = .returned (.agg #[.int .i64 v, .int .i64 (s + 1)]) ∧ Below w.heap.size w w' := by
  go_enter Tryz.func94, Tryz.ntmps94
  go_wp2
  exact bodyPost_ret (v := .agg #[.int .i64 v, .int .i64 (s + 1)]) (by simp [results, Tryz.results94, go_sem]) rfl ⟨rfl, ((Below.refl _ _).alloc (Nat.le_refl _) _).alloc (by simp) _⟩
def orI (x y : Int) : Int := if x ≠ 0 then x else y
theorem or2_any (x y : Int) (c b : Nat) (w : World) (h0 : w.cell? ⟨b, 0, none⟩ = some (.int .i64 x)) (h1 : w.cell? ⟨b, 1, none⟩ = some (.int .i64 y)) :
    Calls Tryz.prog 102 #[.slice (some ⟨b, 0, none⟩) 2 c] w fun e w' => e = .returned (.int .i64 (orI x y)) ∧ w' = w := by
  go_enter Tryz.func102, Tryz.ntmps102
  go_wp2
  go_loopw [5, 8] (fun _ i wr => wr = w ∧ (i = .int .i64 0 ∨ (i = .int .i64 1 ∧ Hid (x = 0)) ∨ (i = .int .i64 2 ∧ Hid (x = 0) ∧ Hid (y = 0)))) (fun _ i _ => 2 - (intOf i).toNat)
  case atStart => exact ⟨rfl, Or.inl rfl⟩
  case round =>
    obtain ⟨rfl, rfl | ⟨rfl, hx⟩ | ⟨rfl, hx, hy⟩⟩ := hrel
    · by_cases hx : x = 0
      · have hx' : (x != 0) = false := by simp [hx]
        have HX := Lib.hid hx; clear hx
        go_wp2
        go_roundw
        case rel => exact ⟨by trivial, Or.inr (Or.inl ⟨rfl, HX.out⟩)⟩
        case measure => simp [intOf]
      · have hx' : (x != 0) = true := by simp [hx]
        have HX := Lib.hid hx; clear hx
        go_wp2
        go_ret
        exact ⟨ret_int (by have := HX.out; simp_all [orI]), rfl⟩
    · by_cases hy : y = 0
      · have hy' : (y != 0) = false := by simp [hy]
        have HY := Lib.hid hy; clear hy
        go_wp2
        go_roundw
        case rel => exact ⟨by trivial, Or.inr (Or.inr ⟨rfl, hx, HY.out⟩)⟩
        case measure => simp [intOf]
      · have hy' : (y != 0) = true := by simp [hy]
        have HY := Lib.hid hy; clear hy
        go_wp2
        go_ret
        exact ⟨ret_int (by have := hx.out; simp_all [orI]), rfl⟩
    · go_wp2
      go_ret
      exact ⟨ret_int (by have h1 := hx.out; have h2 := hy.out; simp_all [orI]), rfl⟩
def befI (p q : Pl) : Int := orI (cmpI p.1 q.1) (cmpI p.2 q.2)
theorem before_any (p q : Pl) (w : World) :
    Calls Tryz.prog 96 #[plV p, plV q] w fun e w' => e = .returned (.int .i64 (befI p q)) ∧ Below w.heap.size w w' := by
  obtain ⟨a, b⟩ := p
  obtain ⟨c, d⟩ := q
  simp only [plV]
  go_enter Tryz.func96, Tryz.ntmps96
  go_wp2_with fail
  go_region_held3 (fun w' => w'.cell? ⟨w.heap.size, 0, none⟩ = some (.int .i64 a) ∧ w'.cell? ⟨w.heap.size, 1, none⟩ = some (.int .i64 b) ∧ w'.cell? ⟨w.heap.size + 1, 0, none⟩ = some (.int .i64 c) ∧ w'.cell? ⟨w.heap.size + 1, 1, none⟩ = some (.int .i64 d)) (go_keep)
    (first | (go_at_call 103; refine (compare_any _ _ _).mono ?_; rintro e w' ⟨rfl, rfl⟩) | (go_at_call 102; refine (or2_any (cmpI a c) (cmpI b d) _ _ _ ?_ ?_).mono ?_; go_simp; go_simp; rintro e w' ⟨rfl, rfl⟩))
  go_wp2
  go_ret
  refine ⟨ret_int rfl, ?_⟩
  exact ((((Below.refl _ _).alloc (Nat.le_refl _) _).alloc (by simp) _).alloc (by simp; omega) _).drew
end Go.Proofs.YtnkmklnlaepdeaaGreat

namespace Go.Proofs.YtnkmklnlaepdeaaGreat
open Go.RowKit

def fewL (l : List Wr) : Bool := l.length ≤ 40 && (l.all fun x => x.2.2.length ≤ 24)
theorem few_any (A : Option Addr) (c : Nat) (S : Nat → Prop) (l : List Wr) (w : World) (h1 : SlAt encWr w S A l) (hs : l.length ≤ 9223372036854775807) :
    Calls Tryz.prog 10 #[.slice A l.length c] w fun e w' => e = .returned (.bool (fewL l)) ∧ w' = w := by
  go_enter Tryz.func10, Tryz.ntmps10
  go_wp2
  go_loopw [3] (fun i wr => wr = w ∧ ∃ k : Nat, k ≤ l.length ∧ k ≤ 60 ∧ i = .int .i64 k ∧ Hid (∀ x ∈ l.take k, x.2.2.length ≤ 24)) (fun i _ => 60 - (intOf i).toNat)
  case atStart => exact ⟨rfl, 0, by omega, by omega, rfl, by simp [Hid]⟩
  case round =>
    obtain ⟨rfl, k, hk, hk2, rfl, hp⟩ := hrel
    have HP := Lib.hid hp.out; clear hp
    by_cases hlt : k < l.length
    · by_cases hlt2 : k < 60
      · obtain ⟨b, off, D, dc, rfl, hb, g0, g1, g2, hD, hn1, hn2, _, _⟩ := h1.wr hlt
        have hnn : (0 : Int) ≤ k := by omega
        have hki : (k : Int) < l.length := by omega
        have hki2 : (k : Int) < 60 := by omega
        unfold maxLen at hn2
        by_cases hd : l[k].2.2.length ≤ 24
        · have hd' : ((24 : Int) < (l[k].2.2.length : Int)) = False := by simp; omega
          have HDD := Lib.hid hd; clear hd
          go_wp2
          go_roundw
          case rel =>
            refine ⟨by trivial, k + 1, hlt, hlt2, by go_num, ?_⟩
            intro x hx
            rw [List.take_succ_eq_append_getElem hlt] at hx
            rcases List.mem_append.1 hx with hx | hx
            · exact HP.out x hx
            · rw [List.mem_singleton.1 hx]; exact HDD.out
          case measure => simp [intOf]; omega
        · have hd' : ((24 : Int) < (l[k].2.2.length : Int)) = True := by simp; omega
          have HDD := Lib.hid hd; clear hd
          go_wp2
          go_ret
          refine ⟨ret_bool ?_, rfl⟩
          rw [eq_comm, fewL, Bool.and_eq_false_iff]
          right
          rw [List.all_eq_false]
          exact ⟨l[k], List.getElem_mem hlt, by have := HDD.out; simpa using this⟩
      · have : ¬ ((k : Int) < 60) := by omega
        have hki : (k : Int) < l.length := by omega
        have hL : ¬ ((l.length : Int) ≤ 40) := by omega
        go_wp2
        go_ret
        refine ⟨ret_bool ?_, rfl⟩
        rw [eq_comm, fewL]
        simp
        omega
    · have hkk : k = l.length := by omega
      have HK := Lib.hid hkk
      have hki : ¬ ((k : Int) < l.length) := by omega
      clear hkk
      go_wp2
      go_ret
      refine ⟨ret_bool ?_, rfl⟩
      have h3 := HP.out
      rw [HK.out, List.take_length] at h3
      have : (l.all fun x => decide (x.2.2.length ≤ 24)) = true := List.all_eq_true.2 (fun x hx => by simpa using h3 x hx)
      simp [fewL, this]
      omega
/-- the sum of the numbers of sectors -/
def sectsL (l : List Wr) : Nat := (l.map (·.2.2.length)).sum
theorem sectsL_snoc (l : List Wr) (x : Wr) : sectsL (l ++ [x]) = sectsL l + x.2.2.length := by simp [sectsL]
end Go.Proofs.YtnkmklnlaepdeaaGreat

namespace Go.Proofs.YtnkmklnlaepdeaaGreat
open Go.RowKit

def fitsN (sz : List Int) (x : Wr) : Int := if x.1 < 0 ∨ x.1 ≥ sz.length then 7 else if x.2.2.length = 0 then 1 else if x.2.1 < 0 ∨ x.2.1 ≥ sz.getD x.1.toNat 0 ∨ x.2.2.length > sz.getD x.1.toNat 0 - x.2.1 then 2 else 0

section
variable {sz : List Int} {k : Nat} {s : Int} {data : List Sec}
theorem fitsN_7 {v : Int} (h : v < 0 ∨ sz.length ≤ v) : fitsN sz (v, s, data) = 7 := by unfold fitsN; exact if_pos h
theorem fitsN_1 (hk : k < sz.length) (h : data.length = 0) : fitsN sz ((k : Int), s, data) = 1 := by
  unfold fitsN; rw [if_neg (by simp; omega)]; exact if_pos h
theorem fitsN_2 (hk : k < sz.length) (h : data.length ≠ 0) (h2 : s < 0 ∨ sz[k] ≤ s ∨ sz[k] - s < data.length) : fitsN sz ((k : Int), s, data) = 2 := by
  have hg : sz.getD (k : Int).toNat 0 = sz[k] := by simp [hk]
  unfold fitsN
  simp only [hg]
  rw [if_neg (by omega), if_neg (by simpa using h), if_pos h2]
theorem fitsN_0 (hk : k < sz.length) (h : data.length ≠ 0) (h2 : ¬ (s < 0 ∨ sz[k] ≤ s ∨ sz[k] - s < data.length)) : fitsN sz ((k : Int), s, data) = 0 := by
  have hg : sz.getD (k : Int).toNat 0 = sz[k] := by simp [hk]
  unfold fitsN
  simp only [hg]
  rw [if_neg (by omega), if_neg (by simpa using h), if_neg h2]
end
theorem fits_any (A : Option Addr) (c : Nat) (S : Nat → Prop) (sz : List Int) (v s : Int) (D : Option Addr) (dc : Nat) (data : List Sec) (w : World) (h1 : SlAt encInt w S A sz) (hs : sz.length ≤ 9223372036854775807) (hS : ∀ b, S b → b < w.heap.size) (hn : data.length ≤ 9223372036854775807) (hv : I64 v) (hs2 : I64 s) :
    Calls Tryz.prog 74 #[.slice A sz.length c, .agg #[.int .i64 v, .int .i64 s, .slice D data.length dc]] w fun e w' => e = .returned (.int .i64 (fitsN sz (v, s, data))) ∧ Below w.heap.size w w' := by
  obtain ⟨hv1, hv2⟩ := hv
  obtain ⟨hs1, hs2⟩ := hs2
  by_cases c1 : v < 0 ∨ sz.length ≤ v
  · go_enter Tryz.func74, Tryz.ntmps74
    rcases c1 with c1 | c1
    · go_wp2
      go_ret
      exact ⟨ret_int (fitsN_7 (by omega)).symm, (Below.refl _ _).alloc (Nat.le_refl _) _⟩
    · have : ¬ v < 0 := by omega
      go_wp2
      go_ret
      exact ⟨ret_int (fitsN_7 (by omega)).symm, (Below.refl _ _).alloc (Nat.le_refl _) _⟩
  · have c2 : 0 ≤ v := by omega
    have c3 : v < sz.length := by omega
    obtain ⟨k, rfl⟩ := Int.eq_ofNat_of_zero_le c2
    have hk : k < sz.length := by omega
    obtain ⟨b, off, rfl, hb, hcell, hi1, hi2⟩ := h1.int hk
    have hlt := hS b hb
    clear c1
    by_cases c4 : data.length = 0
    · have c4' : ((data.length : Int) == 0) = true := by simp [c4]
      have C4 := Lib.hid c4; clear c4
      go_enter Tryz.func74, Tryz.ntmps74
      go_wp2
      go_ret
      exact ⟨ret_int (fitsN_1 hk C4.out).symm, (Below.refl _ _).alloc (Nat.le_refl _) _⟩
    · have c4' : ((data.length : Int) == 0) = false := by rw [beq_eq_false_iff_ne]; omega
      have C4 := Lib.hid c4
      go_enter Tryz.func74, Tryz.ntmps74
      by_cases d1 : s < 0
      · have d1' : decide (s < 0) = true := by simp [d1]
        go_wp2
        go_quiet (fail)
        go_wp2
        go_ret
        exact ⟨ret_int (fitsN_2 hk C4.out (by omega)).symm, bDrew ((Below.refl _ _).alloc (Nat.le_refl _) _) _⟩
      · have d1' : decide (s < 0) = false := by simp; omega
        by_cases d2 : sz[k] ≤ s
        · have d2' : decide (sz[k] ≤ s) = true := by simp [d2]
          go_wp2
          go_quiet (fail)
          go_wp2
          go_ret
          exact ⟨ret_int (fitsN_2 hk C4.out (by omega)).symm, bDrew ((Below.refl _ _).alloc (Nat.le_refl _) _) _⟩
        · have d2' : decide (sz[k] ≤ s) = false := by simp; omega
          by_cases d3 : sz[k] - s < data.length
          · have d3' : decide (sz[k] - s < (data.length : Int)) = true := by simp [d3]
            go_wp2
            go_quiet (fail)
            go_wp2
            go_ret
            exact ⟨ret_int (fitsN_2 hk C4.out (by omega)).symm, bDrew ((Below.refl _ _).alloc (Nat.le_refl _) _) _⟩
          · have d3' : decide (sz[k] - s < (data.length : Int)) = false := by simp; omega
            go_wp2
            go_quiet (fail)
            go_wp2
            go_ret
            exact ⟨ret_int (fitsN_0 hk C4.out (by omega)).symm, bDrew ((Below.refl _ _).alloc (Nat.le_refl _) _) _⟩
end Go.Proofs.YtnkmklnlaepdeaaGreat

namespace Go.Proofs.YtnkmklnlaepdeaaGreat
open Go.RowKit

theorem tyInts : SliceTy Tryz.prog 30 3 1 8 := sliceTy_mk (z := .int .i64 0) Tryz.underlying30 (by kernel_rfl) rfl (by decide)
theorem tySecs : SliceTy Tryz.prog 55 54 8 8 := sliceTy_mk (z := .agg #[.int .u8 0, .int .u8 0, .int .u8 0, .int .u8 0, .int .u8 0, .int .u8 0, .int .u8 0, .int .u8 0]) Tryz.underlying55 (by kernel_rfl) rfl (by decide)
theorem tyWrs : SliceTy Tryz.prog 43 74 3 40 := sliceTy_mk (z := .agg #[.int .i64 0, .int .i64 0, .slice none 0 0]) Tryz.underlying43 (by kernel_rfl) rfl (by decide)

theorem most_any (w : World) :
    Calls Tryz.prog 90 #[] w (Ret (encSl encInt) (List.replicate 8 4096) w) := by
  go_enter Tryz.func90, Tryz.ntmps90
  go_wp2
  go_loopw [1, 2] (fun v i wr => ∃ k : Nat, k ≤ 8 ∧ i = .int .i64 k ∧ Below w.heap.size w wr ∧ Own encInt wr w.heap.size 3 (fun _ => False) v (List.replicate k 4096)) (fun _ i _ => 8 - (intOf i).toNat)
  case atStart => exact ⟨0, by omega, rfl, Below.refl _ _, Own.nil_⟩
  case round =>
    obtain ⟨k, hk, rfl, hb, hown⟩ := hrel
    by_cases hlt : k < 8
    · have hki : (k : Int) < 8 := by omega
      have hown1 := hown.alloc (fun _ h => h.elim) (.cells #[.int .i64 4096] 3)
      have HO := Lib.hid hown1; clear hown1
      have hsz := hb.size
      go_wp2_with (at_builtin; refine wpList_app1 (E := encInt) tyInts rfl _ _ rfl rfl HO.out 4096 [.int .i64 4096] rfl ⟨rfl, by unfold I64; omega⟩ (heap_alloc_new _ _) (fun _ h => h.elim) (by simp; omega) (by simp [maxLen]; omega) (by simp; omega) ?_; intro A c' w1 hown2 hg hat)
      go_roundw
      case rel =>
        refine ⟨k + 1, hlt, by go_num, ?_, ?_⟩
        · exact (hb.alloc hb.size _).grown hg (by have := hb.size; simp; omega) (fun g h => (hown.lt g h).1)
        · rw [List.replicate_succ']
          simpa using hown2
      case measure => simp [intOf]; omega
    · have hkk : k = 8 := by omega
      subst hkk
      go_wp2
      go_ret
      exact ⟨_, rfl, hown.rd (fun _ h => h.elim), hb⟩
end Go.Proofs.YtnkmklnlaepdeaaGreat

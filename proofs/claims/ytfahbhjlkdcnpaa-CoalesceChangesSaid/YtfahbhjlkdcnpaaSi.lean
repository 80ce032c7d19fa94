/-
  The examples of the chapter, in plain words: what Fold, Merge and Restrict give for them.
  The walk of awake.
-/
import Derived.Test.YtfahbhjlkdcnpaaSg
import Derived.Test.YtfahbhjlkdcnpaaSh
import Derived.Test.YtfahbhjlkdcnpaaOpen
set_option linter.unusedVariables false
set_option linter.unusedSimpArgs false
set_option linter.unusedSectionVars false
set_option linter.unnecessarySimpa false
namespace Go.Proofs.Ytfahbhjlkdcnpaa

def exA : List Wr := [(0, 2, [1, 2].map secOf), (0, 3, [3].map secOf), (0, 4, [4].map secOf)]
def exA' : List Wr := [(0, 2, [1, 3, 4].map secOf)]
def exB : List Wr := [(1, 5, [1].map secOf), (0, 0, [2].map secOf), (0, 2, [3].map secOf)]
def exB' : List Wr := [(0, 0, [2].map secOf), (0, 2, [3].map secOf), (1, 5, [1].map secOf)]
def exC1 : List Wr := [(0, 2, [1, 2].map secOf)]
def exC2 : List Wr := [(0, 1, [3].map secOf)]
def exC : List Wr := [(0, 1, [3, 1, 2].map secOf)]
def exK : List Ext := [(2, 1), (9, 1)]
def exD : List Wr := [(0, 2, [1].map secOf)]
theorem exA_err : errOf placedN exA = 0 := by decide +kernel
theorem exB_err : errOf placedN exB = 0 := by decide +kernel
theorem exC_err : mergeErr exC1 exC2 = 0 := by decide +kernel
theorem exD_err : chkN placedN exC = 0 := by decide +kernel
theorem exA_ok : foldL exA = exA' := by decide +kernel
theorem exB_ok : foldL exB = exB' := by decide +kernel
theorem exC_ok : mergeL exC1 exC2 = exC := by decide +kernel
theorem exD_ok : restrictL exC 0 exK = exD := by decide +kernel
end Go.Proofs.Ytfahbhjlkdcnpaa

namespace Go.Proofs.Ytfahbhjlkdcnpaa
open Go.RowKit Go.ChangeMaps

theorem ext_below {B : Nat} {w w1 w2 : World} (h : Below B w w1) (hB : B ≤ w1.heap.size) (h2 : Below w1.heap.size w1 w2) : Below B w w2 := h.trans (h2.mono hB)
theorem RetSlN.bl {α : Type} {E : Enc α} {l : List α} {n : Int} {w : World} {e : Ending} {w' : World} (h : RetSlN E l n w e w') : ∃ A c, e = .returned (.tuple #[.slice A l.length c, .int .i64 n]) ∧ (l.length ≤ c ∧ c ≤ maxLen ∧ SlAt E w' (Bl w'.heap.size) A l) ∧ Below w.heap.size w w' := by
  obtain ⟨A, c, he, h1, h2, h3, h4⟩ := h
  exact ⟨A, c, he, ⟨h1, h2, h3.more (fun _ h => h.2)⟩, h4⟩
theorem i64_lit {x : Int} (h : -1000 ≤ x ∧ x ≤ 1000) : I64 x := by unfold I64; omega
theorem sectorsX (A : Option Addr) (c n t : Nat) (l : List Wr) (w : World) (hn : l.length = n) (ht : sectsL l = t) (h1 : SlAt encWr w (Bl w.heap.size) A l) (hs : n ≤ 9223372036854775807) (hs2 : t ≤ 9223372036854775807 := by decide) :
    Calls Try.prog 25 #[.slice A n c] w fun e w' => e = .returned (.int .i64 t) ∧ Below w.heap.size w w' := by
  subst hn ht
  exact sectors_any A c l w h1 hs hs2
set_option maxHeartbeats 8000000 in
set_option maxRecDepth 100000 in
theorem awake_any (w : World) : Calls Try.prog 13 #[] w (LawRet w) := by
  go_enter Try.func13, Try.ntmps13
  go_wp2_with fail
  refine (writeY 0 2 [1, 2] 2 rfl (i64_lit (by omega)) (i64_lit (by omega)) _ _ _ (u8_lit (heap_alloc_new _ _) rfl (by decide)) (by decide)).mono ?_
  rintro e w1 ⟨D1, c1, rfl, hw1, hb1⟩
  have H1 := Lib.hid hw1; clear hw1
  go_wp2_with fail
  refine (writeY 0 3 [3] 1 rfl (i64_lit (by omega)) (i64_lit (by omega)) _ _ _ (u8_lit (heap_alloc_new _ _) rfl (by decide)) (by decide)).mono ?_
  rintro e w2 ⟨D2, c2, rfl, hw2, hb2⟩
  have H2 := Lib.hid hw2; clear hw2
  go_wp2_with fail
  refine (writeY 0 4 [4] 1 rfl (i64_lit (by omega)) (i64_lit (by omega)) _ _ _ (u8_lit (heap_alloc_new _ _) rfl (by decide)) (by decide)).mono ?_
  rintro e w3 ⟨D3, c3, rfl, hw3, hb3⟩
  have H3 := Lib.hid hw3; clear hw3
  go_wp2_with fail
  refine ((foldX _ _ 3 exA exA' rfl exA_ok exA_err _ (litW3 (H1.out.fwd (by repeat (first | exact Below.refl _ _ | assumption | refine ext_alloc ?_ | refine ext_drew ?_ | refine ext_trans ?_ (by assumption)))) (H2.out.fwd (by repeat (first | exact Below.refl _ _ | assumption | refine ext_alloc ?_ | refine ext_drew ?_ | refine ext_trans ?_ (by assumption)))) (H3.out.fwd (by repeat (first | exact Below.refl _ _ | assumption | refine ext_alloc ?_ | refine ext_drew ?_ | refine ext_trans ?_ (by assumption))))) (by omega)).mono fun _ _ h => h.bl).mono ?_
  rintro e w4 ⟨A4, c4, rfl, hs4, hb4⟩
  have H4 := Lib.hid hs4; clear hs4
  go_wp2_with fail
  refine (writeY 1 5 [1] 1 rfl (i64_lit (by omega)) (i64_lit (by omega)) _ _ _ (u8_lit (heap_alloc_new _ _) rfl (by decide)) (by decide)).mono ?_
  rintro e w5 ⟨D5, c5, rfl, hw5, hb5⟩
  have H5 := Lib.hid hw5; clear hw5
  go_wp2_with fail
  refine (writeY 0 0 [2] 1 rfl (i64_lit (by omega)) (i64_lit (by omega)) _ _ _ (u8_lit (heap_alloc_new _ _) rfl (by decide)) (by decide)).mono ?_
  rintro e w6 ⟨D6, c6, rfl, hw6, hb6⟩
  have H6 := Lib.hid hw6; clear hw6
  go_wp2_with fail
  refine (writeY 0 2 [3] 1 rfl (i64_lit (by omega)) (i64_lit (by omega)) _ _ _ (u8_lit (heap_alloc_new _ _) rfl (by decide)) (by decide)).mono ?_
  rintro e w7 ⟨D7, c7, rfl, hw7, hb7⟩
  have H7 := Lib.hid hw7; clear hw7
  go_wp2_with fail
  refine ((foldX _ _ 3 exB exB' rfl exB_ok exB_err _ (litW3 (H5.out.fwd (by repeat (first | exact Below.refl _ _ | assumption | refine ext_alloc ?_ | refine ext_drew ?_ | refine ext_trans ?_ (by assumption)))) (H6.out.fwd (by repeat (first | exact Below.refl _ _ | assumption | refine ext_alloc ?_ | refine ext_drew ?_ | refine ext_trans ?_ (by assumption)))) (H7.out.fwd (by repeat (first | exact Below.refl _ _ | assumption | refine ext_alloc ?_ | refine ext_drew ?_ | refine ext_trans ?_ (by assumption))))) (by omega)).mono fun _ _ h => h.bl).mono ?_
  rintro e w8 ⟨A8, c8, rfl, hs8, hb8⟩
  have H8 := Lib.hid hs8; clear hs8
  go_wp2_with fail
  refine (writeY 0 2 [1, 2] 2 rfl (i64_lit (by omega)) (i64_lit (by omega)) _ _ _ (u8_lit (heap_alloc_new _ _) rfl (by decide)) (by decide)).mono ?_
  rintro e w9 ⟨D9, c9, rfl, hw9, hb9⟩
  have H9 := Lib.hid hw9; clear hw9
  go_wp2_with fail
  refine (writeY 0 1 [3] 1 rfl (i64_lit (by omega)) (i64_lit (by omega)) _ _ _ (u8_lit (heap_new2 _ _ _) rfl (by decide)) (by decide)).mono ?_
  rintro e w10 ⟨D10, c10, rfl, hw10, hb10⟩
  have H10 := Lib.hid hw10; clear hw10
  go_wp2_with fail
  refine ((mergeX _ _ 1 1 1 1 exC1 exC2 exC rfl rfl exC_ok exC_err _ ((litW1 (T := 35) H9.out).fwd (by repeat (first | exact Below.refl _ _ | assumption | refine ext_alloc ?_ | refine ext_drew ?_ | refine ext_trans ?_ (by assumption)))) (litW1 H10.out) (by omega) (by decide) (by omega) (by decide) (by omega)).mono fun _ _ h => h.bl).mono ?_
  rintro e w11 ⟨A11, c11, rfl, hs11, hb11⟩
  have H11 := Lib.hid hs11; clear hs11
  go_wp2_with fail
  refine ((restrictX _ _ _ 2 _ 2 exC 0 exK exD rfl rfl exD_ok exD_err _ (H11.out.2.2.fwd (by repeat (first | exact Below.refl _ _ | assumption | refine ext_alloc ?_ | refine ext_drew ?_ | refine ext_trans ?_ (by assumption)))) (litE2 (i64_lit (by omega)) (i64_lit (by omega)) (i64_lit (by omega)) (i64_lit (by omega))) (by decide) (by omega)).mono fun _ _ h => h.bl).mono ?_
  rintro e w12 ⟨A12, c12, rfl, hs12, hb12⟩
  have H12 := Lib.hid hs12; clear hs12
  go_wp2_with fail
  refine (writeY 0 2 [1, 3, 4] 3 rfl (i64_lit (by omega)) (i64_lit (by omega)) _ _ _ (u8_lit (heap_alloc_new _ _) rfl (by decide)) (by decide)).mono ?_
  rintro e w13 ⟨D13, c13, rfl, hw13, hb13⟩
  have H13 := Lib.hid hw13; clear hw13
  go_wp2_with fail
  refine (sameX _ _ _ _ _ _ exA' _ rfl rfl _ (H4.out.2.2.fwd (by repeat (first | exact Below.refl _ _ | assumption | refine ext_alloc ?_ | refine ext_drew ?_ | refine ext_trans ?_ (by assumption)))) (litW1 H13.out) (by decide) (by decide) rfl).mono ?_
  rintro e w14 ⟨rfl, hb14⟩
  go_wp2_with fail
  refine (writeY 0 0 [2] 1 rfl (i64_lit (by omega)) (i64_lit (by omega)) _ _ _ (u8_lit (heap_alloc_new _ _) rfl (by decide)) (by decide)).mono ?_
  rintro e w15 ⟨D15, c15, rfl, hw15, hb15⟩
  have H15 := Lib.hid hw15; clear hw15
  go_wp2_with fail
  refine (writeY 0 2 [3] 1 rfl (i64_lit (by omega)) (i64_lit (by omega)) _ _ _ (u8_lit (heap_alloc_new _ _) rfl (by decide)) (by decide)).mono ?_
  rintro e w16 ⟨D16, c16, rfl, hw16, hb16⟩
  have H16 := Lib.hid hw16; clear hw16
  go_wp2_with fail
  refine (writeY 1 5 [1] 1 rfl (i64_lit (by omega)) (i64_lit (by omega)) _ _ _ (u8_lit (heap_alloc_new _ _) rfl (by decide)) (by decide)).mono ?_
  rintro e w17 ⟨D17, c17, rfl, hw17, hb17⟩
  have H17 := Lib.hid hw17; clear hw17
  go_wp2_with fail
  refine (sameX _ _ _ _ _ _ exB' _ rfl rfl _ (H8.out.2.2.fwd (by repeat (first | exact Below.refl _ _ | assumption | refine ext_alloc ?_ | refine ext_drew ?_ | refine ext_trans ?_ (by assumption)))) (litW3 (H15.out.fwd (by repeat (first | exact Below.refl _ _ | assumption | refine ext_alloc ?_ | refine ext_drew ?_ | refine ext_trans ?_ (by assumption)))) (H16.out.fwd (by repeat (first | exact Below.refl _ _ | assumption | refine ext_alloc ?_ | refine ext_drew ?_ | refine ext_trans ?_ (by assumption)))) H17.out) (by decide) (by decide) rfl).mono ?_
  rintro e w18 ⟨rfl, hb18⟩
  go_wp2_with fail
  refine (writeY 0 1 [3, 1, 2] 3 rfl (i64_lit (by omega)) (i64_lit (by omega)) _ _ _ (u8_lit (heap_alloc_new _ _) rfl (by decide)) (by decide)).mono ?_
  rintro e w19 ⟨D19, c19, rfl, hw19, hb19⟩
  have H19 := Lib.hid hw19; clear hw19
  go_wp2_with fail
  refine (sameX _ _ _ _ _ _ exC _ rfl rfl _ (H11.out.2.2.fwd (by repeat (first | exact Below.refl _ _ | assumption | refine ext_alloc ?_ | refine ext_drew ?_ | refine ext_trans ?_ (by assumption)))) (litW1 H19.out) (by decide) (by decide) rfl).mono ?_
  rintro e w20 ⟨rfl, hb20⟩
  go_wp2_with fail
  refine (writeY 0 2 [1] 1 rfl (i64_lit (by omega)) (i64_lit (by omega)) _ _ _ (u8_lit (heap_alloc_new _ _) rfl (by decide)) (by decide)).mono ?_
  rintro e w21 ⟨D21, c21, rfl, hw21, hb21⟩
  have H21 := Lib.hid hw21; clear hw21
  go_wp2_with fail
  refine (sameX _ _ _ _ _ _ exD _ rfl rfl _ (H12.out.2.2.fwd (by repeat (first | exact Below.refl _ _ | assumption | refine ext_alloc ?_ | refine ext_drew ?_ | refine ext_trans ?_ (by assumption)))) (litW1 H21.out) (by decide) (by decide) rfl).mono ?_
  rintro e w22 ⟨rfl, hb22⟩
  go_wp2_with fail
  refine (sectorsX _ _ _ 3 exB' _ rfl rfl (H8.out.2.2.fwd (by repeat (first | exact Below.refl _ _ | assumption | refine ext_alloc ?_ | refine ext_drew ?_ | refine ext_trans ?_ (by assumption)))) (by decide)).mono ?_
  rintro e w23 ⟨rfl, hb23⟩
  have hend : Below w.heap.size w w23 := (by repeat (first | exact Below.refl _ _ | assumption | refine ext_alloc ?_ | refine ext_drew ?_ | refine ext_trans ?_ (by assumption)))
  clear hb1 hb2 hb3 hb4 hb5 hb6 hb7 hb8 hb9 hb10 hb11 hb12 hb13 hb14 hb15 hb16 hb17 hb18 hb19 hb20 hb21 hb22 hb23
  go_wp2
  go_ret
  exact ⟨rfl, hend⟩
end Go.Proofs.Ytfahbhjlkdcnpaa

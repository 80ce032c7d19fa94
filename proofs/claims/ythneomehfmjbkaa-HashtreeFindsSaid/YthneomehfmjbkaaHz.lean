/-
  The examples of the chapter: the walk.
-/
import Derived.Test.YthneomehfmjbkaaHw
import Derived.Test.YthneomehfmjbkaaHc
import Derived.Test.YthneomehfmjbkaaHy
import Derived.Deep.Cut
set_option linter.unusedVariables false
set_option linter.unusedSimpArgs false
set_option linter.unusedSectionVars false
set_option linter.unnecessarySimpa false
namespace Go.Proofs.Ythneomehfmjbkaa
open Go.RowKit Go.Shelf
attribute [local go_sem] Oper.semAt_some

def sN (k : Int) : Sec := [k, 0, 0, 0, 0, 0, 0, 0]
def awL : List Sec := [sN 1, sN 2, sN 3, sN 4, sN 5]
def awM : List Sec := [sN 1, sN 2, sN 3, sN 4, sN 9]
def awA : Int := digS [sN 1, sN 2]
def awB : Int := digS [sN 3, sN 4]
def awC : Int := digS [sN 5]
def awD : Int := digS [sN 9]
def awV (k : Int) : Array Value := #[.int .u8 1, .int .u8 0, .int .u8 0, .int .u8 0, .int .u8 0, .int .u8 0, .int .u8 0, .int .u8 0, .int .u8 2, .int .u8 0, .int .u8 0, .int .u8 0, .int .u8 0, .int .u8 0, .int .u8 0, .int .u8 0, .int .u8 3, .int .u8 0, .int .u8 0, .int .u8 0, .int .u8 0, .int .u8 0, .int .u8 0, .int .u8 0, .int .u8 4, .int .u8 0, .int .u8 0, .int .u8 0, .int .u8 0, .int .u8 0, .int .u8 0, .int .u8 0, .int .u8 k, .int .u8 0, .int .u8 0, .int .u8 0, .int .u8 0, .int .u8 0, .int .u8 0, .int .u8 0]
def awT (a b c : Int) : Tr := (5, 2, [[a, b, c], [pairD a b, c], [pairD (pairD a b) c]])
theorem litSl {α : Type} {E : Enc α} {W : World} {S S0 : Nat → Prop} {g : Nat} {T : TypeId} {cs : Array Value} {css : List (List Value)} {l : List α} (hg : W.heap[g]? = some (.cells cs T (0, 0))) (hcs : cs = css.flatten.toArray) (hr : All2 (E.rd W S0) css l) (h0 : ∀ b, S0 b → S b) (h1 : S g) (hn : ¬ S0 g) : SlAt E W S (some ⟨g, 0, none⟩) l := by
  have hsz := All2.sizes hr
  have hlen : css.flatten.length = l.length * E.size := by rw [flatten_len E.size css hsz, hr.length]
  intro hne
  refine ⟨g, 0, rfl, h1, fun i x hx => ?_⟩
  obtain ⟨cs', hc, hr'⟩ := hr.get hx
  refine ⟨cs', fun j u hu => ?_, Enc.more hr' h0⟩
  have hj : j < cs'.length := (List.getElem?_eq_some_iff.1 hu).1
  have hf := flatten_at _ _ _ _ _ _ hsz hc hu
  rw [cell_of_row _ _ _ _ _ _ hg, hcs]
  simp only [List.getElem?_toArray]
  have e : 0 + i * E.size + j = i * E.size + j := by omega
  rw [e]
  exact hf
theorem sN_ok (k : Int) (h : 0 ≤ k ∧ k < 256) : OkSec (sN k) := by
  refine ⟨rfl, fun x hx => ?_⟩
  simp [sN] at hx
  omega
theorem awOk (k : Int) (h : 0 ≤ k ∧ k < 256) {w : World} : All2 (encSec.rd w (fun _ => False)) ([sN 1, sN 2, sN 3, sN 4, sN k].map secV) [sN 1, sN 2, sN 3, sN 4, sN k] :=
  ⟨⟨rfl, sN_ok 1 (by omega)⟩, ⟨rfl, sN_ok 2 (by omega)⟩, ⟨rfl, sN_ok 3 (by omega)⟩, ⟨rfl, sN_ok 4 (by omega)⟩, ⟨rfl, sN_ok k h⟩, trivial⟩
theorem levels3 (a b c : Int) : levels [a, b, c] = [[a, b, c], [pairD a b, c], [pairD (pairD a b) c]] := by
  rw [levels_up (by simp), levels_up (by simp [upL]), levels_one (by simp [upL])]
  rfl
theorem awBuild : buildErr awL 2 = 0 ∧ buildT awL 2 = awT awA awB awC := by
  refine ⟨by decide, ?_⟩
  have h : digests awL 2 = [awA, awB, awC] := rfl
  rw [buildT_ok (by decide)]
  show ((5 : Int), (2 : Int), levels (digests awL 2)) = _
  rw [h, levels3]; rfl
theorem awCheck (a b c : Int) : checkT (awT a b c) = 0 := by
  have h1 : limN (awT a b c).1 (awT a b c).2.1 = 0 := rfl
  have h2 : shapeB (leavesN (awT a b c).1.toNat (awT a b c).2.1.toNat) (awT a b c).2.2 = true := by simp [shapeB, awT, leavesN]
  have h3 : levels ((awT a b c).2.2.headD []) = (awT a b c).2.2 := levels3 a b c
  unfold checkT
  rw [if_neg (by rw [h1]; decide), if_neg (by rw [h2]; decide), if_neg (by rw [h3]; exact fun h => h rfl)]
theorem awProof (a b c : Int) : (proofE (awT a b c) 2 = 0 ∧ proofT (awT a b c) 2 = [pairD a b]) ∧ (proofE (awT a b c) 0 = 0 ∧ proofT (awT a b c) 0 = [b, c]) := by
  have h2 : proofE (awT a b c) 2 = 0 := by unfold proofE; rw [awCheck, if_neg (by decide), if_neg (by simp [awT])]
  have h0 : proofE (awT a b c) 0 = 0 := by unfold proofE; rw [awCheck, if_neg (by decide), if_neg (by simp [awT])]
  refine ⟨⟨h2, ?_⟩, ⟨h0, ?_⟩⟩
  · unfold proofT; rw [if_pos h2]; rfl
  · unfold proofT; rw [if_pos h0]; rfl
theorem awUpd (a b c : Int) : updE (awT a b c) awM (4, 1) = 0 ∧ updT (awT a b c) awM (4, 1) = awT a b awD := by
  have h : updE (awT a b c) awM (4, 1) = 0 := by unfold updE; rw [awCheck, if_neg (by decide), if_neg (by show ¬ ((5 : Int) ≠ 5); decide), if_neg (by show ¬ ((4 : Int) < 0 ∨ (1 : Int) < 0 ∨ (5 : Int) < 4 ∨ (5 : Int) - 4 < 1); decide)]
  refine ⟨h, ?_⟩
  rw [updT_ok h]
  have e : updL awM (awT a b c).2.1.toNat 4 1 ((awT a b c).2.2.headD []) = [a, b, awD] := by
    have i0 : inLeaf 2 4 1 0 = false := by decide
    have i1 : inLeaf 2 4 1 1 = false := by decide
    have i2 : inLeaf 2 4 1 2 = true := by decide
    show (List.range 3).map (fun i => if inLeaf 2 4 1 i = true then digS (leafAt awM 2 i) else [a, b, c].getD i 0) = _
    simp only [List.range, List.range.loop, List.map, i0, i1, i2, if_true]
    rfl
  rw [e, levels3]; rfl
theorem awDif : difErr (awT awA awB awC) (awT awA awB awD) = 0 ∧ difT (awT awA awB awC) (awT awA awB awD) = [(4, 1)] := by
  have h : difErr (awT awA awB awC) (awT awA awB awD) = 0 := by unfold difErr; rw [awCheck, awCheck, if_neg (by decide), if_neg (by decide), if_neg (by simp [awT])]
  refine ⟨h, ?_⟩
  have e : difE (awT awA awB awC) (awT awA awB awD) = [(4, 1)] := by decide +kernel
  unfold difT
  rw [if_pos h, e]
  unfold opL
  have r : runsL (below (fun x => or ([((4 : Int), (1 : Int))].any (inExt x)) (([] : List Ext).any (inExt x))) 5) = [(4, 1)] := by decide +kernel
  rw [runs_off (a := 5) (by omega), r]
  intro x hx _
  simp [inExt]; omega
theorem awProofX2 (a b c : Int) (A : Option Addr) (k : Nat) (w : World) (hk : 3 ≤ k ∧ k ≤ maxLen) (h1 : SlAt (encSl encU64) w (Bl w.heap.size) A (awT a b c).2.2) : Calls Try.prog 29 #[.agg #[.int .i64 5, .int .i64 2, .slice A 3 k], .int .i64 2] w (RetSlN encU64 [pairD a b] 0 w) := by
  have h := proof_any 5 2 2 A k 3 (awT a b c).2.2 w rfl h1 (by omega) hk ⟨by unfold I64; omega, by unfold I64; omega⟩ (by unfold I64; omega)
  have e1 : proofE (5, 2, (awT a b c).2.2) 2 = 0 := (awProof a b c).1.1
  have e2 : proofT (5, 2, (awT a b c).2.2) 2 = [pairD a b] := (awProof a b c).1.2
  rw [e1, e2] at h
  exact h
theorem awProofX0 (a b c : Int) (A : Option Addr) (k : Nat) (w : World) (hk : 3 ≤ k ∧ k ≤ maxLen) (h1 : SlAt (encSl encU64) w (Bl w.heap.size) A (awT a b c).2.2) : Calls Try.prog 29 #[.agg #[.int .i64 5, .int .i64 2, .slice A 3 k], .int .i64 0] w (RetSlN encU64 [b, c] 0 w) := by
  have h := proof_any 5 2 0 A k 3 (awT a b c).2.2 w rfl h1 (by omega) hk ⟨by unfold I64; omega, by unfold I64; omega⟩ (by unfold I64; omega)
  have e1 : proofE (5, 2, (awT a b c).2.2) 0 = 0 := (awProof a b c).2.1
  have e2 : proofT (5, 2, (awT a b c).2.2) 0 = [b, c] := (awProof a b c).2.2
  rw [e1, e2] at h
  exact h
theorem awUpdX (a b c : Int) (A A2 : Option Addr) (k : Nat) (w : World) (hk : 3 ≤ k ∧ k ≤ maxLen) (h1 : SlAt (encSl encU64) w (Bl w.heap.size) A (awT a b c).2.2) (h2 : SlAt encSec w (Bl w.heap.size) A2 awM) : Calls Try.prog 17 #[.agg #[.int .i64 5, .int .i64 2, .slice A 3 k], .slice A2 5 5, .agg #[.int .i64 4, .int .i64 1]] w (TreeRetE (awT a b awD) 0 w.heap.size w) := by
  have h := update_any 5 2 A A2 k 5 3 5 (awT a b c).2.2 awM 4 1 w rfl rfl h1 h2 (by omega) hk ⟨by omega, by decide⟩ ⟨by unfold I64; omega, by unfold I64; omega⟩ ⟨by unfold I64; omega, by unfold I64; omega⟩
  have e1 : updE (5, 2, (awT a b c).2.2) awM (4, 1) = 0 := (awUpd a b c).1
  have e2 : updT (5, 2, (awT a b c).2.2) awM (4, 1) = awT a b awD := (awUpd a b c).2
  rw [e1, e2] at h
  exact h
theorem awDifX (A A2 : Option Addr) (k k2 : Nat) (w : World) (hk : 3 ≤ k ∧ k ≤ maxLen) (hk2 : 3 ≤ k2 ∧ k2 ≤ maxLen) (h1 : SlAt (encSl encU64) w (Bl w.heap.size) A (awT awA awB awC).2.2) (h2 : SlAt (encSl encU64) w (Bl w.heap.size) A2 (awT awA awB awD).2.2) : Calls Try.prog 19 #[.agg #[.int .i64 5, .int .i64 2, .slice A 3 k], .agg #[.int .i64 5, .int .i64 2, .slice A2 3 k2]] w (RetSlN encExt [(4, 1)] 0 w) := by
  have h := differ_any 5 2 5 2 A A2 k k2 3 3 (awT awA awB awC).2.2 (awT awA awB awD).2.2 w rfl rfl h1 h2 (by omega) (by omega) hk hk2 ⟨by unfold I64; omega, by unfold I64; omega⟩ ⟨by unfold I64; omega, by unfold I64; omega⟩
  have e1 : difErr (5, 2, (awT awA awB awC).2.2) (5, 2, (awT awA awB awD).2.2) = 0 := awDif.1
  have e2 : difT (5, 2, (awT awA awB awC).2.2) (5, 2, (awT awA awB awD).2.2) = [(4, 1)] := awDif.2
  rw [e1, e2] at h
  exact h
theorem awStore {W : World} {b : Nat} {T : TypeId} (h : W.heap[b]? = some (.cells (awV 5) T (0, 0))) : ((((((((W.setCell ⟨b, 32, none⟩ (.int .u8 9)).setCell ⟨b, 33, none⟩ (.int .u8 0)).setCell ⟨b, 34, none⟩ (.int .u8 0)).setCell ⟨b, 35, none⟩ (.int .u8 0)).setCell ⟨b, 36, none⟩ (.int .u8 0)).setCell ⟨b, 37, none⟩ (.int .u8 0)).setCell ⟨b, 38, none⟩ (.int .u8 0)).setCell ⟨b, 39, none⟩ (.int .u8 0)).heap[b]? = some (.cells (awV 9) T (0, 0)) := by
  simp [World.setCell, Array.getElem?_modify, h, awV]
set_option maxHeartbeats 8000000 in
set_option maxRecDepth 100000 in
theorem awake_any (w : World) : Calls Try.prog 12 #[] w fun e w' => e = .returned (.bool true) ∧ Below w.heap.size w w' := by
  go_enter Try.func12, Try.ntmps12
  go_upto_region 2 with (fail)
  obtain ⟨w1, hw1⟩ : ∃ w1, w.alloc (.cells #[.int .u8 1, .int .u8 0, .int .u8 0, .int .u8 0, .int .u8 0, .int .u8 0, .int .u8 0, .int .u8 0, .int .u8 2, .int .u8 0, .int .u8 0, .int .u8 0, .int .u8 0, .int .u8 0, .int .u8 0, .int .u8 0, .int .u8 3, .int .u8 0, .int .u8 0, .int .u8 0, .int .u8 0, .int .u8 0, .int .u8 0, .int .u8 0, .int .u8 4, .int .u8 0, .int .u8 0, .int .u8 0, .int .u8 0, .int .u8 0, .int .u8 0, .int .u8 0, .int .u8 5, .int .u8 0, .int .u8 0, .int .u8 0, .int .u8 0, .int .u8 0, .int .u8 0, .int .u8 0] 50) = w1 := ⟨_, rfl⟩
  rw [hw1]
  have hs1 : w1.heap.size = w.heap.size + 1 := by rw [← hw1]; simp
  have hB1 : Below w.heap.size w w1 := by rw [← hw1]; exact ext_alloc (Below.refl _ _)
  have hrow1 : w1.heap[w.heap.size]? = some (.cells (awV 5) 50 (0, 0)) := by rw [← hw1]; exact heap_alloc_new _ _
  have HL := Lib.hid (litSl (E := encSec) (S := Bl w1.heap.size) (S0 := fun _ => False) (css := awL.map secV) (l := awL) hrow1 rfl (awOk 5 (by omega)) (fun _ h => h.elim) (by show w.heap.size < w1.heap.size; omega) (fun h => h))
  have HSA := Lib.hid (fun W (hb : Below w1.heap.size w1 W) => refSectors_dig (some ⟨w.heap.size, 0, none⟩) 5 2 [sN 1, sN 2] awA W rfl rfl ((HL.out.fwd hb).take (n := 2)) (by omega))
  have HSB := Lib.hid (fun W (hb : Below w1.heap.size w1 W) => refSectors_dig (some ⟨w.heap.size, 16, none⟩) 3 2 [sN 3, sN 4] awB W rfl rfl (((HL.out.fwd hb).drop (k := 2)).take (n := 2) : SlAt encSec W (Bl W.heap.size) (some ⟨w.heap.size, 0 + 2 * 8, none⟩) [sN 3, sN 4]) (by omega))
  have HSC := Lib.hid (fun W (hb : Below w1.heap.size w1 W) => refSectors_dig (some ⟨w.heap.size, 32, none⟩) 1 1 [sN 5] awC W rfl rfl ((HL.out.fwd hb).drop (k := 4) : SlAt encSec W (Bl W.heap.size) (some ⟨w.heap.size, 0 + 4 * 8, none⟩) [sN 5]) (by omega))
  clear hw1
  go_region_held3 (fun _ => True) (first | trivial) (first | (go_at_call 35; refine (HSA.out w1.drew (Below.refl _ _).drew).mono ?_; rintro e w2 ⟨rfl, h2⟩; have hx2 : Below w1.heap.size w1 w2 := bUn h2) | (go_at_call 35; refine (HSB.out w2 hx2).mono ?_; rintro e w3 ⟨rfl, h3⟩; have hx3 : Below w1.heap.size w1 w3 := ext_trans hx2 h3) | (go_at_call 35; refine (HSC.out w3 hx3).mono ?_; rintro e w4 ⟨rfl, h4⟩; have hx4 : Below w1.heap.size w1 w4 := ext_trans hx3 h4))
  clear HSA HSB HSC h2 h3 h4 hx2 hx3
  have HBD := Lib.hid (build_any (some ⟨w.heap.size, 0, none⟩) 5 5 awL 2 w4 rfl ⟨by omega, by decide⟩ (HL.out.fwd hx4) (by omega) (by unfold I64; omega))
  rw [awBuild.1, awBuild.2] at HBD
  go_wp2_with fail
  refine HBD.out.mono ?_
  rintro e w5 ⟨A5, c5, rfl, t1, t2, t3, t4⟩
  have hL3 : (awT awA awB awC).2.2.length = 3 := rfl
  have hx5 : Below w1.heap.size w1 w5 := ext_trans hx4 t4
  have HT5 := Lib.hid t3
  have HC5 := Lib.hid (And.intro t1 t2)
  have hs45 := t4.size
  rw [hL3]
  clear t1 t2 t3 t4 HBD hL3
  have hrA : 0 ≤ awA ∧ awA < 18446744073709551616 := dig_range _
  have hrB : 0 ≤ awB ∧ awB < 18446744073709551616 := dig_range _
  have hrC : 0 ≤ awC ∧ awC < 18446744073709551616 := dig_range _
  have HRA := Lib.hid (And.intro hrA (And.intro hrB hrC))
  clear hrA hrB hrC
  have hT1 : (awT awA awB awC).1 = 5 := rfl
  have hT2 : (awT awA awB awC).2.1 = 2 := rfl
  rw [hT1, hT2]
  clear hT1 hT2
  go_wp2_with fail
  obtain ⟨w6, hw6⟩ : ∃ w6, (w5.alloc (.cells #[.int .i64 5, .int .i64 2, .slice A5 3 c5] 26)).alloc (.cells #[.int .u64 awA, .int .u64 awB, .int .u64 awC] 58) = w6 := ⟨_, rfl⟩
  rw [hw6]
  have hs6 : w6.heap.size = w5.heap.size + 2 := by rw [← hw6]; simp
  have hB56 : Below w5.heap.size w5 w6 := by rw [← hw6]; exact ext_alloc (ext_alloc (Below.refl _ _))
  have hT6 : w6.heap[w5.heap.size]? = some (.cells #[.int .i64 5, .int .i64 2, .slice A5 3 c5] 26 (0, 0)) := by rw [← hw6]; exact (Below.heap_alloc _ _ _ (by simp)).trans (heap_alloc_new _ _)
  have hL6 : w6.heap[w5.heap.size + 1]? = some (.cells #[.int .u64 awA, .int .u64 awB, .int .u64 awC] 58 (0, 0)) := by rw [← hw6]; exact heap_new2 _ _ _
  clear hw6
  refine (refPair_any awA awB w6 HRA.out.1 HRA.out.2.1).mono ?_
  rintro e w7 ⟨rfl, hb7⟩
  obtain ⟨p1, hp1⟩ : ∃ p1, pairD awA awB = p1 := ⟨_, rfl⟩
  have hr1 : 0 ≤ p1 ∧ p1 < 18446744073709551616 := by rw [← hp1]; exact dig_range _
  rw [hp1]
  have HP1 := Lib.hid hp1
  have HR1 := Lib.hid hr1
  clear hp1 hr1
  go_wp2_with fail
  obtain ⟨w8, hw8⟩ : ∃ w8, w7.alloc (.cells #[.int .u64 p1, .int .u64 awC] 58) = w8 := ⟨_, rfl⟩
  rw [hw8]
  have hB78 : Below w7.heap.size w7 w8 := by rw [← hw8]; exact ext_alloc (Below.refl _ _)
  have hs8 : w8.heap.size = w7.heap.size + 1 := by rw [← hw8]; simp
  have hM8 : w8.heap[w7.heap.size]? = some (.cells #[.int .u64 p1, .int .u64 awC] 58 (0, 0)) := by rw [← hw8]; exact heap_alloc_new _ _
  clear hw8
  refine (refPair_any awA awB w8 HRA.out.1 HRA.out.2.1).mono ?_
  rintro e w9 ⟨rfl, hb9⟩
  rw [HP1.out]
  go_wp2_with fail
  refine (refPair_any p1 awC w9 HR1.out HRA.out.2.2).mono ?_
  rintro e w10 ⟨rfl, hb10⟩
  obtain ⟨p2, hp2⟩ : ∃ p2, pairD p1 awC = p2 := ⟨_, rfl⟩
  have hr2 : 0 ≤ p2 ∧ p2 < 18446744073709551616 := by rw [← hp2]; exact dig_range _
  rw [hp2]
  have HP2 := Lib.hid hp2
  have HR2 := Lib.hid hr2
  clear hp2 hr2
  have hb6A : Below w6.heap.size w6 w10 := ext_trans (ext_trans (ext_trans (ext_trans (Below.refl _ _) hb7) hB78) hb9) hb10
  have hb8A : Below w8.heap.size w8 w10 := ext_trans (ext_trans (Below.refl _ _) hb9) hb10
  have hTA := (hb6A.block _ (by omega)).trans hT6
  have hLA := (hb6A.block _ (by omega)).trans hL6
  have hMA := (hb8A.block _ (by omega)).trans hM8
  have hs67 := hb7.size
  have hs9 := hb9.size
  have hs10 := hb10.size
  have hxA : Below w1.heap.size w1 w10 := ext_trans (ext_trans hx5 hB56) hb6A
  have hb5A : Below w5.heap.size w5 w10 := ext_trans hB56 hb6A
  have h5A : w5.heap.size < w10.heap.size := by omega
  clear hT6 hL6 hM8 hB78 hb7 hb9 hb10 hb6A hb8A
  go_upto_region 5 with (fail)
  obtain ⟨w11, hw11⟩ : ∃ w11, ((w10.alloc (.cells #[.int .u64 p2] 58)).alloc (.cells #[.slice (some ⟨w5.heap.size + 1, 0, none⟩) 3 3, .slice (some ⟨w7.heap.size, 0, none⟩) 2 2, .slice (some ⟨w10.heap.size, 0, none⟩) 1 1] 60)).alloc (.cells #[.int .i64 5, .int .i64 2, .slice (some ⟨w10.heap.size + 1, 0, none⟩) 3 3] 26) = w11 := ⟨_, rfl⟩
  rw [hw11]
  have hx4s := hx4.size
  have hs11 : w11.heap.size = w10.heap.size + 3 := by rw [← hw11]; simp
  have hBAB : Below w10.heap.size w10 w11 := by rw [← hw11]; exact ext_alloc (ext_alloc (ext_alloc (Below.refl _ _)))
  have c3 := alloc3_cells w10 (.cells #[.int .u64 p2] 58) (.cells #[.slice (some ⟨w5.heap.size + 1, 0, none⟩) 3 3, .slice (some ⟨w7.heap.size, 0, none⟩) 2 2, .slice (some ⟨w10.heap.size, 0, none⟩) 1 1] 60) (.cells #[.int .i64 5, .int .i64 2, .slice (some ⟨w10.heap.size + 1, 0, none⟩) 3 3] 26)
  rw [hw11] at c3
  obtain ⟨hP11, hQ11, hW11⟩ := c3
  have hT11 := (hBAB.block _ (by omega)).trans hTA
  have hL11 := (hBAB.block _ (by omega)).trans hLA
  have hM11 := (hBAB.block _ (by omega)).trans hMA
  have hHrA := (hxA.block w.heap.size (by omega)).trans hrow1
  have hH11 := (hBAB.block w.heap.size (by omega)).trans hHrA
  have hx11 : Below w1.heap.size w1 w11 := ext_trans hxA hBAB
  have HT11 : Hid (SlAt (encSl encU64) w11 (Nw (w.heap.size + 1) w11.heap.size) A5 (awT awA awB awC).2.2) := by
    have hb := hb5A.trans (hBAB.mono hb5A.size)
    exact (HT5.out.blk (w' := w11) (fun g hg => hb.block g hg.2)).more (fun g hg => ⟨by have := hg.1; have := hx4.size; omega, by have := hg.2; have := hb.size; omega⟩)
  have HW11 : Hid (SlAt (encSl encU64) w11 (Nw (w.heap.size + 1) w11.heap.size) (some ⟨w10.heap.size + 1, 0, none⟩) (awT awA awB awC).2.2) := by
    have hx4s := hx4.size
    have e : (awT awA awB awC).2.2 = [[awA, awB, awC], [p1, awC], [p2]] := by rw [← HP2.out, ← HP1.out]; rfl
    rw [e]
    have h1 : SlAt encU64 w11 (fun g => g = w5.heap.size + 1 ∨ g = w7.heap.size ∨ g = w10.heap.size) (some ⟨w5.heap.size + 1, 0, none⟩) [awA, awB, awC] := litSl (S0 := fun _ => False) (css := [[.int .u64 awA], [.int .u64 awB], [.int .u64 awC]]) hL11 rfl ⟨⟨rfl, HRA.out.1⟩, ⟨rfl, HRA.out.2.1⟩, ⟨rfl, HRA.out.2.2⟩, trivial⟩ (fun _ h => h.elim) (Or.inl rfl) (fun h => h)
    have h2 : SlAt encU64 w11 (fun g => g = w5.heap.size + 1 ∨ g = w7.heap.size ∨ g = w10.heap.size) (some ⟨w7.heap.size, 0, none⟩) [p1, awC] := litSl (S0 := fun _ => False) (css := [[.int .u64 p1], [.int .u64 awC]]) hM11 rfl ⟨⟨rfl, HR1.out⟩, ⟨rfl, HRA.out.2.2⟩, trivial⟩ (fun _ h => h.elim) (Or.inr (Or.inl rfl)) (fun h => h)
    have h3 : SlAt encU64 w11 (fun g => g = w5.heap.size + 1 ∨ g = w7.heap.size ∨ g = w10.heap.size) (some ⟨w10.heap.size, 0, none⟩) [p2] := litSl (S0 := fun _ => False) (css := [[.int .u64 p2]]) hP11 rfl ⟨⟨rfl, HR2.out⟩, trivial⟩ (fun _ h => h.elim) (Or.inr (Or.inr rfl)) (fun h => h)
    exact litSl (S0 := fun g => g = w5.heap.size + 1 ∨ g = w7.heap.size ∨ g = w10.heap.size) (css := [[.slice (some ⟨w5.heap.size + 1, 0, none⟩) 3 3], [.slice (some ⟨w7.heap.size, 0, none⟩) 2 2], [.slice (some ⟨w10.heap.size, 0, none⟩) 1 1]]) hQ11 rfl ⟨⟨_, 3, rfl, by simp, by decide, h1⟩, ⟨_, 2, rfl, by simp, by decide, h2⟩, ⟨_, 1, rfl, by simp, by decide, h3⟩, trivial⟩ (fun g hg => ⟨by omega, by omega⟩) ⟨by omega, by omega⟩ (by omega)
  obtain ⟨T1, hT1⟩ : ∃ T1, w5.heap.size = T1 := ⟨_, rfl⟩
  obtain ⟨T2, hT2⟩ : ∃ T2, w10.heap.size + 1 + 1 = T2 := ⟨_, rfl⟩
  obtain ⟨Bq, hBq⟩ : ∃ Bq, w10.heap.size + 1 = Bq := ⟨_, rfl⟩
  have hlt1 : w.heap.size < T1 ∧ T1 < w11.heap.size ∧ w.heap.size < T2 ∧ T2 < w11.heap.size := by have := hx4.size; omega
  rw [hT2, hBq] at hW11
  rw [hBq] at HW11
  rw [hT1] at hT11 ⊢
  rw [hT2]
  clear hw11 hP11 hQ11 hL11 hM11 hTA hLA hMA hHrA hxA hb5A h5A hBAB HT5 hx5 hB56 hs67 hs9 hs10 hs8 hs6 hs45 HP2
  have HC11 : Hid (∀ W, Below w11.heap.size w11 W → (W.heap[T1]? = some (.cells #[.int .i64 5, .int .i64 2, .slice A5 3 c5] 26 (0, 0)) ∧ W.heap[T2]? = some (.cells #[.int .i64 5, .int .i64 2, .slice (some ⟨Bq, 0, none⟩) 3 3] 26 (0, 0)) ∧ W.heap[w.heap.size]? = some (.cells (awV 5) 50 (0, 0))) ∧ SlAt (encSl encU64) W (Nw (w.heap.size + 1) W.heap.size) A5 (awT awA awB awC).2.2 ∧ SlAt (encSl encU64) W (Nw (w.heap.size + 1) W.heap.size) (some ⟨Bq, 0, none⟩) (awT awA awB awC).2.2) := fun W hb => ⟨⟨(hb.block _ hlt1.2.1).trans hT11, (hb.block _ hlt1.2.2.2).trans hW11, (hb.block _ (by omega)).trans hH11⟩, (HT11.out.blk (fun g hg => hb.block g hg.2)).more (fun g hg => hg.mono (Nat.le_refl _) hb.size), (HW11.out.blk (fun g hg => hb.block g hg.2)).more (fun g hg => hg.mono (Nat.le_refl _) hb.size)⟩
  obtain ⟨r0, r1, r2, _⟩ := blk3 hT11
  clear hW11 hH11 HT11 HW11 hs11 hT1 hT2 hBq hT11
  go_wp2_with fail
  refine (awProofX2 awA awB awC A5 c5 w11 HC5.out ((HC11.out w11 (Below.refl _ _)).2.1.more (fun g h => h.2))).mono ?_
  rintro e w12 ⟨A12, c12, rfl, t1, t2, t3, hb12⟩
  rw [HP1.out] at t3
  have HT12 := Lib.hid t3
  clear t1 t2 t3 r0 r1 r2
  obtain ⟨r0, r1, r2, _⟩ := blk3 (HC11.out w12 hb12).1.1
  go_wp2_with fail
  refine (awProofX0 awA awB awC A5 c5 w12 HC5.out ((HC11.out w12 hb12).2.1.more (fun g h => h.2))).mono ?_
  rintro e w13 ⟨A13, c13, rfl, t1, t2, t3, hb13⟩
  have HT13 := Lib.hid t3
  clear t1 t2 t3 r0 r1 r2
  have hb13' : Below w11.heap.size w11 w13 := ext_trans hb12 hb13
  have hHr := (HC11.out w13 hb13').1.2.2
  have hfz : ∀ j, w13.frozen? ⟨w.heap.size, j, none⟩ = false := fun j => frozen_of_row _ _ j _ _ hHr
  have hcz : ∀ j u, (awV 5)[j]? = some u → w13.cell? ⟨w.heap.size, j, none⟩ = some u := fun j u hu => (cell_of_row _ _ _ _ _ _ hHr).trans hu
  have z0 := hcz 32 _ rfl
  have z1 := hcz 33 _ rfl
  have z2 := hcz 34 _ rfl
  have z3 := hcz 35 _ rfl
  have z4 := hcz 36 _ rfl
  have z5 := hcz 37 _ rfl
  have z6 := hcz 38 _ rfl
  have z7 := hcz 39 _ rfl
  have HHR := Lib.hid hHr
  clear hcz hHr
  go_upto_region 8 with (fail)
  obtain ⟨w14, hw14⟩ : ∃ w14, ((((((((w13.setCell ⟨w.heap.size, 32, none⟩ (.int .u8 9)).setCell ⟨w.heap.size, 33, none⟩ (.int .u8 0)).setCell ⟨w.heap.size, 34, none⟩ (.int .u8 0)).setCell ⟨w.heap.size, 35, none⟩ (.int .u8 0)).setCell ⟨w.heap.size, 36, none⟩ (.int .u8 0)).setCell ⟨w.heap.size, 37, none⟩ (.int .u8 0)).setCell ⟨w.heap.size, 38, none⟩ (.int .u8 0)).setCell ⟨w.heap.size, 39, none⟩ (.int .u8 0)) = w14 := ⟨_, rfl⟩
  rw [hw14]
  have hs14 : w14.heap.size = w13.heap.size := by rw [← hw14]; simp [World.setCell]
  have hr14 : w14.heap[w.heap.size]? = some (.cells (awV 9) 50 (0, 0)) := by rw [← hw14]; exact awStore HHR.out
  have hk14 : ∀ g, g ≠ w.heap.size → w14.heap[g]? = w13.heap[g]? := fun g hg => by
    rw [← hw14]
    exact (heap_setCell_other _ _ _ _ hg).trans ((heap_setCell_other _ _ _ _ hg).trans ((heap_setCell_other _ _ _ _ hg).trans ((heap_setCell_other _ _ _ _ hg).trans ((heap_setCell_other _ _ _ _ hg).trans ((heap_setCell_other _ _ _ _ hg).trans ((heap_setCell_other _ _ _ _ hg).trans (heap_setCell_other _ _ _ _ hg)))))))
  have hb14 : Below w.heap.size w w14 := by
    rw [← hw14]
    exact (((((((((hB1.trans (hx11.mono hB1.size)).trans (hb13'.mono (by have := hx11.size; omega))).setCell (p := ⟨w.heap.size, 32, none⟩) (Nat.le_refl w.heap.size) _).setCell (p := ⟨w.heap.size, 33, none⟩) (Nat.le_refl w.heap.size) _).setCell (p := ⟨w.heap.size, 34, none⟩) (Nat.le_refl w.heap.size) _).setCell (p := ⟨w.heap.size, 35, none⟩) (Nat.le_refl w.heap.size) _).setCell (p := ⟨w.heap.size, 36, none⟩) (Nat.le_refl w.heap.size) _).setCell (p := ⟨w.heap.size, 37, none⟩) (Nat.le_refl w.heap.size) _).setCell (p := ⟨w.heap.size, 38, none⟩) (Nat.le_refl w.heap.size) _).setCell (p := ⟨w.heap.size, 39, none⟩) (Nat.le_refl w.heap.size) _
  have hs1112 := hb12.size
  have hs1213 := hb13.size
  have hx11s := hx11.size
  have HC14 : Hid (∀ W, Below w14.heap.size w14 W → (W.heap[T1]? = some (.cells #[.int .i64 5, .int .i64 2, .slice A5 3 c5] 26 (0, 0)) ∧ W.heap[T2]? = some (.cells #[.int .i64 5, .int .i64 2, .slice (some ⟨Bq, 0, none⟩) 3 3] 26 (0, 0))) ∧ SlAt (encSl encU64) W (Bl W.heap.size) A5 (awT awA awB awC).2.2 ∧ SlAt (encSl encU64) W (Bl W.heap.size) (some ⟨Bq, 0, none⟩) (awT awA awB awC).2.2 ∧ SlAt encSec W (Bl W.heap.size) (some ⟨w.heap.size, 0, none⟩) awM ∧ SlAt encU64 W (Bl W.heap.size) A12 [p1] ∧ SlAt encU64 W (Bl W.heap.size) A13 [awB, awC]) := fun W hb => by
    have hc := HC11.out w13 hb13'
    have hbs := hb.size
    have hkW : ∀ g, Nw (w.heap.size + 1) w13.heap.size g → W.heap[g]? = w13.heap[g]? := fun g hg => (hb.block g (by rw [hs14]; exact hg.2)).trans (hk14 g (by have := hg.1; omega))
    have hub : ∀ g, Nw (w.heap.size + 1) w13.heap.size g → Bl W.heap.size g := fun g hg => Nat.lt_of_lt_of_le hg.2 (by omega)
    refine ⟨⟨(hkW T1 ⟨by omega, by omega⟩).trans hc.1.1, (hkW T2 ⟨by omega, by omega⟩).trans hc.1.2.1⟩, (hc.2.1.blk hkW).more hub, (hc.2.2.blk hkW).more hub, ?_, ?_, ?_⟩
    · exact litSl (E := encSec) (S0 := fun _ => False) (css := awM.map secV) (l := awM) ((hb.block _ (by omega)).trans hr14) rfl (awOk 9 (by omega)) (fun _ h => h.elim) (by show w.heap.size < W.heap.size; omega) (fun h => h)
    · exact (((HT12.out.blk (w' := w13) (fun g hg => hb13.block g hg.2)).more (S' := Nw (w.heap.size + 1) w13.heap.size) (fun g hg => ⟨by have := hg.1; omega, by have := hg.2; omega⟩)).blk hkW).more hub
    · exact ((HT13.out.more (S' := Nw (w.heap.size + 1) w13.heap.size) (fun g hg => ⟨by have := hg.1; omega, hg.2⟩)).blk hkW).more hub
  have hlt2 : T1 < w14.heap.size ∧ T2 < w14.heap.size := by omega
  obtain ⟨⟨g1, g2⟩, _, _, _, _, _⟩ := HC14.out w14 (Below.refl _ _)
  obtain ⟨r0, r1, r2, _⟩ := blk3 g1
  clear hw14 z0 z1 z2 z3 z4 z5 z6 z7 hfz HHR hk14 hr14 HC11 HT12 HT13 hb12 hb13 hb13' hx11 hlt1 g1 g2 HL hx4 hrow1 hB1
  go_wp2_with fail
  refine (awUpdX awA awB awC A5 _ c5 w14 HC5.out (HC14.out w14 (Below.refl _ _)).2.1 (HC14.out w14 (Below.refl _ _)).2.2.2.1).mono ?_
  rintro e w15 ⟨A15, c15, rfl, t1, t2, t3, hb15⟩
  have hL3 : (awT awA awB awD).2.2.length = 3 := rfl
  have hT1 : (awT awA awB awD).1 = 5 := rfl
  have hT2 : (awT awA awB awD).2.1 = 2 := rfl
  have HT15 := Lib.hid t3
  have HC15 : Hid (3 ≤ c15 ∧ c15 ≤ maxLen) := ⟨t1, t2⟩
  rw [hL3, hT1, hT2]
  clear t1 t2 t3 hL3 hT1 hT2 r0 r1 r2
  go_upto_region 9 with (fail)
  obtain ⟨w16, hw16⟩ : ∃ w16, w15.alloc (.cells #[.int .i64 5, .int .i64 2, .slice A15 3 c15] 26) = w16 := ⟨_, rfl⟩
  rw [hw16]
  have hb16 : Below w15.heap.size w15 w16 := by rw [← hw16]; exact ext_alloc (Below.refl _ _)
  have hs16 : w16.heap.size = w15.heap.size + 1 := by rw [← hw16]; simp
  have hr16 : w16.heap[w15.heap.size]? = some (.cells #[.int .i64 5, .int .i64 2, .slice A15 3 c15] 26 (0, 0)) := by rw [← hw16]; exact heap_alloc_new _ _
  have hx16 : Below w14.heap.size w14 w16 := ext_trans hb15 hb16
  have hS16 := HT15.out.blk (w' := w16) (fun g hg => hb16.block g hg.2)
  have hD16 := Lib.hid (awDifX A5 A15 c5 c15 w16 HC5.out HC15.out (HC14.out w16 hx16).2.1 (hS16.more (fun g hg => by have : g < w15.heap.size := hg.2; show g < w16.heap.size; omega)))
  obtain ⟨⟨g1, g2⟩, _, _, _, _, _⟩ := HC14.out w16 hx16
  obtain ⟨r0, r1, r2, _⟩ := blk3 g1
  obtain ⟨y0, y1, y2, _⟩ := blk3 hr16
  clear hw16 hS16 hr16 g1 g2
  go_wp2_with fail
  refine hD16.out.mono ?_
  rintro e w17 ⟨A17, c17, rfl, t1, t2, t3, hb17⟩
  have HT17 := Lib.hid t3
  have hx17 : Below w14.heap.size w14 w17 := ext_trans hx16 hb17
  clear t1 t2 t3 hD16 r0 r1 r2 y0 y1 y2
  obtain ⟨⟨g1, g2⟩, k1, k2, _, _, _⟩ := HC14.out w17 hx17
  have HSM := Lib.hid (same_any 5 2 5 2 A5 (some ⟨Bq, 0, none⟩) c5 3 3 3 (awT awA awB awC).2.2 (awT awA awB awC).2.2 true w17 rfl rfl (by simp) k1 k2 (by omega) (by omega))
  obtain ⟨r0, r1, r2, _⟩ := blk3 g1
  obtain ⟨y0, y1, y2, _⟩ := blk3 g2
  clear g1 g2 k1 k2
  go_wp2_with fail
  refine HSM.out.mono ?_
  rintro e w18 ⟨rfl, hb18⟩
  clear HSM r0 r1 r2 y0 y1 y2
  go_wp2_with fail
  refine (refPair_any awA awB w18 HRA.out.1 HRA.out.2.1).mono ?_
  rintro e w19 ⟨rfl, hb19⟩
  rw [HP1.out]
  go_wp2_with fail
  obtain ⟨w20, hw20⟩ : ∃ w20, w19.alloc (.cells #[.int .u64 p1] 58) = w20 := ⟨_, rfl⟩
  rw [hw20]
  have hb20 : Below w19.heap.size w19 w20 := by rw [← hw20]; exact ext_alloc (Below.refl _ _)
  have hx20 : Below w14.heap.size w14 w20 := ext_trans (ext_trans (ext_trans hx17 hb18) hb19) hb20
  have hl20 : SlAt encU64 w20 (Bl w20.heap.size) (some ⟨w19.heap.size, 0, none⟩) [p1] := litSl (S0 := fun _ => False) (css := [[.int .u64 p1]]) (by rw [← hw20]; exact heap_alloc_new _ _) rfl ⟨⟨rfl, HR1.out⟩, trivial⟩ (fun _ h => h.elim) (by rw [← hw20]; show w19.heap.size < _; simp) (fun h => h)
  clear hw20
  refine (eqU64_any A12 _ c12 1 1 1 _ _ [p1] [p1] true w20 rfl rfl (by simp) (HC14.out w20 hx20).2.2.2.2.1 hl20 (by omega) (by omega)).mono ?_
  rintro e w21 ⟨rfl, hd21⟩
  have hx21 : Below w14.heap.size w14 w21 := hx20.trans (hd21.below _)
  go_wp2_with fail
  obtain ⟨w22, hw22⟩ : ∃ w22, w21.alloc (.cells #[.int .u64 awB, .int .u64 awC] 58) = w22 := ⟨_, rfl⟩
  rw [hw22]
  have hx22 : Below w14.heap.size w14 w22 := by rw [← hw22]; exact ext_alloc hx21
  have hl22 : SlAt encU64 w22 (Bl w22.heap.size) (some ⟨w21.heap.size, 0, none⟩) [awB, awC] := litSl (S0 := fun _ => False) (css := [[.int .u64 awB], [.int .u64 awC]]) (by rw [← hw22]; exact heap_alloc_new _ _) rfl ⟨⟨rfl, HRA.out.2.1⟩, ⟨rfl, HRA.out.2.2⟩, trivial⟩ (fun _ h => h.elim) (by rw [← hw22]; show w21.heap.size < _; simp) (fun h => h)
  have hb1722 : Below w17.heap.size w17 w22 := by
    have h1 : Below w17.heap.size w17 w20 := ext_trans (ext_trans (ext_trans (Below.refl _ _) hb18) hb19) hb20
    rw [← hw22]; exact ext_alloc (h1.trans (hd21.below _))
  clear hw22
  refine (eqU64_any A13 _ c13 2 2 2 _ _ [awB, awC] [awB, awC] true w22 rfl rfl (by simp) (HC14.out w22 hx22).2.2.2.2.2 hl22 (by omega) (by omega)).mono ?_
  rintro e w23 ⟨rfl, hd23⟩
  go_wp2_with fail
  obtain ⟨w24, hw24⟩ : ∃ w24, w23.alloc (.cells #[.int .i64 4, .int .i64 1] 35) = w24 := ⟨_, rfl⟩
  rw [hw24]
  have hl24 : SlAt encExt w24 (Bl w24.heap.size) (some ⟨w23.heap.size, 0, none⟩) [(4, 1)] := litSl (S0 := fun _ => False) (css := [[.int .i64 4, .int .i64 1]]) (by rw [← hw24]; exact heap_alloc_new _ _) rfl ⟨ext_mk (x := (4, 1)) (by unfold I64; omega) (by unfold I64; omega), trivial⟩ (fun _ h => h.elim) (by rw [← hw24]; show w23.heap.size < _; simp) (fun h => h)
  have hb1724 : Below w17.heap.size w17 w24 := by rw [← hw24]; exact ext_alloc (hb1722.trans (hd23.below _))
  have hx24 : Below w14.heap.size w14 w24 := by rw [← hw24]; exact ext_alloc (hx22.trans (hd23.below _))
  clear hw24
  refine (eqExts_any A17 _ c17 1 1 1 _ _ [(4, 1)] [(4, 1)] true w24 rfl rfl (by simp) (HT17.out.blk (w' := w24) (fun g hg => hb1724.block g hg.2)) hl24 (by omega) (by omega)).mono ?_
  rintro e w25 ⟨rfl, hd25⟩
  go_wp2_with fail
  go_ret
  exact ⟨rfl, (hb14.trans (hx24.mono (by omega))).trans (hd25.below _)⟩
end Go.Proofs.Ythneomehfmjbkaa

/-
  The level above a level: the walks.
-/
import Derived.Test.YthneomehfmjbkaaHg
import Derived.IntWalk
set_option linter.unusedVariables false
set_option linter.unusedSimpArgs false
set_option linter.unusedSectionVars false
set_option linter.unnecessarySimpa false
namespace Go.Proofs.Ythneomehfmjbkaa
open Go.RowKit Go.Shelf
attribute [local go_sem] Oper.semAt_some

set_option maxHeartbeats 4000000 in
theorem refAbove_any (A : Option Addr) (c n : Nat) (l : List Int) (w : World) (hn : l.length = n) (h1 : SlAt encU64 w (Bl w.heap.size) A l) (hl : n ≤ 100000) :
    Calls Try.prog 60 #[.slice A n c] w (RetSl encU64 (upL l) w) := by
    subst hn
    have H1 : Hid (∀ w', Below w.heap.size w w' → SlAt encU64 w' (Bl w.heap.size) A l) := fun w' hb => h1.below hb
    clear h1
    go_enter Try.func60, Try.ntmps60
    go_wp2
    go_loopw [3, 4] (fun v i wr => ∃ (m : Nat) (B : Option Addr) (vc : Nat) (out : List Int), 2 * m ≤ l.length + 1 ∧ i = .int .i64 ((2 * m : Nat) : Int) ∧ v = .slice B out.length vc ∧ Below w.heap.size w wr ∧ Hid (out = upL (l.take (2 * m))) ∧ Hid (OwnW encU64 wr w.heap.size w.heap.size 58 (.slice B out.length vc) out)) (fun _ i _ => l.length + 2 - (intOf i).toNat)
    case atStart => exact ⟨0, none, 0, [], by omega, rfl, rfl, Below.refl _ _, rfl, OwnW.nil_⟩
    case round =>
      obtain ⟨wo, rfl⟩ : ∃ wo : World, wo = wr := ⟨_, rfl⟩
      obtain ⟨m, B, vc, out, hm, rfl, rfl, hB, hout, hown⟩ := hrel
      have hol : out.length ≤ m := by rw [hout.out]; exact upL_take_len l m
      obtain ⟨k, hk⟩ : ∃ k, 2 * m = k := ⟨_, rfl⟩
      by_cases hlt : 2 * m < l.length
      · by_cases hlt2 : 2 * m + 1 < l.length
        · obtain ⟨b, off, rfl, hb, g0, q1, q2⟩ := (H1.out _ hB).u64 hlt
          obtain ⟨b', off', he, _, g1, r1, r2⟩ := (H1.out _ hB).u64 hlt2
          injection he with he
          injection he with he1 he2
          subst he1 he2
          have hup := Lib.hid (upL_two l m hlt2)
          obtain ⟨y1, hy1⟩ : ∃ y, Hid (y = l[2 * m]'hlt) := ⟨_, Lib.hid rfl⟩
          obtain ⟨y2, hy2⟩ : ∃ y, Hid (y = l[2 * m + 1]'hlt2) := ⟨_, Lib.hid rfl⟩
          rw [← hy1.out] at g0 q1 q2 hup
          rw [← hy2.out] at g1 r1 r2 hup
          rw [hk] at g0 g1 hlt hlt2 ⊢
          have hnn : (0 : Int) ≤ k := by omega
          have hki : (k : Int) < l.length := by omega
          have hki2 : (k : Int) + 1 < l.length := by omega
          have hl2 : ((l.length : Nat) : Int) ≤ 9223372036854775000 := by omega
          have HC := Lib.hid (fun w1 => refPair_any y1 y2 w1 ⟨q1, q2⟩ ⟨r1, r2⟩)
          have HRG := Lib.hid (dig_range (le8 y1 ++ le8 y2))
          clear q1 q2 r1 r2
          have hsz := hB.size
          have hbw : b < wo.heap.size := Nat.lt_of_lt_of_le hb hsz
          have HCE : Hid (∀ w', Below w.heap.size w w' → w'.cell? ⟨b, off + k, none⟩ = some (.int .u64 y1) ∧ w'.cell? ⟨b, off + (k + 1), none⟩ = some (.int .u64 y2)) := fun w' hw => ⟨((hw.cell (p := ⟨b, _, none⟩) hb).trans (hB.cell (p := ⟨b, _, none⟩) hb).symm).trans g0, ((hw.cell (p := ⟨b, _, none⟩) hb).trans (hB.cell (p := ⟨b, _, none⟩) hb).symm).trans g1⟩
          have hc0 := HCE.out wo.drew hB.drew
          go_upto_region 6 with (fail)
          have e0 : IntKind.i64.wrap ((k : Int) + 1) = (k : Int) + 1 := IntWalk.i64_in _ (by omega)
          have e2 : (0 : Int) ≤ (k : Int) + 1 := by omega
          have e1 : ((k : Int) + 1).toNat = k + 1 := by omega
          go_region_held3 (fun w' => w'.cell? ⟨b, off + k, none⟩ = some (.int .u64 y1) ∧ w'.cell? ⟨b, off + (k + 1), none⟩ = some (.int .u64 y2)) (first | exact hc0 | exact HCE.out _ hx6 | exact HCE.out _ (ext_alloc hx6) | exact HCE.out _ hx7) (first | (go_at_call 36; refine (HC.out _).mono ?_; rintro e wp ⟨rfl, hbp⟩; have hx5 : Below wo.heap.size wo wp := bUn hbp; have hs5 := hx5.size; have hx6 : Below w.heap.size w wp := hB.trans (hx5.mono hsz); have HO1 := Lib.hid (Own.alloc (OwnW.below hown.out hx5) (fun _ h => h.1.2) (.cells #[.int .u64 (pairD y1 y2)] 58))) | (refine step_app1 (E := encU64) tyU64s rfl _ _ rfl rfl HO1.out (pairD y1 y2) [.int .u64 (pairD y1 y2)] rfl ⟨rfl, HRG.out⟩ (heap_alloc_new _ _) (fun _ h => by simp; have := h.1.2; omega) (by simp; omega) (by unfold maxLen; omega) (by omega) ?_; intro A' c5 w5 hown5 hg5 hat5; have hx7 : Below w.heap.size w w5 := (ext_alloc (o := .cells #[.int .u64 (pairD y1 y2)] 58) hx6).grown hg5 (by simp; omega) (fun g h => (hown.out.lt g h).1)))
          clear e0 e1 e2 hc0
          have hlt1 : ∀ g, (Value.slice B out.length vc).ownBlock = some g → g < wp.heap.size := fun g hg => Nat.lt_of_lt_of_le (hown.out.lt g hg).2 hs5
          have hok5 := Lib.hid (OwnW.app (hown5.more (S' := fun b => Nw w.heap.size (wp.alloc (.cells #[.int .u64 (pairD y1 y2)] 58)).heap.size b ∧ (Value.slice B out.length vc).ownBlock ≠ some b) (fun b hb => ⟨hb.1.mono (Nat.le_refl _) (by simp), hb.2⟩) (OwnW_new hown5 hat5 hlt1 (by simp))) hg5 hat5)
          clear hown5 hg5 hat5 hlt1 hbp hx5 hx6 hs5 g0 g1
          go_wp2
          go_roundw
          case rel => exact ⟨m + 1, A', c5, out ++ [pairD y1 y2], by omega, by rw [← hk]; go_num, by simp, hx7, by rw [Hid, hup.out, hout.out], by have := hok5.out; simpa [Hid] using this⟩
          case measure => simp [intOf]; omega
        · have hkl : 2 * m + 1 = l.length := by omega
          obtain ⟨b, off, rfl, hb, g0, q1, q2⟩ := (H1.out _ hB).u64 hlt
          have hup := Lib.hid (upL_one l m hkl)
          obtain ⟨y1, hy1⟩ : ∃ y, Hid (y = l[2 * m]'hlt) := ⟨_, Lib.hid rfl⟩
          rw [← hy1.out] at g0 q1 q2 hup
          rw [hk] at g0 hlt hkl ⊢
          have hnn : (0 : Int) ≤ k := by omega
          have hki : (k : Int) < l.length := by omega
          have hki2 : ((l.length : Nat) : Int) ≤ (k : Int) + 1 := by omega
          have hl2 : ((l.length : Nat) : Int) ≤ 9223372036854775000 := by omega
          have hsz := hB.size
          have HO1 := Lib.hid (Own.alloc hown.out (fun _ h => h.1.2) (.cells #[.int .u64 y1] 58))
          have HRD : Hid (encU64.rd (wo.alloc (.cells #[.int .u64 y1] 58)) (fun b => Nw w.heap.size wo.heap.size b ∧ (Value.slice B out.length vc).ownBlock ≠ some b) [.int .u64 y1] y1) := ⟨rfl, q1, q2⟩
          clear q1 q2
          go_wp2_with (at_builtin; refine Hid.out ?_)
          change wpList _ _ _ _ _ _
          refine wpList_app1 (E := encU64) tyU64s rfl _ _ rfl rfl HO1.out y1 _ rfl HRD.out (heap_alloc_new _ _) (fun _ h => by simp; have := h.1.2; omega) (by simp; omega) (by unfold maxLen; omega) (by omega) ?_
          intro A' c' w5 hown5 hg5 hat5
          have hlt1 : ∀ g, (Value.slice B out.length vc).ownBlock = some g → g < wo.heap.size := fun g hg => (hown.out.lt g hg).2
          have hok5 := Lib.hid (OwnW.app (hown5.more (S' := fun b => Nw w.heap.size (wo.alloc (.cells #[.int .u64 y1] 58)).heap.size b ∧ (Value.slice B out.length vc).ownBlock ≠ some b) (fun b hb => ⟨hb.1.mono (Nat.le_refl _) (by simp), hb.2⟩) (OwnW_new hown5 hat5 hlt1 (by simp))) hg5 hat5)
          have hB5 := Lib.hid ((ext_alloc (o := .cells #[.int .u64 y1] 58) hB).grown hg5 (by simp; omega) (fun g h => (hown.out.lt g h).1))
          clear hown5 hg5 hat5 hlt1 g0
          go_wp2
          go_roundw
          case rel => exact ⟨m + 1, A', c', out ++ [y1], by omega, by rw [← hk]; go_num, by simp, hB5.out, by rw [Hid, hout.out, ← hup.out, List.take_of_length_le (by omega)], by have := hok5.out; simpa [Hid] using this⟩
          case measure => simp [intOf]; omega
      · rw [hk] at hlt ⊢
        have hki : ¬ ((k : Int) < l.length) := by omega
        obtain ⟨_, p1, p2, p3⟩ := hown.out.parts
        have P3 := Lib.hid p3; clear p3
        have hout2 : Hid (out = upL l) := by rw [Hid, hout.out, List.take_of_length_le (by omega)]
        go_wp2
        go_ret
        rw [← hout2.out]
        exact ⟨B, vc, rfl, p1, p2, P3.out, hB⟩
set_option maxHeartbeats 4000000 in
theorem up_any (A : Option Addr) (c n : Nat) (l : List Int) (w : World) (hn : l.length = n) (h1 : SlAt encU64 w (Bl w.heap.size) A l) (hl : n ≤ 100000) :
    Calls Try.prog 59 #[.slice A n c, .func (.func 52) #[] #[]] w (RetSl encU64 (upL l) w) := by
    subst hn
    have H1 : Hid (∀ w', Below w.heap.size w w' → SlAt encU64 w' (Bl w.heap.size) A l) := fun w' hb => h1.below hb
    clear h1
    go_enter Try.func59, Try.ntmps59
    go_wp2
    go_loopw [5, 6] (fun v i wr => ∃ (m : Nat) (B : Option Addr) (vc : Nat) (out : List Int), 2 * m ≤ l.length + 1 ∧ i = .int .i64 ((2 * m : Nat) : Int) ∧ v = .slice B out.length vc ∧ Below w.heap.size w wr ∧ Hid (out = upL (l.take (2 * m))) ∧ Hid (OwnW encU64 wr w.heap.size w.heap.size 58 (.slice B out.length vc) out)) (fun _ i _ => l.length + 2 - (intOf i).toNat)
    case atStart => exact ⟨0, none, 0, [], by omega, rfl, rfl, Below.refl _ _, rfl, OwnW.nil_⟩
    case round =>
      obtain ⟨wo, rfl⟩ : ∃ wo : World, wo = wr := ⟨_, rfl⟩
      obtain ⟨m, B, vc, out, hm, rfl, rfl, hB, hout, hown⟩ := hrel
      have hol : out.length ≤ m := by rw [hout.out]; exact upL_take_len l m
      obtain ⟨k, hk⟩ : ∃ k, 2 * m = k := ⟨_, rfl⟩
      by_cases hlt : 2 * m < l.length
      · by_cases hlt2 : 2 * m + 1 < l.length
        · obtain ⟨b, off, rfl, hb, g0, q1, q2⟩ := (H1.out _ hB).u64 hlt
          obtain ⟨b', off', he, _, g1, r1, r2⟩ := (H1.out _ hB).u64 hlt2
          injection he with he
          injection he with he1 he2
          subst he1 he2
          have hup := Lib.hid (upL_two l m hlt2)
          obtain ⟨y1, hy1⟩ : ∃ y, Hid (y = l[2 * m]'hlt) := ⟨_, Lib.hid rfl⟩
          obtain ⟨y2, hy2⟩ : ∃ y, Hid (y = l[2 * m + 1]'hlt2) := ⟨_, Lib.hid rfl⟩
          rw [← hy1.out] at g0 q1 q2 hup
          rw [← hy2.out] at g1 r1 r2 hup
          rw [hk] at g0 g1 hlt hlt2 ⊢
          have hnn : (0 : Int) ≤ k := by omega
          have hki : (k : Int) < l.length := by omega
          have hki2 : (k : Int) + 1 < l.length := by omega
          have hl2 : ((l.length : Nat) : Int) ≤ 9223372036854775000 := by omega
          have HC := Lib.hid (fun w1 => pair_any y1 y2 w1 ⟨q1, q2⟩ ⟨r1, r2⟩)
          have HRG := Lib.hid (dig_range (le8 y1 ++ le8 y2))
          clear q1 q2 r1 r2
          have hsz := hB.size
          have hbw : b < wo.heap.size := Nat.lt_of_lt_of_le hb hsz
          have HCE : Hid (∀ w', Below w.heap.size w w' → w'.cell? ⟨b, off + k, none⟩ = some (.int .u64 y1) ∧ w'.cell? ⟨b, off + (k + 1), none⟩ = some (.int .u64 y2)) := fun w' hw => ⟨((hw.cell (p := ⟨b, _, none⟩) hb).trans (hB.cell (p := ⟨b, _, none⟩) hb).symm).trans g0, ((hw.cell (p := ⟨b, _, none⟩) hb).trans (hB.cell (p := ⟨b, _, none⟩) hb).symm).trans g1⟩
          have hc0 := HCE.out wo.drew hB.drew
          go_upto_region 6 with (fail)
          have e0 : IntKind.i64.wrap ((k : Int) + 1) = (k : Int) + 1 := IntWalk.i64_in _ (by omega)
          have e2 : (0 : Int) ≤ (k : Int) + 1 := by omega
          have e1 : ((k : Int) + 1).toNat = k + 1 := by omega
          go_region_held3 (fun w' => w'.cell? ⟨b, off + k, none⟩ = some (.int .u64 y1) ∧ w'.cell? ⟨b, off + (k + 1), none⟩ = some (.int .u64 y2)) (first | exact hc0 | exact HCE.out _ hx6 | exact HCE.out _ (ext_alloc hx6) | exact HCE.out _ hx7) (first | (go_at_call 52; refine (HC.out _).mono ?_; rintro e wp ⟨rfl, hbp⟩; have hx5 : Below wo.heap.size wo wp := bUn hbp; have hs5 := hx5.size; have hx6 : Below w.heap.size w wp := hB.trans (hx5.mono hsz); have HO1 := Lib.hid (Own.alloc (OwnW.below hown.out hx5) (fun _ h => h.1.2) (.cells #[.int .u64 (pairD y1 y2)] 58))) | (refine step_app1 (E := encU64) tyU64s rfl _ _ rfl rfl HO1.out (pairD y1 y2) [.int .u64 (pairD y1 y2)] rfl ⟨rfl, HRG.out⟩ (heap_alloc_new _ _) (fun _ h => by simp; have := h.1.2; omega) (by simp; omega) (by unfold maxLen; omega) (by omega) ?_; intro A' c5 w5 hown5 hg5 hat5; have hx7 : Below w.heap.size w w5 := (ext_alloc (o := .cells #[.int .u64 (pairD y1 y2)] 58) hx6).grown hg5 (by simp; omega) (fun g h => (hown.out.lt g h).1)))
          clear e0 e1 e2 hc0
          have hlt1 : ∀ g, (Value.slice B out.length vc).ownBlock = some g → g < wp.heap.size := fun g hg => Nat.lt_of_lt_of_le (hown.out.lt g hg).2 hs5
          have hok5 := Lib.hid (OwnW.app (hown5.more (S' := fun b => Nw w.heap.size (wp.alloc (.cells #[.int .u64 (pairD y1 y2)] 58)).heap.size b ∧ (Value.slice B out.length vc).ownBlock ≠ some b) (fun b hb => ⟨hb.1.mono (Nat.le_refl _) (by simp), hb.2⟩) (OwnW_new hown5 hat5 hlt1 (by simp))) hg5 hat5)
          clear hown5 hg5 hat5 hlt1 hbp hx5 hx6 hs5 g0 g1
          go_wp2
          go_roundw
          case rel => exact ⟨m + 1, A', c5, out ++ [pairD y1 y2], by omega, by rw [← hk]; go_num, by simp, hx7, by rw [Hid, hup.out, hout.out], by have := hok5.out; simpa [Hid] using this⟩
          case measure => simp [intOf]; omega
        · have hkl : 2 * m + 1 = l.length := by omega
          obtain ⟨b, off, rfl, hb, g0, q1, q2⟩ := (H1.out _ hB).u64 hlt
          have hup := Lib.hid (upL_one l m hkl)
          obtain ⟨y1, hy1⟩ : ∃ y, Hid (y = l[2 * m]'hlt) := ⟨_, Lib.hid rfl⟩
          rw [← hy1.out] at g0 q1 q2 hup
          rw [hk] at g0 hlt hkl ⊢
          have hnn : (0 : Int) ≤ k := by omega
          have hki : (k : Int) < l.length := by omega
          have hki2 : ((l.length : Nat) : Int) ≤ (k : Int) + 1 := by omega
          have hl2 : ((l.length : Nat) : Int) ≤ 9223372036854775000 := by omega
          have hsz := hB.size
          have HO1 := Lib.hid (Own.alloc hown.out (fun _ h => h.1.2) (.cells #[.int .u64 y1] 58))
          have HRD : Hid (encU64.rd (wo.alloc (.cells #[.int .u64 y1] 58)) (fun b => Nw w.heap.size wo.heap.size b ∧ (Value.slice B out.length vc).ownBlock ≠ some b) [.int .u64 y1] y1) := ⟨rfl, q1, q2⟩
          clear q1 q2
          go_wp2_with (at_builtin; refine Hid.out ?_)
          change wpList _ _ _ _ _ _
          refine wpList_app1 (E := encU64) tyU64s rfl _ _ rfl rfl HO1.out y1 _ rfl HRD.out (heap_alloc_new _ _) (fun _ h => by simp; have := h.1.2; omega) (by simp; omega) (by unfold maxLen; omega) (by omega) ?_
          intro A' c' w5 hown5 hg5 hat5
          have hlt1 : ∀ g, (Value.slice B out.length vc).ownBlock = some g → g < wo.heap.size := fun g hg => (hown.out.lt g hg).2
          have hok5 := Lib.hid (OwnW.app (hown5.more (S' := fun b => Nw w.heap.size (wo.alloc (.cells #[.int .u64 y1] 58)).heap.size b ∧ (Value.slice B out.length vc).ownBlock ≠ some b) (fun b hb => ⟨hb.1.mono (Nat.le_refl _) (by simp), hb.2⟩) (OwnW_new hown5 hat5 hlt1 (by simp))) hg5 hat5)
          have hB5 := Lib.hid ((ext_alloc (o := .cells #[.int .u64 y1] 58) hB).grown hg5 (by simp; omega) (fun g h => (hown.out.lt g h).1))
          clear hown5 hg5 hat5 hlt1 g0
          go_wp2
          go_roundw
          case rel => exact ⟨m + 1, A', c', out ++ [y1], by omega, by rw [← hk]; go_num, by simp, hB5.out, by rw [Hid, hout.out, ← hup.out, List.take_of_length_le (by omega)], by have := hok5.out; simpa [Hid] using this⟩
          case measure => simp [intOf]; omega
      · rw [hk] at hlt ⊢
        have hki : ¬ ((k : Int) < l.length) := by omega
        obtain ⟨_, p1, p2, p3⟩ := hown.out.parts
        have P3 := Lib.hid p3; clear p3
        have hout2 : Hid (out = upL l) := by rw [Hid, hout.out, List.take_of_length_le (by omega)]
        go_wp2
        go_ret
        rw [← hout2.out]
        exact ⟨B, vc, rfl, p1, p2, P3.out, hB⟩
end Go.Proofs.Ythneomehfmjbkaa

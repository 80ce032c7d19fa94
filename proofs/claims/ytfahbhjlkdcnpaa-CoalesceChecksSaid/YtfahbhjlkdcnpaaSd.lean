/-
  The walks of slices.Grow, slices.Concat at writes; write.
-/
import Derived.Test.YtfahbhjlkdcnpaaSc
set_option linter.unusedVariables false
set_option linter.unusedSimpArgs false
set_option linter.unusedSectionVars false
set_option linter.unnecessarySimpa false
namespace Go.Proofs.Ytfahbhjlkdcnpaa
open Go.RowKit Go.ChangeMaps

theorem run_zeros {P : Program} {t ti e : TypeId} {size bytes : Nat} (hT : SliceTy P t e size bytes) (hti : P.underlying ti = some (.int .i64)) (ty : TypeId) (w : World) (n : Nat) (h0 : 0 < n) (hb : n * bytes ≤ 140737488355328) (h63 : n ≤ 4611686018427387904) :
    ∃ cur cap, (Builtin.append_ #[t, ti] ty #[.slice none 0 0, .int .i64 n]).run P w = .ok (.slice (some ⟨w.heap.size, 0, none⟩) n cap) (w.drew.alloc (.cells cur e)) ∧ n ≤ cap ∧ cap ≤ maxLen ∧ cur.size = cap * size := by
  obtain ⟨i, z, hi, hz, hsz, hby, hzs⟩ := hT.info
  subst hsz hby
  have hn : n ≠ 0 := by omega
  have hn2 : n * i.size ≠ 0 := Nat.mul_ne_zero hn (by have := hT.pos; omega)
  have h63' : ¬ (9223372036854775807 < (n : Int)) := by omega
  have h48' : ¬ (281474976710656 < Builtin.nextslicecap n 0 * i.bytes) := by rw [nextslicecap_zero h0]; omega
  have hbi : ((n : Int) * (i.bytes : Int)) ≤ 140737488355328 := by
    have h : ((n * i.bytes : Nat) : Int) ≤ 140737488355328 := by omega
    rwa [Int.natCast_mul] at h
  have hbi' : ¬ (281474976710656 < (n : Int) * (i.bytes : Int)) := by omega
  have hw : IntKind.i64.wrap (n : Int) = n := IntWalk.i64_in _ (by omega)
  have hneg : ¬ ((n : Int) < 0) := by omega
  have hle : ¬ ((n : Int) ≤ 0) := by omega
  have hmax : max (n : Int) 0 = n := by omega
  refine ⟨Builtin.zeroCells z.cells n ++ Builtin.zeroCells z.cells (grownCap w n 0 e - n), grownCap w n 0 e, ?_, grownCap_ge w n 0 e, grownCap_le_maxLen w n 0 e (by simp [maxLen]; omega), ?_⟩
  · simp [Builtin.append_, run_underlying hT.und, run_underlying hti, sizeOf, typeInfo, zeroValue, hi, hz, Builtin.lenOf, hn, hn2, h63', h48', Question.forced, run_firstCells_none, newRow, grownCap, asInt, asIntOf, hw, hneg, hbi', hmax, hle]
  · have := grownCap_ge w n 0 e
    simp only [Array.size_append, size_zeroCells, hzs, ← Nat.add_mul]
    congr 1
    omega

theorem wpList_zeros {P : Program} {w : World} {t ti e : TypeId} {size bytes : Nat} {ops : Array Oper} {rest : List Oper} {o : Oper} {a : Act} {Q : Exit → Act → World → Prop} (hT : SliceTy P t e size bytes) (hti : P.underlying ti = some (.int .i64)) (hgd : o.guard = none) (s x : Operand)
    (ho : o.op = .call { callee := .builtin .append, args := #[s, x], argTypes := #[t, ti] }) (hs : a.eval s = .slice none 0 0) (n : Nat) (hx : a.eval x = .int .i64 n) (h0 : 0 < n) (hb : n * bytes ≤ 140737488355328) (h63 : n ≤ 4611686018427387904)
    (h : ∀ cur cap, n ≤ cap → cap ≤ maxLen → cur.size = cap * size → wpList P ops Q rest (a.put o.dst (.slice (some ⟨w.heap.size, 0, none⟩) n cap)) (w.alloc (.cells cur e)).drew) : wpList P ops Q (o :: rest) a w := by
  refine wpList_plain hgd fun K hK => ?_
  obtain ⟨cur, cap, hr, h1, h2, h3⟩ := run_zeros hT hti o.type w n h0 hb h63
  unfold Oper.wp execOp
  simp only [ho, resolve, invoke, builtin, Sem.run_bind, Sem.run_pure, Result.andThen_ok, List.map_toArray, List.map_cons, List.map_nil, hs, hx, hr]
  exact hK _ _ (h cur cap h1 h2 h3)
theorem growW_any (n : Nat) (w : World) (hn : n ≤ 1000000) :
    Calls Try.prog 72 #[.slice none 0 0, .int .i64 n] w fun e w' => ∃ A c, e = .returned (.slice A 0 c) ∧ Own encWr w' w.heap.size 35 (fun _ => False) (.slice A 0 c) [] ∧ Below w.heap.size w w' := by
  by_cases h0 : n = 0
  · subst h0
    go_enter Try.func72, Try.ntmps72
    go_wp2
    go_ret
    exact ⟨none, 0, rfl, Own.nil_, Below.refl _ _⟩
  · have hpos : (0 : Int) < n := by omega
    have hcl : ¬ ((n : Int) < 0) := by omega
    go_enter Try.func72, Try.ntmps72
    go_wp2_with (at_builtin; refine Hid.out ?_)
    change wpList _ _ _ _ _ _
    refine wpList_zeros tyWrs Try.underlying3 rfl _ _ rfl rfl n rfl (by omega) (by omega) (by omega) ?_
    intro cur cap hc1 hc2 hc3
    have hm : Hid (Own encWr (w.alloc (.cells cur 35)).drew w.heap.size 35 (fun _ => False) (.slice (some ⟨w.heap.size, 0, none⟩) 0 cap) []) := Own.blk (Own.made (cur := cur) (Nat.le_refl _) hc2 hc3 (fun h => h)) (fun _ _ => rfl)
    unfold maxLen at hc2
    go_wp2
    go_ret
    exact ⟨_, cap, rfl, hm.out, ((Below.refl _ _).alloc (Nat.le_refl _) _).drew⟩
theorem tyWrss : SliceTy Try.prog 77 22 1 24 := sliceTy_mk (z := .slice none 0 0) Try.underlying77 (by kernel_rfl) rfl (by decide)
def totL (ls : List (List Wr)) : Nat := ls.flatten.length
theorem totL_snoc (ls : List (List Wr)) (l : List Wr) : totL (ls ++ [l]) = totL ls + l.length := by simp [totL]
set_option maxHeartbeats 1000000 in
theorem concatW_any (A : Option Addr) (c : Nat) (ls : List (List Wr)) (w : World) (h1 : SlAt (encSl encWr) w (Bl w.heap.size) A ls) (hs : ls.length ≤ 1000) (ht : totL ls ≤ 1000000) (fl : List Wr) (hfl : ls.flatten = fl) :
    Calls Try.prog 45 #[.slice A ls.length c] w fun e w' => ∃ A' c', e = .returned (.slice A' fl.length c') ∧ SlAt encWr w' (Bl w'.heap.size) A' fl ∧ Below w.heap.size w w' := by
  have H2 : Hid (∀ w', Below w.heap.size w w' → SlAt (encSl encWr) w' (Bl w.heap.size) A ls) := fun w' hb => h1.below hb
  clear h1
  have HFL := Lib.hid hfl; clear hfl
  have hmono : ∀ k, totL (ls.take k) ≤ totL ls := by
    intro k
    have := congrArg (fun l => l.flatten.length) (List.take_append_drop k ls)
    simp only [List.flatten_append, List.length_append] at this
    unfold totL
    omega
  have HM := Lib.hid hmono; clear hmono
  go_enter Try.func45, Try.ntmps45
  go_wp2
  go_loopw [3, 11] (fun t i wr => wr = w ∧ ∃ k : Nat, k ≤ ls.length ∧ i = .int .i64 k ∧ t = .int .i64 (totL (ls.take k) : Nat)) (fun _ i _ => ls.length - (intOf i).toNat)
  case atStart => exact ⟨rfl, 0, by omega, rfl, rfl⟩
  case round =>
    obtain ⟨rfl, k, hk, rfl, rfl⟩ := hrel
    by_cases hlt : k < ls.length
    · obtain ⟨b, off, D, dc, rfl, hb, g0, hD, hn1, hn2⟩ := (H2.out _ (Below.refl _ _)).sl hlt
      have hnn : (0 : Int) ≤ k := by omega
      have hki : (k : Int) < ls.length := by omega
      have hsn : Hid (totL (ls.take (k + 1)) = totL (ls.take k) + ls[k].length) := by
        rw [List.take_succ_eq_append_getElem hlt]; exact totL_snoc _ _
      have hb2 := HM.out (k + 1)
      rw [hsn.out] at hb2
      go_wp2
      go_roundw
      case rel => exact ⟨by trivial, k + 1, hlt, by go_num, by rw [hsn.out]; go_num⟩
      case measure => simp [intOf]; omega
    · have hkk : k = ls.length := by omega
      subst hkk
      rw [List.take_length]
      go_wp2_with fail
      refine (growW_any (totL ls) _ ht).mono ?_
      rintro e w1 ⟨A1, c1, rfl, hO1, hb1⟩
      have HO1 := Lib.hid hO1; clear hO1
      go_wp2
      go_loopw [6, 27] (fun v i w2 => ∃ (k : Nat) (B : Option Addr) (vc : Nat) (out : List Wr), k ≤ ls.length ∧ i = .int .i64 k ∧ v = .slice B out.length vc ∧ Below wr.heap.size wr w2 ∧ Hid (out = (ls.take k).flatten) ∧ Hid (OwnW encWr w2 wr.heap.size 0 35 (.slice B out.length vc) out)) (fun _ i _ => ls.length - (intOf i).toNat)
      case atStart => exact ⟨0, A1, c1, [], by omega, rfl, rfl, hb1, by simp [Hid], HO1.out.more (fun _ h => h.elim) (fun g hg h => h.2 hg)⟩
      case round =>
        obtain ⟨wo, rfl⟩ : ∃ wo : World, wo = wr := ⟨_, rfl⟩
        obtain ⟨k, B, vc, out, hk2, rfl, rfl, hB, hout, hown⟩ := hrel
        by_cases hlt2 : k < ls.length
        · obtain ⟨b, off, D, dc, rfl, hb, g0, hD, hn1, hn2⟩ := (H2.out wo hB).sl hlt2
          have hbl : b < wr.heap.size := hb
          have hnn : (0 : Int) ≤ k := by omega
          have hki : (k : Int) < ls.length := by omega
          have hsz := hB.size
          have hb2 := HM.out (k + 1)
          rw [List.take_succ_eq_append_getElem hlt2, totL_snoc] at hb2
          have hol : out.length + ls[k].length ≤ 1000000 := by
            have e : out.length = totL (ls.take k) := by rw [hout.out]; rfl
            omega
          have hsrc := Lib.hid (show SlAt encWr wo (fun b => Nw 0 wo.heap.size b ∧ (Value.slice B out.length vc).ownBlock ≠ some b) D ls[k] from hD.more (fun g hg => ⟨⟨Nat.zero_le _, Nat.lt_of_lt_of_le hg hsz⟩, fun e => by have := (hown.out.lt g e).1; have : g < wr.heap.size := hg; omega⟩))
          go_wp2_with (at_builtin; refine Hid.out ?_)
          change wpList _ _ _ _ _ _
          refine wpList_appAll (E := encWr) tyWrs rfl _ _ rfl rfl hown.out rfl rfl hsrc.out (fun _ h => h.1.2) hsz (by simp [maxLen]; omega) (by omega) ?_
          intro A' c' w5 hown5 hg5 hat5
          have hok5 := Lib.hid (OwnW.app hown5 hg5 hat5)
          clear g0
          go_wp2
          go_roundw
          case rel =>
            refine ⟨k + 1, A', c', out ++ ls[k], by omega, by go_num, by simp, hB.grown hg5 hsz (fun g h => (hown.out.lt g h).1), ?_, ?_⟩
            · rw [List.take_succ_eq_append_getElem hlt2, List.flatten_append, ← hout.out]; simp [Hid]
            · have := hok5.out; simpa [Hid] using this
          case measure => simp [intOf]; omega
        · have hkk2 : k = ls.length := by omega
          subst hkk2
          go_wp2
          go_ret
          have e := hout.out
          rw [List.take_length, HFL.out] at e
          subst e
          obtain ⟨A', c', he, _, _, hr⟩ := hown.out.rd0
          simp only [List.cons.injEq, Value.slice.injEq, and_true, true_and] at he
          obtain ⟨rfl, rfl⟩ := he
          exact ⟨B, vc, rfl, hr, hB⟩
end Go.Proofs.Ytfahbhjlkdcnpaa

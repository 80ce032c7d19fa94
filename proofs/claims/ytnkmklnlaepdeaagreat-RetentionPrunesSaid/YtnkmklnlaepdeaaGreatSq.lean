/-
  The walks of Sectors and Same.
  The walks of check (with placed), Grow, Concat, write.
  The walks of slices.Grow, slices.Concat at writes; write.
  The walk of Merge (the program).
  The walks of write and Restrict (the program).
  The walk of Restrict (the program).
  The walk of awake: the examples of the chapter.
  The examples of the chapter, in plain words: what Fold, Merge and Restrict give for them.
  The walk of awake.
-/
import Derived.Test.YtnkmklnlaepdeaaGreatPl
import Derived.Test.YtnkmklnlaepdeaaGreatEb
import Derived.Test.YtnkmklnlaepdeaaGreatPg
import Derived.Test.YtnkmklnlaepdeaaGreatOpen
set_option linter.unusedVariables false
set_option linter.unusedSimpArgs false
set_option linter.unusedSectionVars false
set_option linter.unnecessarySimpa false
namespace Go.Proofs.YtnkmklnlaepdeaaGreat
open Go.RowKit Go.ChangeMaps

theorem same_any (A A' : Option Addr) (c c' : Nat) (S S' : Nat → Prop) (l m : List Wr) (w : World) (h1 : SlAt encWr w S A l) (h2 : SlAt encWr w S' A' m) (hs : l.length ≤ 9223372036854775807) (ht : m.length ≤ 9223372036854775807) (q : Bool) (hq : (l == m) = q) :
    Calls Tryz.prog 32 #[.slice A l.length c, .slice A' m.length c'] w fun e w' => e = .returned (.bool q) ∧ Below w.heap.size w w' := by
  have hc := Lib.hid (sameWrs_any A A' c c' S S' l m w h1 h2 hs ht)
  rw [hq] at hc
  have HQ := Lib.hid hq; clear hq h1 h2
  go_enter Tryz.func32, Tryz.ntmps32
  go_wp2_with fail
  refine hc.out.mono ?_
  rintro e w1 ⟨rfl, hd⟩
  go_wp2
  go_ret
  exact ⟨rfl, hd.below _⟩

end Go.Proofs.YtnkmklnlaepdeaaGreat

namespace Go.Proofs.YtnkmklnlaepdeaaGreat
open Go.RowKit Go.ChangeMaps

set_option maxHeartbeats 4000000 in
theorem checkP_any (A : Option Addr) (c : Nat) (l : List Wr) (w : World) (h1 : SlAt encWr w (Bl w.heap.size) A l) (hs : l.length ≤ 9223372036854775807) :
    Calls Tryz.prog 64 #[.slice A l.length c, .func (.func 86) #[] #[]] w fun e w' => e = .returned (.int .i64 (chkN placedN l)) ∧ Below w.heap.size w w' := by
  have H2 : Hid (∀ w', Below w.heap.size w w' → SlAt encWr w' (Bl w.heap.size) A l) := fun w' hb => h1.below hb
  clear h1
  go_enter Tryz.func64, Tryz.ntmps64
  go_wp2
  go_loopw [11] (fun i wr => ∃ k : Nat, k ≤ l.length ∧ i = .int .i64 k ∧ Below w.heap.size w wr ∧ Hid (∀ x ∈ (withPrev l).take k, stepErr placedN x = 0)) (fun i _ => l.length - (intOf i).toNat)
  case atStart => exact ⟨0, by omega, rfl, Below.refl _ _, by simp [Hid]⟩
  case round =>
    obtain ⟨k, hk, rfl, hB, hz⟩ := hrel
    by_cases hlt : k < l.length
    · obtain ⟨b, off, D, dc, rfl, hb, g0, g1, g2, hD, hn1, hn2, hi1, hi2⟩ := (H2.out wr hB).wr hlt
      have hbl : b < w.heap.size := hb
      have hnn : (0 : Int) ≤ k := by omega
      have hki : (k : Int) < l.length := by omega
      unfold maxLen at hn2
      have hn3 : l[k].2.2.length ≤ 9223372036854775807 := by omega
      have hsz := hB.size
      obtain ⟨pn, hpn⟩ : ∃ pn, Hid (placedN l[k] = pn) := ⟨placedN l[k], Lib.hid rfl⟩
      obtain ⟨x, hx⟩ : ∃ x, Hid (x = l[k]) := ⟨_, Lib.hid rfl⟩
      rw [← hx.out] at g0 g1 g2 hn1 hi1 hi2 hn3 hpn
      obtain ⟨v, s, data⟩ := x
      simp only at g0 g1 g2 hn1 hi1 hi2 hn3 hpn
      have hcall := fun W => placed8 v s data.length D dc W hn3 data rfl pn hpn.out
      have HCALL := Lib.hid hcall; clear hcall
      by_cases hp0 : pn = 0
      · have hp1 : (pn != 0) = false := by simp [hp0]
        have HP := Lib.hid hp0; clear hp0
        cases k with
        | zero =>
          have hpr : Hid ((withPrev l)[0]'(by rw [withPrev_len]; exact hlt) = (none, (v, s, data))) := by rw [withPrev_zero hlt, ← hx.out]; exact rfl
          simp only [Nat.zero_mul, Nat.add_zero] at g0 g1 g2
          go_wp2_with fail
          refine (HCALL.out _).mono ?_
          rintro e w1 ⟨rfl, hb1⟩
          have HB1 := Lib.hid ((hB.alloc hsz _).trans (hb1.mono (by simp; omega)))
          clear g0 g1 g2
          go_wp2
          go_roundw
          case rel => exact ⟨1, hlt, by go_num, HB1.out, takeSnoc hlt _ hpr.out hz.out (by simp [stepErr, hpn.out, HP.out])⟩
          case measure => simp [intOf]; omega
        | succ k =>
          have hlt1 : k < l.length := by omega
          have hpr : Hid ((withPrev l)[k + 1]'(by rw [withPrev_len]; exact hlt) = (some l[k], (v, s, data))) := by rw [withPrev_succ hlt, ← hx.out]; exact rfl
          have hpok := placed_ok (takePrev hlt1 hz.out)
          obtain ⟨b', off', D', dc', he, hb', f0, f1, f2, hD', hm1, hm2, hj1, hj2⟩ := (H2.out wr hB).wr hlt1
          injection he with he
          injection he with he1 he2
          subst he1 he2
          obtain ⟨y, hy⟩ : ∃ y, Hid (y = l[k]) := ⟨_, Lib.hid rfl⟩
          rw [← hy.out] at f0 f1 f2 hm1 hj1 hj2 hpok hpr
          obtain ⟨v', s', data'⟩ := y
          simp only at f0 f1 f2 hm1 hj1 hj2 hpok
          obtain ⟨o1, o2, o3, o4, o5⟩ := hpok
          have e5 : ((k + 1 : Nat) : Int) = (k : Int) + 1 := by omega
          rw [e5] at hki ⊢
          have hk1 : (((k : Int) + 1) == 0) = false := by rw [beq_eq_false_iff_ne]; omega
          clear hD hD' hn1 hm1 hm2 hn2
          by_cases d1 : v < v'
          · have hst : Hid (stepErr placedN (some (v', s', data'), (v, s, data)) = 3) := by
              unfold stepErr
              rw [if_neg (by rw [hpn.out, HP.out]; simp)]
              exact if_pos (Or.inl d1)
            go_wp2_with fail
            refine (HCALL.out _).mono ?_
            rintro e w1 ⟨rfl, hb1⟩
            have hB1 : Below w.heap.size w w1 := (hB.alloc hsz _).trans (hb1.mono (by simp; omega))
            have r0 := cellAft hb1 f0
            have r1 := cellAft hb1 f1
            have r2 := cellAft hb1 f2
            obtain ⟨t0, t1, t2, tf⟩ := blk3 (boxAft hb1)
            have hsz1 := hb1.size
            simp only [World.size_alloc] at hsz1
            have hwl : wr.heap.size < w1.heap.size := by omega
            have hbw : b < w1.heap.size := by omega
            have HB1 := Lib.hid hB1; clear hB1 hb1 f0 f1 f2 g0 g1 g2
            go_wp2
            go_ret
            refine ⟨ret_int ?_, HB1.out.alloc (by omega) _⟩
            have e := chk_at hlt _ hpr.out hz.out (by rw [hst.out]; decide)
            rw [e, hst.out]
          · by_cases d2 : v = v'
            · have d2' : (v == v') = true := by simp [d2]
              have HD2 := Lib.hid d2; clear d2
              by_cases d3 : s ≤ s' + data'.length
              · have hst : Hid (stepErr placedN (some (v', s', data'), (v, s, data)) = 3) := by
                  unfold stepErr
                  rw [if_neg (by rw [hpn.out, HP.out]; simp)]
                  exact if_pos (Or.inr ⟨HD2.out, d3⟩)
                go_wp2_with fail
                refine (HCALL.out _).mono ?_
                rintro e w1 ⟨rfl, hb1⟩
                have hB1 : Below w.heap.size w w1 := (hB.alloc hsz _).trans (hb1.mono (by simp; omega))
                have r0 := cellAft hb1 f0
                have r1 := cellAft hb1 f1
                have r2 := cellAft hb1 f2
                obtain ⟨t0, t1, t2, tf⟩ := blk3 (boxAft hb1)
                have hsz1 := hb1.size
                simp only [World.size_alloc] at hsz1
                have hwl : wr.heap.size < w1.heap.size := by omega
                have hbw : b < w1.heap.size := by omega
                have HB1 := Lib.hid hB1; clear hB1 hb1 f0 f1 f2 g0 g1 g2
                go_wp2
                go_ret
                refine ⟨ret_int ?_, HB1.out.alloc (by omega) _⟩
                have e := chk_at hlt _ hpr.out hz.out (by rw [hst.out]; decide)
                rw [e, hst.out]
              · have hst : Hid (stepErr placedN (some (v', s', data'), (v, s, data)) = 0) := by
                  unfold stepErr
                  rw [if_neg (by rw [hpn.out, HP.out]; simp)]
                  exact if_neg (fun h => by have := HD2.out; simp only at h; omega)
                go_wp2_with fail
                refine (HCALL.out _).mono ?_
                rintro e w1 ⟨rfl, hb1⟩
                have hB1 : Below w.heap.size w w1 := (hB.alloc hsz _).trans (hb1.mono (by simp; omega))
                have r0 := cellAft hb1 f0
                have r1 := cellAft hb1 f1
                have r2 := cellAft hb1 f2
                obtain ⟨t0, t1, t2, tf⟩ := blk3 (boxAft hb1)
                have hsz1 := hb1.size
                simp only [World.size_alloc] at hsz1
                have hwl : wr.heap.size < w1.heap.size := by omega
                have hbw : b < w1.heap.size := by omega
                have HB1 := Lib.hid hB1; clear hB1 hb1 f0 f1 f2 g0 g1 g2
                go_wp2
                go_roundw
                case rel => exact ⟨k + 1 + 1, hlt, by go_num, HB1.out.alloc (by omega) _, takeSnoc hlt _ hpr.out hz.out hst.out⟩
                case measure => simp [intOf]; omega
            · have d2' : (v == v') = false := by simp [d2]
              have HD2 := Lib.hid d2; clear d2
              have hst : Hid (stepErr placedN (some (v', s', data'), (v, s, data)) = 0) := by
                unfold stepErr
                rw [if_neg (by rw [hpn.out, HP.out]; simp)]
                exact if_neg (fun h => by have := HD2.out; simp only at h; omega)
              go_wp2_with fail
              refine (HCALL.out _).mono ?_
              rintro e w1 ⟨rfl, hb1⟩
              have hB1 : Below w.heap.size w w1 := (hB.alloc hsz _).trans (hb1.mono (by simp; omega))
              have r0 := cellAft hb1 f0
              have r1 := cellAft hb1 f1
              have r2 := cellAft hb1 f2
              obtain ⟨t0, t1, t2, tf⟩ := blk3 (boxAft hb1)
              have hsz1 := hb1.size
              simp only [World.size_alloc] at hsz1
              have hwl : wr.heap.size < w1.heap.size := by omega
              have hbw : b < w1.heap.size := by omega
              have HB1 := Lib.hid hB1; clear hB1 hb1 f0 f1 f2 g0 g1 g2
              go_wp2
              go_roundw
              case rel => exact ⟨k + 1 + 1, hlt, by go_num, HB1.out.alloc (by omega) _, takeSnoc hlt _ hpr.out hz.out hst.out⟩
              case measure => simp [intOf]; omega
      · have hp1 : (pn != 0) = true := by simp [hp0]
        have HP := Lib.hid hp0; clear hp0
        have hst : Hid (∀ o : Option Wr, stepErr placedN (o, (v, s, data)) = pn) := fun o => by
          unfold stepErr
          rw [if_pos (by rw [hpn.out]; exact HP.out)]
          exact hpn.out
        go_wp2_with fail
        refine (HCALL.out _).mono ?_
        rintro e w1 ⟨rfl, hb1⟩
        have HB1 := Lib.hid ((hB.alloc hsz _).trans (hb1.mono (by simp; omega)))
        clear g0 g1 g2
        go_wp2
        go_ret
        refine ⟨ret_int ?_, HB1.out⟩
        cases k with
        | zero =>
          have e := chk_at hlt _ ((withPrev_zero hlt).trans (by rw [← hx.out])) hz.out (by rw [hst.out]; exact HP.out)
          rw [e, hst.out]
        | succ k =>
          have e := chk_at hlt _ ((withPrev_succ hlt).trans (by rw [← hx.out])) hz.out (by rw [hst.out]; exact HP.out)
          rw [e, hst.out]
    · have hkk : k = l.length := by omega
      subst hkk
      go_wp2
      go_ret
      exact ⟨ret_int (chk_zero hz.out).symm, hB⟩
end Go.Proofs.YtnkmklnlaepdeaaGreat

namespace Go.Proofs.YtnkmklnlaepdeaaGreat
open Go.RowKit Go.ChangeMaps

theorem run_zeros {P : Program} {t ti e : TypeId} {size bytes : Nat} (hT : SliceTy P t e size bytes) (hti : P.underlying ti = some (.int .i64)) (ty : TypeId) (w : World) (n : Nat) (h0 : 0 < n) (hb : n * bytes ≤ 140737488355328) (h63 : n ≤ 4611686018427387904) :
    ∃ cur cap, (Builtin.append_ #[t, ti] ty #[.slice none 0 0, .int .i64 n]).run P w = .ok (.slice (some ⟨w.heap.size, 0, none⟩) n cap) (w.drew.alloc (.cells cur e)) ∧ n ≤ cap ∧ cap ≤ maxLen ∧ cur.size = cap * size := by
  obtain ⟨i, z, hi, hz, hsz, hby, hzs⟩ := hT.info
  subst hsz hby
  have hn : n ≠ 0 := by omega
  have hn2 : n * i.size ≠ 0 := Nat.mul_ne_zero hn (by have := hT.pos; omega)
  have h63' : ¬ (9223372036854775807 < (n : Int)) := by omega
  have h48' : ¬ (281474976710656 < Builtin.nextslicecap n 0 * i.bytes) := by rw [nextslicecap_zero h0]; omega
  have hbi : ((n : Int) * (i.bytes : Int)) ≤ 140737488355328 := by
    have h : ((n * i.bytes : Nat) : Int) ≤ 140737488355328 := by omega
    rwa [Int.natCast_mul] at h
  have hbi' : ¬ (281474976710656 < (n : Int) * (i.bytes : Int)) := by omega
  have hw : IntKind.i64.wrap (n : Int) = n := IntWalk.i64_in _ (by omega)
  have hneg : ¬ ((n : Int) < 0) := by omega
  have hle : ¬ ((n : Int) ≤ 0) := by omega
  have hmax : max (n : Int) 0 = n := by omega
  refine ⟨Builtin.zeroCells z.cells n ++ Builtin.zeroCells z.cells (grownCap w n 0 e - n), grownCap w n 0 e, ?_, grownCap_ge w n 0 e, grownCap_le_maxLen w n 0 e (by simp [maxLen]; omega), ?_⟩
  · simp [Builtin.append_, run_underlying hT.und, run_underlying hti, sizeOf, typeInfo, zeroValue, hi, hz, Builtin.lenOf, hn, hn2, h63', h48', Question.forced, run_firstCells_none, newRow, grownCap, asInt, asIntOf, hw, hneg, hbi', hmax, hle]
  · have := grownCap_ge w n 0 e
    simp only [Array.size_append, size_zeroCells, hzs, ← Nat.add_mul]
    congr 1
    omega

theorem wpList_zeros {P : Program} {w : World} {t ti e : TypeId} {size bytes : Nat} {ops : Array Oper} {rest : List Oper} {o : Oper} {a : Act} {Q : Exit → Act → World → Prop} (hT : SliceTy P t e size bytes) (hti : P.underlying ti = some (.int .i64)) (hgd : o.guard = none) (s x : Operand)
    (ho : o.op = .call { callee := .builtin .append, args := #[s, x], argTypes := #[t, ti] }) (hs : a.eval s = .slice none 0 0) (n : Nat) (hx : a.eval x = .int .i64 n) (h0 : 0 < n) (hb : n * bytes ≤ 140737488355328) (h63 : n ≤ 4611686018427387904)
    (h : ∀ cur cap, n ≤ cap → cap ≤ maxLen → cur.size = cap * size → wpList P ops Q rest (a.put o.dst (.slice (some ⟨w.heap.size, 0, none⟩) n cap)) (w.alloc (.cells cur e)).drew) : wpList P ops Q (o :: rest) a w := by
  refine wpList_plain hgd fun K hK => ?_
  obtain ⟨cur, cap, hr, h1, h2, h3⟩ := run_zeros hT hti o.type w n h0 hb h63
  unfold Oper.wp execOp
  simp only [ho, resolve, invoke, builtin, Sem.run_bind, Sem.run_pure, Result.andThen_ok, List.map_toArray, List.map_cons, List.map_nil, hs, hx, hr]
  exact hK _ _ (h cur cap h1 h2 h3)
theorem growW_any (n : Nat) (w : World) (hn : n ≤ 1000000) :
    Calls Tryz.prog 89 #[.slice none 0 0, .int .i64 n] w fun e w' => ∃ A c, e = .returned (.slice A 0 c) ∧ Own encWr w' w.heap.size 74 (fun _ => False) (.slice A 0 c) [] ∧ Below w.heap.size w w' := by
  by_cases h0 : n = 0
  · subst h0
    go_enter Tryz.func89, Tryz.ntmps89
    go_wp2
    go_ret
    exact ⟨none, 0, rfl, Own.nil_, Below.refl _ _⟩
  · have hpos : (0 : Int) < n := by omega
    have hcl : ¬ ((n : Int) < 0) := by omega
    go_enter Tryz.func89, Tryz.ntmps89
    go_wp2_with (at_builtin; refine Hid.out ?_)
    change wpList _ _ _ _ _ _
    refine wpList_zeros tyWrs Tryz.underlying3 rfl _ _ rfl rfl n rfl (by omega) (by omega) (by omega) ?_
    intro cur cap hc1 hc2 hc3
    have hm : Hid (Own encWr (w.alloc (.cells cur 74)).drew w.heap.size 74 (fun _ => False) (.slice (some ⟨w.heap.size, 0, none⟩) 0 cap) []) := Own.blk (Own.made (cur := cur) (Nat.le_refl _) hc2 hc3 (fun h => h)) (fun _ _ => rfl)
    unfold maxLen at hc2
    go_wp2
    go_ret
    exact ⟨_, cap, rfl, hm.out, ((Below.refl _ _).alloc (Nat.le_refl _) _).drew⟩
theorem tyWrss : SliceTy Tryz.prog 130 43 1 24 := sliceTy_mk (z := .slice none 0 0) Tryz.underlying130 (by kernel_rfl) rfl (by decide)
def totL (ls : List (List Wr)) : Nat := ls.flatten.length
theorem totL_snoc (ls : List (List Wr)) (l : List Wr) : totL (ls ++ [l]) = totL ls + l.length := by simp [totL]
set_option maxHeartbeats 1000000 in
theorem concatW_any (A : Option Addr) (c : Nat) (ls : List (List Wr)) (w : World) (h1 : SlAt (encSl encWr) w (Bl w.heap.size) A ls) (hs : ls.length ≤ 1000) (ht : totL ls ≤ 1000000) (fl : List Wr) (hfl : ls.flatten = fl) :
    Calls Tryz.prog 72 #[.slice A ls.length c] w fun e w' => ∃ A' c', e = .returned (.slice A' fl.length c') ∧ SlAt encWr w' (Bl w'.heap.size) A' fl ∧ Below w.heap.size w w' := by
  have H2 : Hid (∀ w', Below w.heap.size w w' → SlAt (encSl encWr) w' (Bl w.heap.size) A ls) := fun w' hb => h1.below hb
  clear h1
  have HFL := Lib.hid hfl; clear hfl
  have hmono : ∀ k, totL (ls.take k) ≤ totL ls := by
    intro k
    have := congrArg (fun l => l.flatten.length) (List.take_append_drop k ls)
    simp only [List.flatten_append, List.length_append] at this
    unfold totL
    omega
  have HM := Lib.hid hmono; clear hmono
  go_enter Tryz.func72, Tryz.ntmps72
  go_wp2
  go_loopw [3, 11] (fun t i wr => wr = w ∧ ∃ k : Nat, k ≤ ls.length ∧ i = .int .i64 k ∧ t = .int .i64 (totL (ls.take k) : Nat)) (fun _ i _ => ls.length - (intOf i).toNat)
  case atStart => exact ⟨rfl, 0, by omega, rfl, rfl⟩
  case round =>
    obtain ⟨rfl, k, hk, rfl, rfl⟩ := hrel
    by_cases hlt : k < ls.length
    · obtain ⟨b, off, D, dc, rfl, hb, g0, hD, hn1, hn2⟩ := (H2.out _ (Below.refl _ _)).sl hlt
      have hnn : (0 : Int) ≤ k := by omega
      have hki : (k : Int) < ls.length := by omega
      have hsn : Hid (totL (ls.take (k + 1)) = totL (ls.take k) + ls[k].length) := by
        rw [List.take_succ_eq_append_getElem hlt]; exact totL_snoc _ _
      have hb2 := HM.out (k + 1)
      rw [hsn.out] at hb2
      go_wp2
      go_roundw
      case rel => exact ⟨by trivial, k + 1, hlt, by go_num, by rw [hsn.out]; go_num⟩
      case measure => simp [intOf]; omega
    · have hkk : k = ls.length := by omega
      subst hkk
      rw [List.take_length]
      go_wp2_with fail
      refine (growW_any (totL ls) _ ht).mono ?_
      rintro e w1 ⟨A1, c1, rfl, hO1, hb1⟩
      have HO1 := Lib.hid hO1; clear hO1
      go_wp2
      go_loopw [6, 27] (fun v i w2 => ∃ (k : Nat) (B : Option Addr) (vc : Nat) (out : List Wr), k ≤ ls.length ∧ i = .int .i64 k ∧ v = .slice B out.length vc ∧ Below wr.heap.size wr w2 ∧ Hid (out = (ls.take k).flatten) ∧ Hid (OwnW encWr w2 wr.heap.size 0 74 (.slice B out.length vc) out)) (fun _ i _ => ls.length - (intOf i).toNat)
      case atStart => exact ⟨0, A1, c1, [], by omega, rfl, rfl, hb1, by simp [Hid], HO1.out.more (fun _ h => h.elim) (fun g hg h => h.2 hg)⟩
      case round =>
        obtain ⟨wo, rfl⟩ : ∃ wo : World, wo = wr := ⟨_, rfl⟩
        obtain ⟨k, B, vc, out, hk2, rfl, rfl, hB, hout, hown⟩ := hrel
        by_cases hlt2 : k < ls.length
        · obtain ⟨b, off, D, dc, rfl, hb, g0, hD, hn1, hn2⟩ := (H2.out wo hB).sl hlt2
          have hbl : b < wr.heap.size := hb
          have hnn : (0 : Int) ≤ k := by omega
          have hki : (k : Int) < ls.length := by omega
          have hsz := hB.size
          have hb2 := HM.out (k + 1)
          rw [List.take_succ_eq_append_getElem hlt2, totL_snoc] at hb2
          have hol : out.length + ls[k].length ≤ 1000000 := by
            have e : out.length = totL (ls.take k) := by rw [hout.out]; rfl
            omega
          have hsrc := Lib.hid (show SlAt encWr wo (fun b => Nw 0 wo.heap.size b ∧ (Value.slice B out.length vc).ownBlock ≠ some b) D ls[k] from hD.more (fun g hg => ⟨⟨Nat.zero_le _, Nat.lt_of_lt_of_le hg hsz⟩, fun e => by have := (hown.out.lt g e).1; have : g < wr.heap.size := hg; omega⟩))
          go_wp2_with (at_builtin; refine Hid.out ?_)
          change wpList _ _ _ _ _ _
          refine wpList_appAll (E := encWr) tyWrs rfl _ _ rfl rfl hown.out rfl rfl hsrc.out (fun _ h => h.1.2) hsz (by simp [maxLen]; omega) (by omega) ?_
          intro A' c' w5 hown5 hg5 hat5
          have hok5 := Lib.hid (OwnW.app hown5 hg5 hat5)
          clear g0
          go_wp2
          go_roundw
          case rel =>
            refine ⟨k + 1, A', c', out ++ ls[k], by omega, by go_num, by simp, hB.grown hg5 hsz (fun g h => (hown.out.lt g h).1), ?_, ?_⟩
            · rw [List.take_succ_eq_append_getElem hlt2, List.flatten_append, ← hout.out]; simp [Hid]
            · have := hok5.out; simpa [Hid] using this
          case measure => simp [intOf]; omega
        · have hkk2 : k = ls.length := by omega
          subst hkk2
          go_wp2
          go_ret
          have e := hout.out
          rw [List.take_length, HFL.out] at e
          subst e
          obtain ⟨A', c', he, _, _, hr⟩ := hown.out.rd0
          simp only [List.cons.injEq, Value.slice.injEq, and_true, true_and] at he
          obtain ⟨rfl, rfl⟩ := he
          exact ⟨B, vc, rfl, hr, hB⟩
end Go.Proofs.YtnkmklnlaepdeaaGreat

namespace Go.Proofs.YtnkmklnlaepdeaaGreat
open Go.RowKit Go.ChangeMaps

theorem two_at {w : World} {b : Nat} {T : TypeId} {S : Nat → Prop} {A A' : Option Addr} {c c' : Nat} {l m : List Wr} (h : w.heap[b]? = some (.cells #[.slice A l.length c, .slice A' m.length c'] T (0, 0))) (hS : S b) (h1 : SlAt encWr w S A l) (h2 : SlAt encWr w S A' m) (k1 : l.length ≤ c) (k2 : c ≤ maxLen) (k3 : m.length ≤ c') (k4 : c' ≤ maxLen) :
    SlAt (encSl encWr) w S (some ⟨b, 0, none⟩) [l, m] := by
  refine fun _ => ⟨b, 0, rfl, hS, fun i x hx => ?_⟩
  have hsz : (encSl encWr).size = 1 := rfl
  match i, hx with
  | 0, hx =>
    simp at hx; subst hx
    refine ⟨[.slice A l.length c], fun j v hv => ?_, ⟨A, c, rfl, k1, k2, h1⟩⟩
    rw [cell_of_row w b _ _ T _ h]
    match j, hv with
    | 0, hv => simpa [hsz] using hv
  | 1, hx =>
    simp at hx; subst hx
    refine ⟨[.slice A' m.length c'], fun j v hv => ?_, ⟨A', c', rfl, k3, k4, h2⟩⟩
    rw [cell_of_row w b _ _ T _ h]
    match j, hv with
    | 0, hv => simpa [hsz] using hv

end Go.Proofs.YtnkmklnlaepdeaaGreat

namespace Go.Proofs.YtnkmklnlaepdeaaGreat
open Go.RowKit Go.ChangeMaps

def secOf (b : Int) : Sec := [b, 0, 0, 0, 0, 0, 0, 0]
theorem secOf_ok {b : Int} (h : 0 ≤ b ∧ b < 256) : OkSec (secOf b) := ⟨rfl, by intro x hx; simp [secOf] at hx; rcases hx with rfl | rfl <;> omega⟩
def WriteRet (x : Wr) (w : World) (e : Ending) (w' : World) : Prop := ∃ D c, e = .returned (.agg #[.int .i64 x.1, .int .i64 x.2.1, .slice D x.2.2.length c]) ∧ x.2.2.length ≤ c ∧ c ≤ maxLen ∧ SlAt encSec w' (Nw w.heap.size w'.heap.size) D x.2.2 ∧ Below w.heap.size w w'
end Go.Proofs.YtnkmklnlaepdeaaGreat

namespace Go.Proofs.YtnkmklnlaepdeaaGreat
open Go.RowKit Go.ChangeMaps

def selB (v : Int) (keep : List Ext) (p : Pl) : Bool := p.1 == v && keep.any (inExt p.2)
def resM (M : Eff) (v : Int) (keep : List Ext) : Eff := M.filter fun x => selB v keep x.1
def restrictL (l : List Wr) (v : Int) (keep : List Ext) : List Wr := if chkN placedN l = 0 then canonL (sortedM (resM (effM l) v keep)) else []
theorem optM_of_mem {M : Eff} (hn : (M.map (·.1)).Nodup) {x : Pl × Sec} (hx : x ∈ M) : optM M x.1 = some x.2 := by
  have h := getM_mem hn (List.mem_map.2 ⟨x, hx, rfl⟩)
  have hs : (optM M x.1).isSome := (optM_mem M x.1).2 (List.mem_map.2 ⟨x, hx, rfl⟩)
  obtain ⟨s, hs⟩ := Option.isSome_iff_exists.1 hs
  unfold optM at hs ⊢
  cases hf : M.find? (fun y => y.1 == x.1) with
  | none => rw [hf] at hs; simp at hs
  | some y =>
    have hy1 := List.mem_of_find?_eq_some hf
    have hy2 : y.1 = x.1 := by simpa using List.find?_some hf
    have : y = x := by
      rw [List.nodup_iff_pairwise_ne, List.pairwise_map] at hn
      rcases Decidable.em (y = x) with e | e
      · exact e
      · exfalso
        obtain ⟨i, hi, hyi⟩ := List.mem_iff_getElem.1 hy1
        obtain ⟨j, hj, hxj⟩ := List.mem_iff_getElem.1 hx
        rcases Nat.lt_trichotomy i j with h1 | h1 | h1
        · exact List.pairwise_iff_getElem.1 hn i j hi hj h1 (by rw [hyi, hxj]; exact hy2)
        · subst h1; exact e (hyi.symm.trans hxj)
        · exact List.pairwise_iff_getElem.1 hn j i hj hi h1 (by rw [hyi, hxj]; exact hy2.symm)
    rw [this]; rfl
theorem resM_nodup {M : Eff} (hn : (M.map (·.1)).Nodup) (v : Int) (keep : List Ext) : ((resM M v keep).map (·.1)).Nodup := (List.filter_sublist.map _).nodup hn
theorem optM_res {M : Eff} (hn : (M.map (·.1)).Nodup) (v : Int) (keep : List Ext) (p : Pl) : optM (resM M v keep) p = if selB v keep p = true then optM M p else none := by
  by_cases h : (optM (resM M v keep) p).isSome
  · obtain ⟨x, hx, rfl⟩ := List.mem_map.1 ((optM_mem _ _).1 h)
    have hx2 := List.mem_filter.1 hx
    rw [optM_of_mem (resM_nodup hn v keep) hx, if_pos hx2.2, optM_of_mem hn hx2.1]
  · have h0 : optM (resM M v keep) p = none := by simpa using h
    rw [h0]
    split
    · rename_i hs
      rcases hm : optM M p with _ | s
      · rfl
      · exfalso
        obtain ⟨x, hx, rfl⟩ := List.mem_map.1 ((optM_mem M p).1 (by rw [hm]; rfl))
        exact h ((optM_mem _ _).2 (List.mem_map.2 ⟨x, List.mem_filter.2 ⟨hx, hs⟩, rfl⟩))
    · rfl
theorem sortedM_ext {M N : Eff} (hm : (M.map (·.1)).Nodup) (hn : (N.map (·.1)).Nodup) (h : ∀ p, optM M p = optM N p) : sortedM M = sortedM N := by
  have hp : (M.map (·.1)).Perm (N.map (·.1)) := (List.perm_ext_iff_of_nodup hm hn).2 (fun p => by rw [← optM_mem, ← optM_mem, h])
  rw [sortedM, sortedM, sortP_perm hp]
  exact List.map_congr_left fun p _ => by rw [getM_opt, getM_opt, h]
theorem entries_ok {w : World} {b : Nat} {M : Eff} (h : PMap w b M) : ∀ x ∈ M, OkSec x.2 := by
  obtain ⟨_, _, _, _, _, hok⟩ := h
  exact hok

theorem optStep {M todo todo' M2 done : Eff} {x : Pl × Sec} {v : Int} {keep : List Ext} (hn : (M.map (·.1)).Nodup) (hperm : M.Perm (done ++ todo)) (hpm : todo.Perm (x :: todo')) (hopt : ∀ p, optM M2 p = if p ∈ todo.map (·.1) then none else optM (resM M v keep) p) :
    x ∈ M ∧ (∃ done', M.Perm (done' ++ todo')) ∧ (selB v keep x.1 = false → ∀ p, optM M2 p = if p ∈ todo'.map (·.1) then none else optM (resM M v keep) p) ∧
      (selB v keep x.1 = true → ∀ p, optM (putE M2 x.1 x.2) p = if p ∈ todo'.map (·.1) then none else optM (resM M v keep) p) := by
  have hp2 : M.Perm (done ++ (x :: todo')) := hperm.trans (List.Perm.append_left done hpm)
  have hx : x ∈ M := hp2.mem_iff.2 (by simp)
  have hnd : ((done ++ (x :: todo')).map (·.1)).Nodup := (hp2.map (·.1)).nodup_iff.1 hn
  have hxt : x.1 ∉ todo'.map (·.1) := by
    rw [List.map_append, List.nodup_append] at hnd
    exact (List.nodup_cons.1 hnd.2.1).1
  have hmem : ∀ p, p ∈ todo.map (·.1) ↔ p = x.1 ∨ p ∈ todo'.map (·.1) := fun p => by
    rw [(hpm.map (·.1)).mem_iff]; simp
  have hr : optM (resM M v keep) x.1 = if selB v keep x.1 = true then some x.2 else none := by rw [optM_res hn, optM_of_mem hn hx]
  refine ⟨hx, ⟨done ++ [x], by simpa using hp2⟩, fun hs p => ?_, fun hs p => ?_⟩
  · rw [hopt p]
    by_cases h1 : p = x.1
    · subst h1
      rw [if_pos ((hmem _).2 (Or.inl rfl)), if_neg hxt, hr, hs]; simp
    · by_cases h2 : p ∈ todo'.map (·.1)
      · rw [if_pos ((hmem _).2 (Or.inr h2)), if_pos h2]
      · rw [if_neg (fun h => by rcases (hmem p).1 h with h | h; exact h1 h; exact h2 h), if_neg h2]
  · rw [optM_put]
    by_cases h1 : p = x.1
    · subst h1
      rw [if_pos rfl, if_neg hxt, hr, hs]; simp
    · rw [if_neg h1, hopt p]
      by_cases h2 : p ∈ todo'.map (·.1)
      · rw [if_pos ((hmem _).2 (Or.inr h2)), if_pos h2]
      · rw [if_neg (fun h => by rcases (hmem p).1 h with h | h; exact h1 h; exact h2 h), if_neg h2]
end Go.Proofs.YtnkmklnlaepdeaaGreat

namespace Go.Proofs.YtnkmklnlaepdeaaGreat
open Go.RowKit Go.ChangeMaps

theorem lit_at {α : Type} {E : Enc α} {w : World} {S : Nat → Prop} {b : Nat} {T : TypeId} {l : List α} {css : List (List Value)} {cs : Array Value} (hb : w.heap[b]? = some (.cells cs T (0, 0))) (hcs : cs = css.flatten.toArray) (hr : All2 (E.rd w S) css l) (hS : S b) : SlAt E w S (some ⟨b, 0, none⟩) l := by
  subst hcs
  refine fun _ => ⟨b, 0, rfl, hS, fun i x hx => ?_⟩
  obtain ⟨c, hc, hr'⟩ := hr.get hx
  refine ⟨c, fun j v hv => ?_, hr'⟩
  rw [cell_of_row w b _ _ T _ hb]
  have := flatten_at E.size css i j c v hr.sizes hc hv
  rw [show 0 + i * E.size + j = i * E.size + j from by omega]
  simpa using this
theorem u8_lit {w : World} {b : Nat} {T : TypeId} {bs : List Int} {cs : Array Value} (hb : w.heap[b]? = some (.cells cs T (0, 0))) (hcs : cs = (bs.map (Value.int .u8)).toArray) (hB : ∀ x ∈ bs, 0 ≤ x ∧ x < 256) : SlAt encU8 w (Bl w.heap.size) (some ⟨b, 0, none⟩) bs := by
  refine lit_at (css := bs.map fun x => [Value.int .u8 x]) hb ?_ ?_ (Array.getElem?_eq_some_iff.1 hb).1
  · rw [hcs]
    congr 1
    clear hcs hb hB
    induction bs with
    | nil => rfl
    | cons x bs ih => simp [ih]
  · clear hcs hb
    induction bs with
    | nil => exact trivial
    | cons x bs ih => exact ⟨⟨rfl, hB x (by simp)⟩, ih (fun y hy => hB y (by simp [hy]))⟩
theorem foldX (A : Option Addr) (c n : Nat) (l r : List Wr) (hn : l.length = n) (hr : foldL l = r) (he : errOf placedN l = 0) (w : World) (h1 : SlAt encWr w (Bl w.heap.size) A l) (hs : n ≤ 9223372036854775807) :
    Calls Tryz.prog 71 #[.slice A n c] w (RetSlN encWr r 0 w) := by
  subst hn hr
  have := fold_any A c l w h1 hs
  rw [he] at this
  exact this
theorem sameX (A A' : Option Addr) (c c' n m : Nat) (l k : List Wr) (hn : l.length = n) (hm : k.length = m) (w : World) (h1 : SlAt encWr w (Bl w.heap.size) A l) (h2 : SlAt encWr w (Bl w.heap.size) A' k) (hs : n ≤ 9223372036854775807) (ht : m ≤ 9223372036854775807) (he : l = k) :
    Calls Tryz.prog 32 #[.slice A n c, .slice A' m c'] w fun e w' => e = .returned (.bool true) ∧ Below w.heap.size w w' := by
  subst hn hm
  exact same_any A A' c c' _ _ l k w h1 h2 hs ht true (by rw [he]; simp)

/-- a write laid in a slot: its reading -/
structure WrOk (v s : Int) (D : Option Addr) (n c : Nat) (w : World) (d : List Sec) : Prop where
  rd : encWr.rd w (Bl w.heap.size) [.int .i64 v, .int .i64 s, .slice D n c] (v, s, d)
theorem WrOk.fwd {v s : Int} {D : Option Addr} {n c : Nat} {w w' : World} {d : List Sec} (h : WrOk v s D n c w d) (hb : Below w.heap.size w w') : WrOk v s D n c w' d := ⟨Enc.fwd h.rd hb⟩
theorem WrOk.len {v s : Int} {D : Option Addr} {n c : Nat} {w : World} {d : List Sec} (h : WrOk v s D n c w d) : d.length = n := by
  obtain ⟨D', c', he, _⟩ := wr_cs h.rd
  simp at he
  exact he.2.1.symm
section
variable {w : World} {T : TypeId} {v1 s1 v2 s2 v3 s3 : Int} {D1 D2 D3 : Option Addr} {n1 c1 n2 c2 n3 c3 : Nat} {d1 d2 d3 : List Sec}
theorem litW1 (h1 : WrOk v1 s1 D1 n1 c1 w d1) : SlAt encWr (w.alloc (.cells #[.int .i64 v1, .int .i64 s1, .slice D1 n1 c1] T)) (Bl (w.alloc (.cells #[.int .i64 v1, .int .i64 s1, .slice D1 n1 c1] T)).heap.size) (some ⟨w.heap.size, 0, none⟩) [(v1, s1, d1)] :=
  lit_at (css := [[.int .i64 v1, .int .i64 s1, .slice D1 n1 c1]]) (heap_alloc_new _ _) rfl ⟨(h1.fwd (ext_alloc (Below.refl _ _))).rd, trivial⟩ (by simp [Bl])
theorem litW3 (h1 : WrOk v1 s1 D1 n1 c1 w d1) (h2 : WrOk v2 s2 D2 n2 c2 w d2) (h3 : WrOk v3 s3 D3 n3 c3 w d3) :
    SlAt encWr (w.alloc (.cells #[.int .i64 v1, .int .i64 s1, .slice D1 n1 c1, .int .i64 v2, .int .i64 s2, .slice D2 n2 c2, .int .i64 v3, .int .i64 s3, .slice D3 n3 c3] T)) (Bl (w.alloc (.cells #[.int .i64 v1, .int .i64 s1, .slice D1 n1 c1, .int .i64 v2, .int .i64 s2, .slice D2 n2 c2, .int .i64 v3, .int .i64 s3, .slice D3 n3 c3] T)).heap.size) (some ⟨w.heap.size, 0, none⟩) [(v1, s1, d1), (v2, s2, d2), (v3, s3, d3)] :=
  lit_at (css := [[.int .i64 v1, .int .i64 s1, .slice D1 n1 c1], [.int .i64 v2, .int .i64 s2, .slice D2 n2 c2], [.int .i64 v3, .int .i64 s3, .slice D3 n3 c3]]) (heap_alloc_new _ _) rfl ⟨(h1.fwd (ext_alloc (Below.refl _ _))).rd, (h2.fwd (ext_alloc (Below.refl _ _))).rd, (h3.fwd (ext_alloc (Below.refl _ _))).rd, trivial⟩ (by simp [Bl])
theorem litE2 {x1 y1 x2 y2 : Int} (i1 : I64 x1) (i2 : I64 y1) (i3 : I64 x2) (i4 : I64 y2) : SlAt encExt (w.alloc (.cells #[.int .i64 x1, .int .i64 y1, .int .i64 x2, .int .i64 y2] T)) (Bl (w.alloc (.cells #[.int .i64 x1, .int .i64 y1, .int .i64 x2, .int .i64 y2] T)).heap.size) (some ⟨w.heap.size, 0, none⟩) [(x1, y1), (x2, y2)] :=
  lit_at (css := [[.int .i64 x1, .int .i64 y1], [.int .i64 x2, .int .i64 y2]]) (heap_alloc_new _ _) rfl ⟨ext_mk (x := (x1, y1)) i1 i2, ext_mk (x := (x2, y2)) i3 i4, trivial⟩ (by simp [Bl])
end
end Go.Proofs.YtnkmklnlaepdeaaGreat

namespace Go.Proofs.YtnkmklnlaepdeaaGreat

def exA : List Wr := [(0, 2, [1, 2].map secOf), (0, 3, [3].map secOf), (0, 4, [4].map secOf)]
def exA' : List Wr := [(0, 2, [1, 3, 4].map secOf)]
def exB : List Wr := [(1, 5, [1].map secOf), (0, 0, [2].map secOf), (0, 2, [3].map secOf)]
def exB' : List Wr := [(0, 0, [2].map secOf), (0, 2, [3].map secOf), (1, 5, [1].map secOf)]
def exC1 : List Wr := [(0, 2, [1, 2].map secOf)]
def exC2 : List Wr := [(0, 1, [3].map secOf)]
def exC : List Wr := [(0, 1, [3, 1, 2].map secOf)]
def exK : List Ext := [(2, 1), (9, 1)]
def exD : List Wr := [(0, 2, [1].map secOf)]
theorem exA_err : errOf placedN exA = 0 := by decide +kernel
theorem exB_err : errOf placedN exB = 0 := by decide +kernel
theorem exC_err : mergeErr exC1 exC2 = 0 := by decide +kernel
theorem exD_err : chkN placedN exC = 0 := by decide +kernel
theorem exA_ok : foldL exA = exA' := by decide +kernel
theorem exB_ok : foldL exB = exB' := by decide +kernel
theorem exC_ok : mergeL exC1 exC2 = exC := by decide +kernel
theorem exD_ok : restrictL exC 0 exK = exD := by decide +kernel
end Go.Proofs.YtnkmklnlaepdeaaGreat

namespace Go.Proofs.YtnkmklnlaepdeaaGreat
open Go.RowKit Go.ChangeMaps

theorem ext_below {B : Nat} {w w1 w2 : World} (h : Below B w w1) (hB : B ≤ w1.heap.size) (h2 : Below w1.heap.size w1 w2) : Below B w w2 := h.trans (h2.mono hB)
theorem RetSlN.bl {α : Type} {E : Enc α} {l : List α} {n : Int} {w : World} {e : Ending} {w' : World} (h : RetSlN E l n w e w') : ∃ A c, e = .returned (.tuple #[.slice A l.length c, .int .i64 n]) ∧ (l.length ≤ c ∧ c ≤ maxLen ∧ SlAt E w' (Bl w'.heap.size) A l) ∧ Below w.heap.size w w' := by
  obtain ⟨A, c, he, h1, h2, h3, h4⟩ := h
  exact ⟨A, c, he, ⟨h1, h2, h3.more (fun _ h => h.2)⟩, h4⟩
theorem i64_lit {x : Int} (h : -1000 ≤ x ∧ x ≤ 1000) : I64 x := by unfold I64; omega
end Go.Proofs.YtnkmklnlaepdeaaGreat

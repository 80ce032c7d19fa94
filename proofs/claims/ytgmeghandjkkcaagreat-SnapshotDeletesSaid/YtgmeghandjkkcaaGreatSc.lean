/-
  The walks of check (with placed), Grow, Concat, write.
  The walks of slices.Grow, slices.Concat at writes; write.
  The walk of Merge (the program).
  The walks of write and Restrict (the program).
-/
import Derived.Test.YtgmeghandjkkcaaGreatSa
import Derived.Test.YtgmeghandjkkcaaGreatPg
set_option linter.unusedVariables false
set_option linter.unusedSimpArgs false
set_option linter.unusedSectionVars false
set_option linter.unnecessarySimpa false
namespace Go.Proofs.YtgmeghandjkkcaaGreat
open Go.RowKit Go.ChangeMaps

set_option maxHeartbeats 4000000 in
theorem checkP_any (A : Option Addr) (c : Nat) (l : List Wr) (w : World) (h1 : SlAt encWr w (Bl w.heap.size) A l) (hs : l.length ≤ 9223372036854775807) :
    Calls Tryz.prog 93 #[.slice A l.length c, .func (.func 97) #[] #[]] w fun e w' => e = .returned (.int .i64 (chkN placedN l)) ∧ Below w.heap.size w w' := by
  have H2 : Hid (∀ w', Below w.heap.size w w' → SlAt encWr w' (Bl w.heap.size) A l) := fun w' hb => h1.below hb
  clear h1
  go_enter Tryz.func93, Tryz.ntmps93
  go_wp2
  go_loopw [11] (fun i wr => ∃ k : Nat, k ≤ l.length ∧ i = .int .i64 k ∧ Below w.heap.size w wr ∧ Hid (∀ x ∈ (withPrev l).take k, stepErr placedN x = 0)) (fun i _ => l.length - (intOf i).toNat)
  case atStart => exact ⟨0, by omega, rfl, Below.refl _ _, by simp [Hid]⟩
  case round =>
    obtain ⟨k, hk, rfl, hB, hz⟩ := hrel
    by_cases hlt : k < l.length
    · obtain ⟨b, off, D, dc, rfl, hb, g0, g1, g2, hD, hn1, hn2, hi1, hi2⟩ := (H2.out wr hB).wr hlt
      have hbl : b < w.heap.size := hb
      have hnn : (0 : Int) ≤ k := by omega
      have hki : (k : Int) < l.length := by omega
      unfold maxLen at hn2
      have hn3 : l[k].2.2.length ≤ 9223372036854775807 := by omega
      have hsz := hB.size
      obtain ⟨pn, hpn⟩ : ∃ pn, Hid (placedN l[k] = pn) := ⟨placedN l[k], Lib.hid rfl⟩
      obtain ⟨x, hx⟩ : ∃ x, Hid (x = l[k]) := ⟨_, Lib.hid rfl⟩
      rw [← hx.out] at g0 g1 g2 hn1 hi1 hi2 hn3 hpn
      obtain ⟨v, s, data⟩ := x
      simp only at g0 g1 g2 hn1 hi1 hi2 hn3 hpn
      have hcall := fun W => placed8 v s data.length D dc W hn3 data rfl pn hpn.out
      have HCALL := Lib.hid hcall; clear hcall
      by_cases hp0 : pn = 0
      · have hp1 : (pn != 0) = false := by simp [hp0]
        have HP := Lib.hid hp0; clear hp0
        cases k with
        | zero =>
          have hpr : Hid ((withPrev l)[0]'(by rw [withPrev_len]; exact hlt) = (none, (v, s, data))) := by rw [withPrev_zero hlt, ← hx.out]; exact rfl
          simp only [Nat.zero_mul, Nat.add_zero] at g0 g1 g2
          go_wp2_with fail
          refine (HCALL.out _).mono ?_
          rintro e w1 ⟨rfl, hb1⟩
          have HB1 := Lib.hid ((hB.alloc hsz _).trans (hb1.mono (by simp; omega)))
          clear g0 g1 g2
          go_wp2
          go_roundw
          case rel => exact ⟨1, hlt, by go_num, HB1.out, takeSnoc hlt _ hpr.out hz.out (by simp [stepErr, hpn.out, HP.out])⟩
          case measure => simp [intOf]; omega
        | succ k =>
          have hlt1 : k < l.length := by omega
          have hpr : Hid ((withPrev l)[k + 1]'(by rw [withPrev_len]; exact hlt) = (some l[k], (v, s, data))) := by rw [withPrev_succ hlt, ← hx.out]; exact rfl
          have hpok := placed_ok (takePrev hlt1 hz.out)
          obtain ⟨b', off', D', dc', he, hb', f0, f1, f2, hD', hm1, hm2, hj1, hj2⟩ := (H2.out wr hB).wr hlt1
          injection he with he
          injection he with he1 he2
          subst he1 he2
          obtain ⟨y, hy⟩ : ∃ y, Hid (y = l[k]) := ⟨_, Lib.hid rfl⟩
          rw [← hy.out] at f0 f1 f2 hm1 hj1 hj2 hpok hpr
          obtain ⟨v', s', data'⟩ := y
          simp only at f0 f1 f2 hm1 hj1 hj2 hpok
          obtain ⟨o1, o2, o3, o4, o5⟩ := hpok
          have e5 : ((k + 1 : Nat) : Int) = (k : Int) + 1 := by omega
          rw [e5] at hki ⊢
          have hk1 : (((k : Int) + 1) == 0) = false := by rw [beq_eq_false_iff_ne]; omega
          clear hD hD' hn1 hm1 hm2 hn2
          by_cases d1 : v < v'
          · have hst : Hid (stepErr placedN (some (v', s', data'), (v, s, data)) = 3) := by
              unfold stepErr
              rw [if_neg (by rw [hpn.out, HP.out]; simp)]
              exact if_pos (Or.inl d1)
            go_wp2_with fail
            refine (HCALL.out _).mono ?_
            rintro e w1 ⟨rfl, hb1⟩
            have hB1 : Below w.heap.size w w1 := (hB.alloc hsz _).trans (hb1.mono (by simp; omega))
            have r0 := cellAft hb1 f0
            have r1 := cellAft hb1 f1
            have r2 := cellAft hb1 f2
            obtain ⟨t0, t1, t2, tf⟩ := blk3 (boxAft hb1)
            have hsz1 := hb1.size
            simp only [World.size_alloc] at hsz1
            have hwl : wr.heap.size < w1.heap.size := by omega
            have hbw : b < w1.heap.size := by omega
            have HB1 := Lib.hid hB1; clear hB1 hb1 f0 f1 f2 g0 g1 g2
            go_wp2
            go_ret
            refine ⟨ret_int ?_, HB1.out.alloc (by omega) _⟩
            have e := chk_at hlt _ hpr.out hz.out (by rw [hst.out]; decide)
            rw [e, hst.out]
          · by_cases d2 : v = v'
            · have d2' : (v == v') = true := by simp [d2]
              have HD2 := Lib.hid d2; clear d2
              by_cases d3 : s ≤ s' + data'.length
              · have hst : Hid (stepErr placedN (some (v', s', data'), (v, s, data)) = 3) := by
                  unfold stepErr
                  rw [if_neg (by rw [hpn.out, HP.out]; simp)]
                  exact if_pos (Or.inr ⟨HD2.out, d3⟩)
                go_wp2_with fail
                refine (HCALL.out _).mono ?_
                rintro e w1 ⟨rfl, hb1⟩
                have hB1 : Below w.heap.size w w1 := (hB.alloc hsz _).trans (hb1.mono (by simp; omega))
                have r0 := cellAft hb1 f0
                have r1 := cellAft hb1 f1
                have r2 := cellAft hb1 f2
                obtain ⟨t0, t1, t2, tf⟩ := blk3 (boxAft hb1)
                have hsz1 := hb1.size
                simp only [World.size_alloc] at hsz1
                have hwl : wr.heap.size < w1.heap.size := by omega
                have hbw : b < w1.heap.size := by omega
                have HB1 := Lib.hid hB1; clear hB1 hb1 f0 f1 f2 g0 g1 g2
                go_wp2
                go_ret
                refine ⟨ret_int ?_, HB1.out.alloc (by omega) _⟩
                have e := chk_at hlt _ hpr.out hz.out (by rw [hst.out]; decide)
                rw [e, hst.out]
              · have hst : Hid (stepErr placedN (some (v', s', data'), (v, s, data)) = 0) := by
                  unfold stepErr
                  rw [if_neg (by rw [hpn.out, HP.out]; simp)]
                  exact if_neg (fun h => by have := HD2.out; simp only at h; omega)
                go_wp2_with fail
                refine (HCALL.out _).mono ?_
                rintro e w1 ⟨rfl, hb1⟩
                have hB1 : Below w.heap.size w w1 := (hB.alloc hsz _).trans (hb1.mono (by simp; omega))
                have r0 := cellAft hb1 f0
                have r1 := cellAft hb1 f1
                have r2 := cellAft hb1 f2
                obtain ⟨t0, t1, t2, tf⟩ := blk3 (boxAft hb1)
                have hsz1 := hb1.size
                simp only [World.size_alloc] at hsz1
                have hwl : wr.heap.size < w1.heap.size := by omega
                have hbw : b < w1.heap.size := by omega
                have HB1 := Lib.hid hB1; clear hB1 hb1 f0 f1 f2 g0 g1 g2
                go_wp2
                go_roundw
                case rel => exact ⟨k + 1 + 1, hlt, by go_num, HB1.out.alloc (by omega) _, takeSnoc hlt _ hpr.out hz.out hst.out⟩
                case measure => simp [intOf]; omega
            · have d2' : (v == v') = false := by simp [d2]
              have HD2 := Lib.hid d2; clear d2
              have hst : Hid (stepErr placedN (some (v', s', data'), (v, s, data)) = 0) := by
                unfold stepErr
                rw [if_neg (by rw [hpn.out, HP.out]; simp)]
                exact if_neg (fun h => by have := HD2.out; simp only at h; omega)
              go_wp2_with fail
              refine (HCALL.out _).mono ?_
              rintro e w1 ⟨rfl, hb1⟩
              have hB1 : Below w.heap.size w w1 := (hB.alloc hsz _).trans (hb1.mono (by simp; omega))
              have r0 := cellAft hb1 f0
              have r1 := cellAft hb1 f1
              have r2 := cellAft hb1 f2
              obtain ⟨t0, t1, t2, tf⟩ := blk3 (boxAft hb1)
              have hsz1 := hb1.size
              simp only [World.size_alloc] at hsz1
              have hwl : wr.heap.size < w1.heap.size := by omega
              have hbw : b < w1.heap.size := by omega
              have HB1 := Lib.hid hB1; clear hB1 hb1 f0 f1 f2 g0 g1 g2
              go_wp2
              go_roundw
              case rel => exact ⟨k + 1 + 1, hlt, by go_num, HB1.out.alloc (by omega) _, takeSnoc hlt _ hpr.out hz.out hst.out⟩
              case measure => simp [intOf]; omega
      · have hp1 : (pn != 0) = true := by simp [hp0]
        have HP := Lib.hid hp0; clear hp0
        have hst : Hid (∀ o : Option Wr, stepErr placedN (o, (v, s, data)) = pn) := fun o => by
          unfold stepErr
          rw [if_pos (by rw [hpn.out]; exact HP.out)]
          exact hpn.out
        go_wp2_with fail
        refine (HCALL.out _).mono ?_
        rintro e w1 ⟨rfl, hb1⟩
        have HB1 := Lib.hid ((hB.alloc hsz _).trans (hb1.mono (by simp; omega)))
        clear g0 g1 g2
        go_wp2
        go_ret
        refine ⟨ret_int ?_, HB1.out⟩
        cases k with
        | zero =>
          have e := chk_at hlt _ ((withPrev_zero hlt).trans (by rw [← hx.out])) hz.out (by rw [hst.out]; exact HP.out)
          rw [e, hst.out]
        | succ k =>
          have e := chk_at hlt _ ((withPrev_succ hlt).trans (by rw [← hx.out])) hz.out (by rw [hst.out]; exact HP.out)
          rw [e, hst.out]
    · have hkk : k = l.length := by omega
      subst hkk
      go_wp2
      go_ret
      exact ⟨ret_int (chk_zero hz.out).symm, hB⟩
end Go.Proofs.YtgmeghandjkkcaaGreat

namespace Go.Proofs.YtgmeghandjkkcaaGreat
open Go.RowKit Go.ChangeMaps

theorem run_zeros {P : Program} {t ti e : TypeId} {size bytes : Nat} (hT : SliceTy P t e size bytes) (hti : P.underlying ti = some (.int .i64)) (ty : TypeId) (w : World) (n : Nat) (h0 : 0 < n) (hb : n * bytes ≤ 140737488355328) (h63 : n ≤ 4611686018427387904) :
    ∃ cur cap, (Builtin.append_ #[t, ti] ty #[.slice none 0 0, .int .i64 n]).run P w = .ok (.slice (some ⟨w.heap.size, 0, none⟩) n cap) (w.drew.alloc (.cells cur e)) ∧ n ≤ cap ∧ cap ≤ maxLen ∧ cur.size = cap * size := by
  obtain ⟨i, z, hi, hz, hsz, hby, hzs⟩ := hT.info
  subst hsz hby
  have hn : n ≠ 0 := by omega
  have hn2 : n * i.size ≠ 0 := Nat.mul_ne_zero hn (by have := hT.pos; omega)
  have h63' : ¬ (9223372036854775807 < (n : Int)) := by omega
  have h48' : ¬ (281474976710656 < Builtin.nextslicecap n 0 * i.bytes) := by rw [nextslicecap_zero h0]; omega
  have hbi : ((n : Int) * (i.bytes : Int)) ≤ 140737488355328 := by
    have h : ((n * i.bytes : Nat) : Int) ≤ 140737488355328 := by omega
    rwa [Int.natCast_mul] at h
  have hbi' : ¬ (281474976710656 < (n : Int) * (i.bytes : Int)) := by omega
  have hw : IntKind.i64.wrap (n : Int) = n := IntWalk.i64_in _ (by omega)
  have hneg : ¬ ((n : Int) < 0) := by omega
  have hle : ¬ ((n : Int) ≤ 0) := by omega
  have hmax : max (n : Int) 0 = n := by omega
  refine ⟨Builtin.zeroCells z.cells n ++ Builtin.zeroCells z.cells (grownCap w n 0 e - n), grownCap w n 0 e, ?_, grownCap_ge w n 0 e, grownCap_le_maxLen w n 0 e (by simp [maxLen]; omega), ?_⟩
  · simp [Builtin.append_, run_underlying hT.und, run_underlying hti, sizeOf, typeInfo, zeroValue, hi, hz, Builtin.lenOf, hn, hn2, h63', h48', Question.forced, run_firstCells_none, newRow, grownCap, asInt, asIntOf, hw, hneg, hbi', hmax, hle]
  · have := grownCap_ge w n 0 e
    simp only [Array.size_append, size_zeroCells, hzs, ← Nat.add_mul]
    congr 1
    omega

theorem wpList_zeros {P : Program} {w : World} {t ti e : TypeId} {size bytes : Nat} {ops : Array Oper} {rest : List Oper} {o : Oper} {a : Act} {Q : Exit → Act → World → Prop} (hT : SliceTy P t e size bytes) (hti : P.underlying ti = some (.int .i64)) (hgd : o.guard = none) (s x : Operand)
    (ho : o.op = .call { callee := .builtin .append, args := #[s, x], argTypes := #[t, ti] }) (hs : a.eval s = .slice none 0 0) (n : Nat) (hx : a.eval x = .int .i64 n) (h0 : 0 < n) (hb : n * bytes ≤ 140737488355328) (h63 : n ≤ 4611686018427387904)
    (h : ∀ cur cap, n ≤ cap → cap ≤ maxLen → cur.size = cap * size → wpList P ops Q rest (a.put o.dst (.slice (some ⟨w.heap.size, 0, none⟩) n cap)) (w.alloc (.cells cur e)).drew) : wpList P ops Q (o :: rest) a w := by
  refine wpList_plain hgd fun K hK => ?_
  obtain ⟨cur, cap, hr, h1, h2, h3⟩ := run_zeros hT hti o.type w n h0 hb h63
  unfold Oper.wp execOp
  simp only [ho, resolve, invoke, builtin, Sem.run_bind, Sem.run_pure, Result.andThen_ok, List.map_toArray, List.map_cons, List.map_nil, hs, hx, hr]
  exact hK _ _ (h cur cap h1 h2 h3)
theorem growW_any (n : Nat) (w : World) (hn : n ≤ 1000000) :
    Calls Tryz.prog 100 #[.slice none 0 0, .int .i64 n] w fun e w' => ∃ A c, e = .returned (.slice A 0 c) ∧ Own encWr w' w.heap.size 70 (fun _ => False) (.slice A 0 c) [] ∧ Below w.heap.size w w' := by
  by_cases h0 : n = 0
  · subst h0
    go_enter Tryz.func100, Tryz.ntmps100
    go_wp2
    go_ret
    exact ⟨none, 0, rfl, Own.nil_, Below.refl _ _⟩
  · have hpos : (0 : Int) < n := by omega
    have hcl : ¬ ((n : Int) < 0) := by omega
    go_enter Tryz.func100, Tryz.ntmps100
    go_wp2_with (at_builtin; refine Hid.out ?_)
    change wpList _ _ _ _ _ _
    refine wpList_zeros tyWrs Tryz.underlying3 rfl _ _ rfl rfl n rfl (by omega) (by omega) (by omega) ?_
    intro cur cap hc1 hc2 hc3
    have hm : Hid (Own encWr (w.alloc (.cells cur 70)).drew w.heap.size 70 (fun _ => False) (.slice (some ⟨w.heap.size, 0, none⟩) 0 cap) []) := Own.blk (Own.made (cur := cur) (Nat.le_refl _) hc2 hc3 (fun h => h)) (fun _ _ => rfl)
    unfold maxLen at hc2
    go_wp2
    go_ret
    exact ⟨_, cap, rfl, hm.out, ((Below.refl _ _).alloc (Nat.le_refl _) _).drew⟩
theorem tyWrss : SliceTy Tryz.prog 154 27 1 24 := sliceTy_mk (z := .slice none 0 0) Tryz.underlying154 (by kernel_rfl) rfl (by decide)
def totL (ls : List (List Wr)) : Nat := ls.flatten.length
theorem totL_snoc (ls : List (List Wr)) (l : List Wr) : totL (ls ++ [l]) = totL ls + l.length := by simp [totL]
set_option maxHeartbeats 1000000 in
theorem concatW_any (A : Option Addr) (c : Nat) (ls : List (List Wr)) (w : World) (h1 : SlAt (encSl encWr) w (Bl w.heap.size) A ls) (hs : ls.length ≤ 1000) (ht : totL ls ≤ 1000000) (fl : List Wr) (hfl : ls.flatten = fl) :
    Calls Tryz.prog 69 #[.slice A ls.length c] w fun e w' => ∃ A' c', e = .returned (.slice A' fl.length c') ∧ SlAt encWr w' (Bl w'.heap.size) A' fl ∧ Below w.heap.size w w' := by
  have H2 : Hid (∀ w', Below w.heap.size w w' → SlAt (encSl encWr) w' (Bl w.heap.size) A ls) := fun w' hb => h1.below hb
  clear h1
  have HFL := Lib.hid hfl; clear hfl
  have hmono : ∀ k, totL (ls.take k) ≤ totL ls := by
    intro k
    have := congrArg (fun l => l.flatten.length) (List.take_append_drop k ls)
    simp only [List.flatten_append, List.length_append] at this
    unfold totL
    omega
  have HM := Lib.hid hmono; clear hmono
  go_enter Tryz.func69, Tryz.ntmps69
  go_wp2
  go_loopw [3, 11] (fun t i wr => wr = w ∧ ∃ k : Nat, k ≤ ls.length ∧ i = .int .i64 k ∧ t = .int .i64 (totL (ls.take k) : Nat)) (fun _ i _ => ls.length - (intOf i).toNat)
  case atStart => exact ⟨rfl, 0, by omega, rfl, rfl⟩
  case round =>
    obtain ⟨rfl, k, hk, rfl, rfl⟩ := hrel
    by_cases hlt : k < ls.length
    · obtain ⟨b, off, D, dc, rfl, hb, g0, hD, hn1, hn2⟩ := (H2.out _ (Below.refl _ _)).sl hlt
      have hnn : (0 : Int) ≤ k := by omega
      have hki : (k : Int) < ls.length := by omega
      have hsn : Hid (totL (ls.take (k + 1)) = totL (ls.take k) + ls[k].length) := by
        rw [List.take_succ_eq_append_getElem hlt]; exact totL_snoc _ _
      have hb2 := HM.out (k + 1)
      rw [hsn.out] at hb2
      go_wp2
      go_roundw
      case rel => exact ⟨by trivial, k + 1, hlt, by go_num, by rw [hsn.out]; go_num⟩
      case measure => simp [intOf]; omega
    · have hkk : k = ls.length := by omega
      subst hkk
      rw [List.take_length]
      go_wp2_with fail
      refine (growW_any (totL ls) _ ht).mono ?_
      rintro e w1 ⟨A1, c1, rfl, hO1, hb1⟩
      have HO1 := Lib.hid hO1; clear hO1
      go_wp2
      go_loopw [6, 27] (fun v i w2 => ∃ (k : Nat) (B : Option Addr) (vc : Nat) (out : List Wr), k ≤ ls.length ∧ i = .int .i64 k ∧ v = .slice B out.length vc ∧ Below wr.heap.size wr w2 ∧ Hid (out = (ls.take k).flatten) ∧ Hid (OwnW encWr w2 wr.heap.size 0 70 (.slice B out.length vc) out)) (fun _ i _ => ls.length - (intOf i).toNat)
      case atStart => exact ⟨0, A1, c1, [], by omega, rfl, rfl, hb1, by simp [Hid], HO1.out.more (fun _ h => h.elim) (fun g hg h => h.2 hg)⟩
      case round =>
        obtain ⟨wo, rfl⟩ : ∃ wo : World, wo = wr := ⟨_, rfl⟩
        obtain ⟨k, B, vc, out, hk2, rfl, rfl, hB, hout, hown⟩ := hrel
        by_cases hlt2 : k < ls.length
        · obtain ⟨b, off, D, dc, rfl, hb, g0, hD, hn1, hn2⟩ := (H2.out wo hB).sl hlt2
          have hbl : b < wr.heap.size := hb
          have hnn : (0 : Int) ≤ k := by omega
          have hki : (k : Int) < ls.length := by omega
          have hsz := hB.size
          have hb2 := HM.out (k + 1)
          rw [List.take_succ_eq_append_getElem hlt2, totL_snoc] at hb2
          have hol : out.length + ls[k].length ≤ 1000000 := by
            have e : out.length = totL (ls.take k) := by rw [hout.out]; rfl
            omega
          have hsrc := Lib.hid (show SlAt encWr wo (fun b => Nw 0 wo.heap.size b ∧ (Value.slice B out.length vc).ownBlock ≠ some b) D ls[k] from hD.more (fun g hg => ⟨⟨Nat.zero_le _, Nat.lt_of_lt_of_le hg hsz⟩, fun e => by have := (hown.out.lt g e).1; have : g < wr.heap.size := hg; omega⟩))
          go_wp2_with (at_builtin; refine Hid.out ?_)
          change wpList _ _ _ _ _ _
          refine wpList_appAll (E := encWr) tyWrs rfl _ _ rfl rfl hown.out rfl rfl hsrc.out (fun _ h => h.1.2) hsz (by simp [maxLen]; omega) (by omega) ?_
          intro A' c' w5 hown5 hg5 hat5
          have hok5 := Lib.hid (OwnW.app hown5 hg5 hat5)
          clear g0
          go_wp2
          go_roundw
          case rel =>
            refine ⟨k + 1, A', c', out ++ ls[k], by omega, by go_num, by simp, hB.grown hg5 hsz (fun g h => (hown.out.lt g h).1), ?_, ?_⟩
            · rw [List.take_succ_eq_append_getElem hlt2, List.flatten_append, ← hout.out]; simp [Hid]
            · have := hok5.out; simpa [Hid] using this
          case measure => simp [intOf]; omega
        · have hkk2 : k = ls.length := by omega
          subst hkk2
          go_wp2
          go_ret
          have e := hout.out
          rw [List.take_length, HFL.out] at e
          subst e
          obtain ⟨A', c', he, _, _, hr⟩ := hown.out.rd0
          simp only [List.cons.injEq, Value.slice.injEq, and_true, true_and] at he
          obtain ⟨rfl, rfl⟩ := he
          exact ⟨B, vc, rfl, hr, hB⟩
end Go.Proofs.YtgmeghandjkkcaaGreat

namespace Go.Proofs.YtgmeghandjkkcaaGreat
open Go.RowKit Go.ChangeMaps

theorem two_at {w : World} {b : Nat} {T : TypeId} {S : Nat → Prop} {A A' : Option Addr} {c c' : Nat} {l m : List Wr} (h : w.heap[b]? = some (.cells #[.slice A l.length c, .slice A' m.length c'] T (0, 0))) (hS : S b) (h1 : SlAt encWr w S A l) (h2 : SlAt encWr w S A' m) (k1 : l.length ≤ c) (k2 : c ≤ maxLen) (k3 : m.length ≤ c') (k4 : c' ≤ maxLen) :
    SlAt (encSl encWr) w S (some ⟨b, 0, none⟩) [l, m] := by
  refine fun _ => ⟨b, 0, rfl, hS, fun i x hx => ?_⟩
  have hsz : (encSl encWr).size = 1 := rfl
  match i, hx with
  | 0, hx =>
    simp at hx; subst hx
    refine ⟨[.slice A l.length c], fun j v hv => ?_, ⟨A, c, rfl, k1, k2, h1⟩⟩
    rw [cell_of_row w b _ _ T _ h]
    match j, hv with
    | 0, hv => simpa [hsz] using hv
  | 1, hx =>
    simp at hx; subst hx
    refine ⟨[.slice A' m.length c'], fun j v hv => ?_, ⟨A', c', rfl, k3, k4, h2⟩⟩
    rw [cell_of_row w b _ _ T _ h]
    match j, hv with
    | 0, hv => simpa [hsz] using hv

end Go.Proofs.YtgmeghandjkkcaaGreat

namespace Go.Proofs.YtgmeghandjkkcaaGreat
open Go.RowKit Go.ChangeMaps

def secOf (b : Int) : Sec := [b, 0, 0, 0, 0, 0, 0, 0]
theorem secOf_ok {b : Int} (h : 0 ≤ b ∧ b < 256) : OkSec (secOf b) := ⟨rfl, by intro x hx; simp [secOf] at hx; rcases hx with rfl | rfl <;> omega⟩
def WriteRet (x : Wr) (w : World) (e : Ending) (w' : World) : Prop := ∃ D c, e = .returned (.agg #[.int .i64 x.1, .int .i64 x.2.1, .slice D x.2.2.length c]) ∧ x.2.2.length ≤ c ∧ c ≤ maxLen ∧ SlAt encSec w' (Nw w.heap.size w'.heap.size) D x.2.2 ∧ Below w.heap.size w w'
end Go.Proofs.YtgmeghandjkkcaaGreat

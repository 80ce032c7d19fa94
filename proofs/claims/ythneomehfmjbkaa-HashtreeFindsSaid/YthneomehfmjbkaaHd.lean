/-
  The walks of the code's digests.
-/
import Derived.Test.YthneomehfmjbkaaHa
import Derived.Test.YthneomehfmjbkaaLaws
set_option linter.unusedVariables false
set_option linter.unusedSimpArgs false
set_option linter.unusedSectionVars false
set_option linter.unnecessarySimpa false
namespace Go.Proofs.Ythneomehfmjbkaa
open Go.RowKit Go.Shelf
attribute [local go_sem] Oper.semAt_some

abbrev Byt := { b : Int // 0 ≤ b ∧ b < 256 }
def bytE (x : Byt) : Array Value := #[.int .u8 x.1]
def bytsOf (xs : List Byt) : List Int := xs.map (·.1)
theorem bytsOf_snoc (xs : List Byt) (x : Byt) : bytsOf (xs ++ [x]) = bytsOf xs ++ [x.1] := by simp [bytsOf]
theorem bytsOf_len (xs : List Byt) : (bytsOf xs).length = xs.length := by simp [bytsOf]
theorem boxed_own {β : Type} {B b : Nat} {t : TypeId} (f : β → Value) : OwnT (fun _ => False) B (fun s W => Boxed W b t (f s)) := fun s W W' row h hg hr =>
  (hg.block b h.lt (fun e => by
    obtain ⟨_, o, h1, h2⟩ := hr b e.symm
    rw [h] at h1; cases h1
    rcases h2 with h2 | (h2 | ⟨_, _, _, _, h2⟩)
    · cases h2
    · cases h2
    · exact h2)).trans h
theorem u8_u64 {x : Int} (h1 : 0 ≤ x) (h2 : x < 256) : IntKind.u64.wrap x = x := by
  unfold IntKind.wrap
  simp only [IntKind.signed, IntKind.bits]
  simp
  omega
set_option maxRecDepth 100000 in
set_option maxHeartbeats 2000000 in
theorem digest_any (gf : Nat) (lb : Array Value) (eg : ∀ args w, (callFunc gf args).run Try.prog w = .ok (.enter gf args) w) (bs : List Int) (r : Int) (hr : dig bs = r) (N : Nat) (Sp : List Byt → Prop) (w : World)
    (hseq : ∀ n W, 1 ≤ n → Below w.heap.size w W → SeqStopsT (fun _ => False) Fence.wide n Try.prog gf lb bytE (Below w.heap.size) (fun xs => bytsOf xs = bs) Sp N W) :
    Calls Try.prog 57 #[.func (.func gf) #[] lb] w fun e w' => e = .returned (.int .u64 r) ∧ Below w.heap.size w w' := by
  have HR := Lib.hid hr; clear hr
  obtain ⟨n, hn⟩ : ∃ n : Nat, 4 ≤ n := ⟨4, Nat.le_refl _⟩
  refine (callsIn_wide (n := n)).1 ?_
  refine callsIn_of_wp_marks Try.func57 rfl trivial ?_ rfl
  simp only [Try.ntmps57, List.size_toArray, List.length_cons, List.length_nil, Nat.reduceAdd, Nat.reduceSub, Array.replicate_succ, Array.replicate_zero, List.push_toArray, List.append_toArray, List.nil_append, List.cons_append]
  have h1 : 1 ≤ n := by omega
  have hstops := hseq (n - 1) (w.alloc (.cells #[.int .u64 14695981039346656037] 58)) (by omega) (ext_alloc (Below.refl _ _))
  have HST := Lib.hid hstops; clear hstops hseq
  gi_wp2
  obtain ⟨W0, hW0⟩ : ∃ W0, w.alloc (.cells #[.int .u64 14695981039346656037] 58) = W0 := ⟨_, rfl⟩
  have hsz : w.heap.size < W0.heap.size := by rw [← hW0]; simp
  have hB0 : Below w.heap.size w W0 := by rw [← hW0]; exact ext_alloc (Below.refl _ _)
  have hbx : Boxed W0 w.heap.size 58 (.int .u64 d0) := by rw [← hW0]; exact Boxed.new w _ _
  rw [hW0] at HST ⊢
  refine wpIn_rangeFunc_ownT rfl h1 (gf := gf) (lb := lb) (own := fun _ => False) rfl trivial eg HST.out belowK_t (belowK_b (by omega)) (Below.refl _ _) (fun _ => rfl)
    (fun pre W => Boxed W w.heap.size 58 (.int .u64 ((bytsOf pre).foldl dstep d0)) ∧ Below w.heap.size w W)
    (fun _ _ _ => False)
    (OwnT.and (boxed_own _) (ownT_below (Nat.le_refl _) (by omega)))
    (fun _ _ _ _ _ hs _ _ => hs)
    ⟨hbx, hB0⟩
    (fun x a' W => a' = { tmps := #[.func (.func gf) #[] lb, undef, .int .u64 0, .pointer (some ⟨w.heap.size, 0, none⟩), .int .u8 x.1, .func (.func gf) #[] lb, .int .u8 x.1, undef, undef, undef, undef, undef, undef, undef, undef, undef], defers := [] }) ?hAx ?assign ?body ?done ?stop
  case hAx => exact fun x a' s X Y row h _ _ => h
  case assign =>
    rintro l pre x W K ⟨hi, hB⟩ hK
    unfold bytE
    gi_wp2
    exact hK _ _ (KeepsFrom.refl _ _) (Below.refl _ _) ⟨hi, hB⟩ rfl
  case body =>
    rintro l pre x a' W _ _ ⟨hv, hB⟩ rfl hlen
    have hc := hv.cell
    have hf := hv.frozen
    have hsz1 := hB.size
    have hw := u8_u64 x.2.1 x.2.2
    have HV := Lib.hid hv; clear hv
    gi_wp2
    exact ⟨(KeepsOthers.setCell _ _ _).from _, (Below.refl w.heap.size W).setCell (p := ⟨w.heap.size, 0, none⟩) (Nat.le_refl w.heap.size) _, by rw [bytsOf_snoc, List.foldl_append]; exact HV.out.set _, hB.setCell (p := ⟨w.heap.size, 0, none⟩) (Nat.le_refl w.heap.size) _⟩
  case done =>
    rintro D ys W hD hS ⟨hv, hB⟩ hK
    have hc := hv.cell
    have HK := Lib.hid hK; clear hK
    have hS2 := Lib.hid hS; clear hS
    rw [hS2.out] at hc
    gi_wp2
    refine ⟨by simp, .inl ⟨_, _, rfl, run_takeDeferred HK.out, ?_⟩⟩
    refine ⟨.int .u64 r, ?_, rfl, hB.grown (grownBy_putObj' _ D (.deferred none)) hB.size (fun k e => by cases e; omega)⟩
    rw [← HR.out]
    simp [results, Try.results57, Try.f57, go_sem, dig, dfin]
  case stop =>
    rintro D c' pre W hD hS h
    exact h.elim
set_option maxRecDepth 100000 in
set_option maxHeartbeats 2000000 in
theorem bytes_in (n : Nat) (hn : 1 ≤ n) (l Bs n₀ c : Nat) (A : Option Addr) (bs : List Int) (hlen : bs.length ≤ 9223372036854775807) (hBs : Bs < n₀) (J Jx : List Byt → World → Prop)
    (hY : ∀ pre x W, J pre W → pre.length < bs.length → YieldAt Fence.wide (n - 1) Try.prog l (bytE x) W fun e W' =>
      (e = .returned (.bool true) ∧ J (pre ++ [x]) W' ∧ Below n₀ W W') ∨ (e = .returned (.bool false) ∧ Jx (pre ++ [x]) W'))
    (W : World) (hc : W.cell? ⟨Bs, 0, none⟩ = some (.slice A bs.length c)) (hw : ∀ W', Below n₀ W W' → SlAt encU8 W' (Bl n₀) A bs) (h0 : J [] W) :
    CallsIn Fence.wide n Try.prog 68 #[.func (.yield l) #[] #[], .pointer (some ⟨Bs, 0, none⟩)] W fun e W' => (∃ v, e = .returned v) ∧
      ((∃ ys : List Byt, bytsOf ys = bs ∧ J ys W') ∨ (∃ pre : List Byt, True ∧ Jx pre W')) := by
  have HW := Lib.hid hw; clear hw
  refine callsIn_of_wp Try.func68 rfl trivial ?_ rfl
  simp only [Try.ntmps68, List.size_toArray, List.length_cons, List.length_nil, Nat.reduceAdd, Nat.reduceSub, Array.replicate_succ, Array.replicate_zero, List.push_toArray, List.append_toArray, List.nil_append, List.cons_append]
  gi_wp2
  gi_loopw [7] (fun i wr => ∃ (k : Nat) (pre : List Byt), k ≤ bs.length ∧ i = .int .i64 (k : Int) ∧ Hid (bytsOf pre = bs.take k) ∧ J pre wr ∧ Below n₀ W wr) (fun i _ => bs.length - (intOf i).toNat)
  case atStart => exact ⟨0, [], Nat.zero_le _, rfl, rfl, h0, Below.refl _ _⟩
  case round =>
    obtain ⟨k, pre, hk, rfl, hpre, hJs, hB⟩ := hrel
    have hcs := (hB.cell (p := ⟨Bs, 0, none⟩) hBs).trans hc
    clear hc
    by_cases hlt : k < bs.length
    · have hpl : pre.length < bs.length := by
        have := congrArg List.length hpre.out
        rw [bytsOf_len, List.length_take] at this
        omega
      obtain ⟨b, off, rfl, hb, g0, q1, q2⟩ := (HW.out wr hB).u8 hlt
      obtain ⟨fn, tmps, assign, body, hy, hR⟩ := hY pre ⟨bs[k]'hlt, q1, q2⟩ wr hJs hpl
      have hnn : (0 : Int) ≤ k := by omega
      have hki : (k : Int) < bs.length := by omega
      simp only [bytE] at hy
      gi_wp2
      refine hR.mono ?_
      have HY := Lib.hid hy; clear hy g0 hcs
      rintro e W3 (⟨rfl, hJ3, hk3⟩ | ⟨rfl, hJx3⟩)
      · gi_wp2
        go_roundw
        case rel => exact ⟨k + 1, pre ++ [⟨bs[k]'hlt, q1, q2⟩], hlt, by go_num, by rw [Hid, bytsOf_snoc, hpre.out, List.take_succ_eq_append_getElem hlt], hJ3, hB.trans hk3⟩
        case measure => simp [intOf]; omega
      · gi_wp2
        refine bodyPost_ret (results_none rfl _ _ _) rfl ?_
        exact ⟨⟨_, rfl⟩, .inr ⟨_, trivial, hJx3⟩⟩
    · have hkk : k = bs.length := by omega
      subst hkk
      gi_wp2
      go_end0
      exact ⟨⟨_, rfl⟩, .inl ⟨pre, by rw [hpre.out, List.take_length], hJs⟩⟩
theorem bytes_stops (n : Nat) (hn : 1 ≤ n) (Bs c n₀ : Nat) (A : Option Addr) (bs : List Int) (hlen : bs.length ≤ 9223372036854775807) (w : World) (hn₀ : n₀ ≤ w.heap.size) (hBs : Bs < n₀) (hc : w.cell? ⟨Bs, 0, none⟩ = some (.slice A bs.length c)) (hw : ∀ W', Below n₀ w W' → SlAt encU8 W' (Bl n₀) A bs) :
    SeqStopsT (fun _ => False) Fence.wide n Try.prog 68 #[.pointer (some ⟨Bs, 0, none⟩)] bytE (Below n₀) (fun ys => bytsOf ys = bs) (fun _ => True) bs.length w :=
  SeqStopsK.toT fun l J Jx W hW _ _ hY h0 => bytes_in n hn l Bs n₀ c A bs hlen hBs J Jx hY W ((hW.cell (p := ⟨Bs, 0, none⟩) (by simp; omega)).trans hc) (fun W' hb => hw W' ((hW.mono hn₀).trans hb)) h0
set_option maxHeartbeats 1000000 in
theorem digestBytes_any (A : Option Addr) (c n : Nat) (bs : List Int) (r : Int) (w : World) (hn : bs.length = n) (hr : dig bs = r) (h1 : SlAt encU8 w (Bl w.heap.size) A bs) (hl : n ≤ 9223372036854775807) :
    Calls Try.prog 64 #[.slice A n c] w fun e w' => e = .returned (.int .u64 r) ∧ Below w.heap.size w w' := by
  subst hn
  have HC : Hid (∀ W, Below w.heap.size w W → W.heap.size = w.heap.size + 1 → W.cell? ⟨w.heap.size, 0, none⟩ = some (.slice A bs.length c) → Calls Try.prog 57 #[.func (.func 68) #[] #[.pointer (some ⟨w.heap.size, 0, none⟩)]] W fun e w' => e = .returned (.int .u64 r) ∧ Below W.heap.size W w') := fun W hB hs hcell =>
    digest_any 68 #[.pointer (some ⟨w.heap.size, 0, none⟩)] (enters_of Try.func68 (by kernel_rfl) rfl) bs r hr bs.length (fun _ => True) W
      (fun n W1 hn hW => bytes_stops n hn w.heap.size c W.heap.size A bs hl W1 hW.size (by omega) ((hW.cell (p := ⟨w.heap.size, 0, none⟩) (by simp; omega)).trans hcell) (fun W' hb => h1.belowUp (hB.trans ((hW.trans hb).mono (by omega))) (by omega)))
  clear h1
  have hcell : (w.alloc (.cells #[.slice A bs.length c] 97)).cell? ⟨w.heap.size, 0, none⟩ = some (.slice A bs.length c) := cell_of_row _ _ 0 _ _ _ (heap_alloc_new _ _)
  have HCL := Lib.hid hcell; clear hcell
  go_enter Try.func64, Try.ntmps64
  go_wp2_with fail
  refine (HC.out _ (ext_alloc (Below.refl _ _)) (by simp) HCL.out).mono ?_
  rintro e w1 ⟨rfl, hb1⟩
  go_wp2
  go_ret
  exact ⟨rfl, (ext_alloc (Below.refl _ _)).trans (hb1.mono (by simp))⟩
end Go.Proofs.Ythneomehfmjbkaa

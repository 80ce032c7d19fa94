/-
  Plain words: the answer to the request of a walk that goes on.; compare.put, extent.Check, compare.Bound: the walks.; Drawn regions whose last operation stores into a cell that the region has read: the loads may be taken first all the same. No program in sight.; compare.Check: the walk.; slices.Clone over ints and digests, the copy of a tree: the walks.; compare.Begin: the walk.
-/
import Derived.BigQuiet
import Derived.RegionTactic
import Derived.BigRegion
import Derived.Deep.RegionLaw
import Derived.Deep.DeepCutAuto
import Derived.OrdersHeld
import Derived.Deep.RegionHeld3
import Derived.WalkMore
import Derived.Test.YtjehedfdikdfpaaZ01
import Derived.Test.YtjehedfdikdfpaaZ02
import Derived.Test.YtjehedfdikdfpaaZ03
import Derived.Test.YtjehedfdikdfpaaZ04
import Derived.Test.YtjehedfdikdfpaaZ06
import Derived.Test.YtjehedfdikdfpaaZ07
set_option linter.unusedVariables false
set_option linter.unusedSimpArgs false
set_option linter.unusedSectionVars false
set_option linter.unnecessarySimpa false
namespace Go.Proofs.Ytjehedfdikdfpaa

theorem flat_getD : ∀ (p : List Ext) (i : Nat) (h : i < p.length), (p.flatMap fun x => [x.1, x.2]).getD (2 * i) 0 = p[i].1 ∧ (p.flatMap fun x => [x.1, x.2]).getD (2 * i + 1) 0 = p[i].2
  | x :: p, 0, _ => ⟨rfl, rfl⟩
  | x :: p, i + 1, h => by
    have ih := flat_getD p i (by simpa using h)
    have e : (x :: p).flatMap (fun x => [x.1, x.2]) = x.1 :: x.2 :: p.flatMap fun x => [x.1, x.2] := rfl
    rw [e, show 2 * (i + 1) = 2 * i + 1 + 1 by omega, List.getElem_cons_succ]
    exact ih
theorem pairsL_reqL (a b : Int) (p : List Ext) : pairsL (reqL a b p) = p := by
  have hl := reqL_len a b p
  unfold pairsL
  rw [hl, show (2 + 2 * p.length - 2) / 2 = p.length by omega]
  refine List.ext_getElem (by simp) (fun i h1 h2 => ?_)
  have h := flat_getD p i h2
  rw [List.getElem_map, List.getElem_range]
  unfold reqL
  rw [show 2 + 2 * i = 2 * i + 1 + 1 by omega, show 3 + 2 * i = 2 * i + 1 + 1 + 1 by omega]
  show ((p.flatMap fun x => [x.1, x.2]).getD (2 * i) 0, (p.flatMap fun x => [x.1, x.2]).getD (2 * i + 1) 0) = p[i]
  rw [h.1, h.2]
theorem tok_same {n m : Nat} {l l' : List (List Int)} (h : TOk n m l) (h' : TOk n m l') : l.length = l'.length := by
  have h0 := h.ne
  have h0' := h'.ne
  rcases Nat.lt_trichotomy l.length l'.length with g | g | g
  · have a := (h.at_ (l.length - 1) (by omega)).2.1.2 (by omega)
    have b := (h'.at_ (l.length - 1) (by omega)).2.1.1 a
    omega
  · exact g
  · have a := (h'.at_ (l'.length - 1) (by omega)).2.1.2 (by omega)
    have b := (h.at_ (l'.length - 1) (by omega)).2.1.1 a
    omega
section
variable {n m : Nat} {l l' : List (List Int)}
theorem ans_ok {k : Nat} {v : List Nat} {s : Nat} (hc' : checkT ((n : Int), (m : Int), l') = 0) (tk : TOk n m l) (tk' : TOk n m l') (hk : k < l.length) (hv : v.Pairwise (· < ·)) (hb : ∀ i ∈ v, i < nk (leavesN n m) k) :
    ansE ((n : Int), (m : Int), l') (reqMsg (stW ((n : Int), (m : Int), l) k v s)) = 0 ∧ ansV ((n : Int), (m : Int), l') (reqMsg (stW ((n : Int), (m : Int), l) k v s)) = ansM ((n : Int), (m : Int), l) l' k v := by
  have hk' : k < l'.length := by rw [← tok_same tk tk']; exact hk
  obtain ⟨hat, _, _, h4⟩ := tk'.at_ k hk'
  have hlev := levT_at (s := (n : Int)) (lf := (m : Int)) hk'
  have hE : ansE ((n : Int), (m : Int), l') (reqMsg (stW ((n : Int), (m : Int), l) k v s)) = 0 := by
    unfold ansE reqMsg stW
    simp only
    rw [if_neg (by rw [hc']; simp), if_neg (by simp), if_neg (by rw [reqL_len]; omega), if_neg (by unfold reqL; simp), if_neg (by omega), pairsL_reqL, hlev, hat]
    refine if_neg ?_
    unfold extE
    rw [if_neg (by omega)]
    simpa using (join_ok v hv hb).1
  refine ⟨hE, ?_⟩
  unfold ansV
  rw [if_neg (by rw [hE]; simp)]
  unfold reqMsg stW ansM bodyOf
  simp only
  rw [pairsL_reqL, (nums_join v hv).2]
  rfl
end
/-- what holds between two rounds of Run: either the walk goes on, or it is done -/
def RunI (n m : Nat) (l l2 : List (List Int)) (fin x : Wk) (ms : List Msg) : Prop :=
  (∃ k v s, x = stW ((n : Int), (m : Int), l) k v s ∧ ms = [reqMsg x] ∧ k < l.length ∧ v.Pairwise (· < ·) ∧ (∀ i ∈ v, i < nk (leavesN n m) k) ∧ v ≠ [] ∧ s + sentN l l2 k v ≤ 8192 ∧ runW ((n : Int), (m : Int), l) l2 k v s = fin) ∨ (x = fin ∧ ms = [])
theorem runI_step {n m : Nat} {l l2 : List (List Int)} {k : Nat} {v : List Nat} {s : Nat} {fin : Wk} (hc : checkT ((n : Int), (m : Int), l) = 0) (tk : TOk n m l) (hu : ∀ row ∈ l, ∀ x ∈ row, 0 ≤ x ∧ x < 18446744073709551616) (hu2 : ∀ row ∈ l2, ∀ x ∈ row, 0 ≤ x ∧ x < 18446744073709551616)
    (hk : k < l.length) (hv : v.Pairwise (· < ·)) (hb : ∀ i ∈ v, i < nk (leavesN n m) k) (hne : v ≠ []) (hs : s + sentN l l2 k v ≤ 8192) (hf : runW ((n : Int), (m : Int), l) l2 k v s = fin) :
    learnE (stW ((n : Int), (m : Int), l) k v s) (ansM ((n : Int), (m : Int), l) l2 k v) = 0 ∧ RunI n m l l2 fin (learnW (stW ((n : Int), (m : Int), l) k v s) (ansM ((n : Int), (m : Int), l) l2 k v)) (learnM (stW ((n : Int), (m : Int), l) k v s) (ansM ((n : Int), (m : Int), l) l2 k v)) ∧
      (learnM (stW ((n : Int), (m : Int), l) k v s) (ansM ((n : Int), (m : Int), l) l2 k v) = [] ∨ (learnW (stW ((n : Int), (m : Int), l) k v s) (ansM ((n : Int), (m : Int), l) l2 k v)).2.2.1 < (k : Int)) := by
  have hg : ∀ {l : List (List Int)} {j : Nat}, (∀ row ∈ l, ∀ x ∈ row, 0 ≤ x ∧ x < 18446744073709551616) → ∀ x ∈ l.getD j [], 0 ≤ x ∧ x < 18446744073709551616 := fun {l j} h x hx => by
    rw [List.getD_eq_getElem?_getD] at hx
    cases hq : l[j]? with
    | none => rw [hq] at hx; simp at hx
    | some r => rw [hq] at hx; exact h r (List.mem_of_getElem? hq) x hx
  have hs0 : s ≤ 8192 := by omega
  have hE := learn_ok (l' := l2) hc tk hk hv hb hne hs0
  have hD := learn_dif (n := n) (m := m) (l := l) (l' := l2) (k := k) (v := v) (s := s) hv (hg hu) (hg hu2)
  have hW := learn_next (l' := l2) hc tk hk hv hb hne hs0 (hg hu) (hg hu2)
  refine ⟨hE, ?_⟩
  have hlev : (stW ((n : Int), (m : Int), l) k v s).2.2.1 = (k : Int) := rfl
  have hM : learnM (stW ((n : Int), (m : Int), l) k v s) (ansM ((n : Int), (m : Int), l) l2 k v) = if k = 0 ∨ v.filter (df l l2 k) = [] then [] else [reqMsg (learnW (stW ((n : Int), (m : Int), l) k v s) (ansM ((n : Int), (m : Int), l) l2 k v))] := by
    unfold learnM
    rw [if_neg (by rw [hE]; simp), hD, hlev]
    by_cases h : k = 0 ∨ v.filter (df l l2 k) = []
    · rw [if_pos h, if_pos (by rcases h with h | h; exact Or.inl (by omega); exact Or.inr h)]
    · rw [if_neg h, if_neg (fun h' => h (by rcases h' with h' | h'; exact Or.inl (by omega); exact Or.inr h'))]
  rw [hM]
  by_cases h : k = 0 ∨ v.filter (df l l2 k) = []
  · rw [if_pos h] at hW ⊢
    exact ⟨Or.inr ⟨hW.trans hf, rfl⟩, Or.inl rfl⟩
  · rw [if_neg h] at hW ⊢
    obtain ⟨k, rfl⟩ : ∃ j, k = j + 1 := ⟨k - 1, by have : k ≠ 0 := fun e => h (Or.inl e); omega⟩
    have hfl : v.filter (df l l2 (k + 1)) ≠ [] := fun e => h (Or.inr e)
    rw [Nat.add_sub_cancel] at hW
    have hgd : (l.getD k []).length = nk (leavesN n m) k := by
      rw [List.getD_eq_getElem?_getD, List.getElem?_eq_getElem (by omega)]; exact (tk.at_ k (by omega)).1
    rw [hW]
    refine ⟨Or.inl ⟨k, _, _, rfl, rfl, by omega, kids_asc _ (hv.sublist List.filter_sublist), ?_, kids_ne hfl, ?_, ?_⟩, Or.inr (by show (k : Int) < ((k + 1 : Nat) : Int); omega)⟩
    · intro i hi
      have := kids_lt (n := (l.getD k []).length) (m := nk (leavesN n m) (k + 1)) (by rw [hgd, nk_succ]) (fun j hj => hb j (List.mem_filter.1 hj).1) i hi
      omega
    · unfold sentN at hs
      rw [if_neg hfl] at hs
      omega
    · unfold runW at hf
      rw [if_neg hfl] at hf
      exact hf
end Go.Proofs.Ytjehedfdikdfpaa
namespace Go.Proofs.Ytjehedfdikdfpaa
open Go.RowKit Go.Shelf
attribute [local go_sem] Oper.semAt_some

set_option maxHeartbeats 1000000 in
theorem put_any (d : Int) (w : World) (hd : 0 ≤ d ∧ d < 18446744073709551616) : Calls Try.prog 47 #[.int .u64 d] w (RetSl encU8 (le8 d) w) := by
  obtain ⟨ha1, ha2⟩ := hd
  go_enter Try.func47, Try.ntmps47
  go_wp2
  go_loopw [3, 5] (fun v i wr => ∃ (k : Nat) (B : Option Addr) (vc : Nat) (out : List Int), k ≤ 8 ∧ i = .int .i64 k ∧ v = .slice B out.length vc ∧ Below w.heap.size w wr ∧ Hid (out = [] ++ (List.range k).map (byteOf d)) ∧ Hid (OwnW encU8 wr w.heap.size w.heap.size 5 (.slice B out.length vc) out)) (fun _ i _ => 8 - (intOf i).toNat)
  case atStart => exact ⟨0, none, 0, [], by omega, rfl, rfl, Below.refl _ _, by simp [Hid], OwnW.nil_⟩
  case round =>
    obtain ⟨k, B, vc, out, hk, rfl, rfl, hB, hout, hown⟩ := hrel
    have hol : out.length ≤ 8 := by rw [hout.out, List.nil_append, List.length_map, List.length_range]; exact hk
    by_cases hlt : k < 8
    · have hnn : (0 : Int) ≤ k := by omega
      have hki : (k : Int) < 8 := by omega
      have hsz := hB.size
      have HO1 := Lib.hid (Own.alloc hown.out (fun _ h => h.1.2) (.cells #[.int .u8 (d / 2 ^ (8 * k) % 256)] 5))
      have HRD : Hid (encU8.rd (wr.alloc (.cells #[.int .u8 (d / 2 ^ (8 * k) % 256)] 5)) (fun b => Nw w.heap.size wr.heap.size b ∧ (Value.slice B out.length vc).ownBlock ≠ some b) [.int .u8 (d / 2 ^ (8 * k) % 256)] (d / 2 ^ (8 * k) % 256)) := ⟨rfl, byteOf_range d k⟩
      go_wp2_with (at_builtin; refine Hid.out ?_)
      change wpList _ _ _ _ _ _
      refine wpList_app1 (E := encU8) tyU8s rfl _ _ rfl rfl HO1.out (d / 2 ^ (8 * k) % 256) _ rfl HRD.out (heap_alloc_new _ _) (fun _ h => by simp; have := h.1.2; omega) (by simp; omega) (by unfold maxLen; omega) (by omega) ?_
      intro A' c' w5 hown5 hg5 hat5
      have hlt1 : ∀ g, (Value.slice B out.length vc).ownBlock = some g → g < wr.heap.size := fun g hg => (hown.out.lt g hg).2
      have hok5 := Lib.hid (OwnW.app (hown5.more (S' := fun b => Nw w.heap.size (wr.alloc (.cells #[.int .u8 (d / 2 ^ (8 * k) % 256)] 5)).heap.size b ∧ (Value.slice B out.length vc).ownBlock ≠ some b) (fun b hb => ⟨hb.1.mono (Nat.le_refl _) (by simp), hb.2⟩) (OwnW_new hown5 hat5 hlt1 (by simp))) hg5 hat5)
      have hB5 := Lib.hid ((ext_alloc (o := .cells #[.int .u8 (d / 2 ^ (8 * k) % 256)] 5) hB).grown hg5 (by simp; omega) (fun g h => (hown.out.lt g h).1))
      clear hown5 hg5 hat5 hlt1
      go_wp2
      go_roundw
      case rel => exact ⟨k + 1, A', c', out ++ [d / 2 ^ (8 * k) % 256], hlt, by go_num, by simp, hB5.out, by rw [Hid, bytes_succ, ← List.append_assoc, ← hout.out]; rfl, by have := hok5.out; simpa [Hid] using this⟩
      case measure => simp [intOf]; omega
    · have hkk : k = 8 := by omega
      subst hkk
      have hki : ¬ (((8 : Nat) : Int) < 8) := by omega
      have hout1 : Hid (out = le8 d) := by rw [Hid, hout.out]; rfl
      obtain ⟨_, p1, p2, p3⟩ := hown.out.parts
      have HP := Lib.hid (And.intro p1 (And.intro p2 p3))
      clear p1 p2 p3
      go_wp2
      go_ret
      rw [← hout1.out]
      exact ⟨B, vc, rfl, HP.out.1, HP.out.2.1, HP.out.2.2, hB⟩
set_option maxHeartbeats 4000000 in
theorem extCheck_any (A : Option Addr) (c n : Nat) (l : List Ext) (size r : Int) (w : World) (hn : l.length = n) (hr : extE l size = r) (h1 : SlAt encExt w (Bl w.heap.size) A l) (hl : n ≤ 9223372036854775807) :
    Calls Try.prog 42 #[.slice A n c, .int .i64 size] w fun e w' => e = .returned (.int .i64 r) ∧ Below w.heap.size w w' := by
  subst hn
  have HR := Lib.hid hr; clear hr
  have H1 : Hid (∀ w', Below w.heap.size w w' → SlAt encExt w' (Bl w.heap.size) A l) := fun w' hb => h1.below hb
  clear h1
  go_enter Try.func42, Try.ntmps42
  by_cases hs0 : size < 0
  · have hE : Hid ((2 : Int) = r) := by rw [Hid, ← HR.out, extE, if_pos (Or.inl hs0)]
    go_wp2
    go_ret
    exact ⟨ret_int hE.out, Below.refl _ _⟩
  by_cases hs1 : 4096 < size
  · have hE : Hid ((2 : Int) = r) := by rw [Hid, ← HR.out, extE, if_pos (Or.inr hs1)]
    go_wp2
    go_ret
    exact ⟨ret_int hE.out, Below.refl _ _⟩
  have hR2 : Hid (exE size 0 l = r) := by rw [Hid, ← HR.out, extE, if_neg (by omega)]
  clear HR
  go_wp2
  go_loopw [5, 16] (fun nv i wr => ∃ (k : Nat) (nx : Int), k ≤ l.length ∧ i = .int .i64 k ∧ nv = .int .i64 nx ∧ Below w.heap.size w wr ∧ Hid (exE size 0 (l.take k) = 0) ∧ Hid (nx = nextE 0 (l.take k)) ∧ (0 ≤ nx ∧ nx ≤ 4097)) (fun _ i _ => l.length - (intOf i).toNat)
  case atStart => exact ⟨0, 0, by omega, rfl, rfl, Below.refl _ _, rfl, rfl, by omega, by omega⟩
  case round =>
    obtain ⟨wo, rfl⟩ : ∃ wo : World, wo = wr := ⟨_, rfl⟩
    obtain ⟨k, nx, hk, rfl, rfl, hB, hok, hnx, hn0, hn1⟩ := hrel
    by_cases hlt : k < l.length
    · obtain ⟨b, off, rfl, hb, g0, g1, hi1, hi2⟩ := (H1.out wo hB).ext hlt
      have hstep := exE_snoc (size := size) l[k] hok.out
      rw [← List.take_succ_eq_append_getElem hlt, ← hnx.out] at hstep
      have hbad : exE size 0 (l.take (k + 1)) ≠ 0 → exE size 0 (l.take (k + 1)) = r := fun h => by
        rw [← hR2.out]
        conv => rhs; rw [← List.take_append_drop (k + 1) l]
        exact (exE_app h).symm
      have hnext : nextE 0 (l.take (k + 1)) = l[k].1 + l[k].2 + 1 := by
        unfold nextE; rw [List.take_succ_eq_append_getElem hlt, List.getLast?_concat]; rfl
      obtain ⟨x, hx⟩ : ∃ x, l[k] = x := ⟨_, rfl⟩
      rw [hx] at g0 g1 hi1 hi2 hstep hnext
      obtain ⟨st, ct⟩ := x
      simp only at g0 g1 hi1 hi2 hstep hnext
      have HSTEP := Lib.hid hstep
      have HBAD := Lib.hid hbad
      have HNEXT := Lib.hid hnext
      have hki : (k : Int) < l.length := by omega
      have hnn : (0 : Int) ≤ k := by omega
      clear hx hstep hbad hnext
      unfold I64 at hi1 hi2
      obtain ⟨q1, q2⟩ := hi1
      obtain ⟨q3, q4⟩ := hi2
      obtain ⟨W1, hW1⟩ : ∃ W1, wo.alloc (.cells #[.int .i64 st, .int .i64 ct] 67) = W1 := ⟨_, rfl⟩
      have hb1 : Below wo.heap.size wo W1 := by rw [← hW1]; exact ext_alloc (Below.refl _ _)
      have hrx : W1.heap[wo.heap.size]? = some (.cells #[.int .i64 st, .int .i64 ct] 67 (0, 0)) := by rw [← hW1]; exact heap_alloc_new _ _
      have hB1 : Below w.heap.size w W1 := ext_trans hB hb1
      obtain ⟨x0, x1, _⟩ := blk2 hrx
      have HW1 := Lib.hid hW1
      clear hW1
      go_upto_region 7 with (fail)
      rw [HW1.out]
      clear g0 g1 hrx
      by_cases c1 : ct ≤ 0
      · have hE : Hid ((1 : Int) = r) := by
          have e := HSTEP.out
          rw [if_pos c1] at e
          rw [Hid, ← HBAD.out (by rw [e]; decide), e]
        go_wp2_with fail
        go_ret
        exact ⟨ret_int hE.out, hB1⟩
      by_cases c2 : st < 0
      · have hE : Hid ((2 : Int) = r) := by
          have e := HSTEP.out
          rw [if_neg c1, if_pos (Or.inl c2)] at e
          rw [Hid, ← HBAD.out (by rw [e]; decide), e]
        go_wp2_with fail
        go_ret
        exact ⟨ret_int hE.out, hB1⟩
      have c2' : 0 ≤ st := by omega
      have hsw : IntKind.i64.wrap (size - st) = size - st := IntWalk.i64_in _ (by omega)
      by_cases c3 : size - st < ct
      · have hE : Hid ((2 : Int) = r) := by
          have e := HSTEP.out
          rw [if_neg c1, if_pos (Or.inr c3)] at e
          rw [Hid, ← HBAD.out (by rw [e]; decide), e]
        go_wp2_with fail
        go_ret
        exact ⟨ret_int hE.out, hB1⟩
      have hsum : st + ct ≤ 4096 := by omega
      by_cases c4 : st < nx
      · have hE : Hid ((3 : Int) = r) := by
          have e := HSTEP.out
          rw [if_neg c1, if_neg (by omega), if_pos c4] at e
          rw [Hid, ← HBAD.out (by rw [e]; decide), e]
        go_wp2_with fail
        go_ret
        exact ⟨ret_int hE.out, hB1⟩
      have hE : Hid (exE size 0 (l.take (k + 1)) = 0) := by
        have e := HSTEP.out
        rw [if_neg c1, if_neg (by omega), if_neg c4] at e
        exact e
      go_wp2_with fail
      go_roundw
      case rel => exact ⟨k + 1, st + ct + 1, hlt, by go_num, by go_num, hB1, hE.out, HNEXT.out.symm, by omega, by omega⟩
      case measure => simp [intOf]; omega
    · have hkI : ¬ (k : Int) < l.length := by omega
      have hE : Hid ((0 : Int) = r) := by
        have h := hok.out
        rw [List.take_of_length_le (by omega)] at h
        rw [Hid, ← hR2.out, h]
      go_wp2
      go_ret
      exact ⟨ret_int hE.out, hB⟩
end Go.Proofs.Ytjehedfdikdfpaa
namespace Go.Proofs.Ytjehedfdikdfpaa

section
variable {P : Program} {ops : Array Oper} {Q : Exit → Act → World → Prop} {md : Region.Mode} {S : World → Prop} {k : Nat}
/-- whatever order is picked from here on; a condition holds behind every operation but the last one, number k -/
def wpAnyU (P : Program) (md : Region.Mode) (ops : Array Oper) (Q : Exit → Act → World → Prop) (S : World → Prop) (k : Nat) : Nat → Array Bool → Act → World → Prop
  | 0, listed, a, w => Region.ready md ops listed = [] ∧ Q .normal a w
  | fuel + 1, listed, a, w =>
    (Region.ready md ops listed = [] → Q .normal a w) ∧
    ∀ i ∈ Region.ready md ops listed, wpOp P ops Q i (fun a' w' => (i ≠ k → S w') ∧ wpAnyU P md ops Q S k fuel (listed.setIfInBounds i true) a' w') a w
theorem wpAny_ofU : ∀ (fuel : Nat) (listed : Array Bool) (a : Act) (w : World), wpAnyU P md ops Q S k fuel listed a w → wpAny P md ops Q fuel listed a w
  | 0, _, _, _, h => h
  | fuel + 1, _, _, _, h => ⟨h.1, fun i hi => wpOp_mono (fun a' w' h' => wpAny_ofU fuel _ a' w' h'.2) (h.2 i hi)⟩
/-- operation k waits for operation i -/
def waitsFor (md : Region.Mode) (ops : Array Oper) (k i : Nat) : Bool := match ops[k]? with
  | none => true
  | some o => o.after.any fun e => Region.binds md e && e.on == i
theorem waits_not {i : Nat} {listed : Array Bool} (h : waitsFor md ops k i = true) (hi : i ∈ Region.ready md ops listed) : ¬ k ∈ Region.ready md ops listed := fun hk => by
  obtain ⟨_, o, ho, hall⟩ := mem_ready.1 hk
  unfold waitsFor at h
  rw [ho] at h
  simp only [Array.any_eq_true] at h
  obtain ⟨j, hj, hb⟩ := h
  simp only [Bool.and_eq_true, beq_iff_eq] at hb
  have h1 := hall _ (Array.getElem_mem hj) hb.1
  have h0 := (mem_ready.1 hi).1
  rw [hb.2] at h1
  rcases Nat.lt_or_ge i listed.size with h' | h'
  · simp [h'] at h0 h1; rw [h0] at h1; cases h1
  · simp [Array.getElem?_eq_none h'] at h1
theorem wpAnyU_first {i : Nat} {oi : Oper} {v : Value} (hi : ops[i]? = some oi) (hsel : ∀ (j : Nat) (o : Oper) cs b, ops[j]? = some o → o.op ≠ .select cs b)
    (hQ : ∀ c a w, Q (.panic c) (a.put oi.dst v) w → Q (.panic c) a w) (hik : i ≠ k) (hwt : waitsFor md ops k i = true) :
    ∀ (fuel : Nat) (listed : Array Bool) (a : Act) (w : World),
      (∀ j oj, ops[j]? = some oj → j ≠ i → listed.getD j true = false → (∀ e ∈ oj.after, Region.binds md e = true → e.on ≠ i) → oi.apart ops oj = true) →
      i ∈ Region.ready md ops listed → YieldsIf P ops S oi v a → S w →
      wpAnyU P md ops Q S k fuel (listed.setIfInBounds i true) (a.put oi.dst v) w → wpAnyU P md ops Q S k (fuel + 1) listed a w := by
  intro fuel
  induction fuel with
  | zero =>
    intro listed a w _ hr hy hS H
    refine ⟨fun h => (by rw [h] at hr; cases hr), fun j hj => ?_⟩
    by_cases hji : j = i
    · subst hji; exact hy.wpOp hi hS ⟨fun _ => hS, H⟩
    · have := ready_mono hj hji
      rw [H.1] at this
      cases this
  | succ fuel ih =>
    intro listed a w hfree hr hy hS H
    refine ⟨fun h => (by rw [h] at hr; cases hr), fun j hj => ?_⟩
    by_cases hji : j = i
    · subst hji; exact hy.wpOp hi hS ⟨fun _ => hS, H⟩
    · have hjk : j ≠ k := fun e => by subst e; exact waits_not hwt hr hj
      have h1 := H.2 j (ready_mono hj hji)
      obtain ⟨hjun, oj, hoj, hall⟩ := mem_ready.1 hj
      have hnot : ∀ e ∈ oj.after, Region.binds md e = true → e.on ≠ i := fun e he hb heq => by
        have h1 := hall e he hb
        have h0 := (mem_ready.1 hr).1
        rw [heq] at h1
        rcases Nat.lt_or_ge i listed.size with h' | h'
        · simp [h'] at h0 h1; rw [h0] at h1; cases h1
        · simp [Array.getElem?_eq_none h'] at h1
      have h2 := wpOp_putIf hoj (hfree j oj hoj hji hjun hnot) (fun cs b => hsel i oi cs b hi) (fun cs b => hsel j oj cs b hoj) hQ hy h1
      have hfree' : ∀ m ok, ops[m]? = some ok → m ≠ i → (listed.setIfInBounds j true).getD m true = false →
          (∀ e ∈ ok.after, Region.binds md e = true → e.on ≠ i) → oi.apart ops ok = true := fun m ok hm hmi hun hno => by
        refine hfree m ok hm hmi ?_ hno
        by_cases hjm : j = m
        · subst hjm; exact hjun
        · rw [getD_set_ne true hjm] at hun; exact hun
      refine wpOp_mono (fun a' w' h3 => ⟨h3.2.1, ih (listed.setIfInBounds j true) a' w' hfree' (ready_mono hr (Ne.symm hji)) h3.1 (h3.2.1 hjk) ?_⟩) h2
      rw [Array.setIfInBounds_comm _ _ hji]
      exact h3.2.2
/-- take number i first -/
theorem wpAnyU_take {i : Nat} {oi : Oper} {v : Value} {fuel : Nat} {listed : Array Bool} {a : Act} {w : World} (hi : ops[i]? = some oi)
    (hs : Region.noSelect ops = true) (hf : Region.free md ops listed i = true) (hr : (Region.ready md ops listed).contains i = true) (hk : (waitsFor md ops k i && !(i == k)) = true)
    (hQ : ∀ c a w, Q (.panic c) (a.put oi.dst v) w → Q (.panic c) a w) (hw : Region.wanted oi (yielded ops a.tmps) = true) (hy : ∀ w, S w → (execOp a.eval oi).run P w = .ok (.value v) w) (hS : S w)
    (h : wpAnyU P md ops Q S k fuel (listed.setIfInBounds i true) (a.put oi.dst v) w) : wpAnyU P md ops Q S k (fuel + 1) listed a w := by
  simp only [Bool.and_eq_true, Bool.not_eq_true', beq_eq_false_iff_ne] at hk
  exact wpAnyU_first hi (Region.noSelect_spec hs) hQ hk.2 hk.1 fuel listed a w (Region.free_spec hi hf) (by simpa using hr) (Or.inl ⟨hw, hy⟩) hS h
/-- take number i first: its slot by name -/
theorem wpAnyU_takeD {i : Nat} {oi : Oper} {v : Value} {d : Nat} {fuel : Nat} {listed : Array Bool} {a : Act} {w : World} (hi : ops[i]? = some oi) (hd : oi.dst = some d)
    (hs : Region.noSelect ops = true) (hf : Region.free md ops listed i = true) (hr : (Region.ready md ops listed).contains i = true) (hk : (waitsFor md ops k i && !(i == k)) = true)
    (hQ : ∀ c a w, Q (.panic c) (a.put (some d) v) w → Q (.panic c) a w) (hw : Region.wanted oi (yielded ops a.tmps) = true) (hy : ∀ w, S w → (execOp a.eval oi).run P w = .ok (.value v) w) (hS : S w)
    (h : wpAnyU P md ops Q S k fuel (listed.setIfInBounds i true) { tmps := a.tmps.setIfInBounds d v, defers := a.defers } w) : wpAnyU P md ops Q S k (fuel + 1) listed a w :=
  wpAnyU_take (v := v) hi hs hf hr hk (by rw [hd]; exact hQ) hw hy hS (by rw [hd]; exact h)
/-- the only one that may come up -/
theorem wpAnyU_one {i : Nat} {o : Oper} {fuel : Nat} {listed : Array Bool} {a : Act} {w : World} (hr : Region.ready md ops listed = [i]) (ho : ops[i]? = some o)
    (h : ∀ K' : Act → World → Prop, Shut (∀ a w, (i ≠ k → S w) → wpAnyU P md ops Q S k fuel (listed.setIfInBounds i true) a w → K' a w) → if Region.wanted o (yielded ops a.tmps) = true then Oper.wp P o a w K' Q else K' (a.put o.dst undef) w) :
    wpAnyU P md ops Q S k (fuel + 1) listed a w :=
  ⟨fun h0 => by rw [hr] at h0; simp at h0, fun j hj => by
    rw [hr, List.mem_singleton] at hj
    subst hj
    exact wpOp_step ho (fun K' hK => h K' (fun a w hS hW => hK a w ⟨hS, hW⟩))⟩
/-- the only one that may come up, without a guard -/
theorem wpAnyU_op {i : Nat} {o : Oper} {fuel : Nat} {listed : Array Bool} {a : Act} {w : World} (hr : Region.ready md ops listed = [i]) (ho : ops[i]? = some o) (hg : o.guard = none)
    (h : ∀ K' : Act → World → Prop, Shut (∀ a w, (i ≠ k → S w) → wpAnyU P md ops Q S k fuel (listed.setIfInBounds i true) a w → K' a w) → Oper.wp P o a w K' Q) :
    wpAnyU P md ops Q S k (fuel + 1) listed a w :=
  wpAnyU_one hr ho (fun K' hK => by rw [if_pos (by simp [Region.wanted, hg])]; exact h K' hK)
/-- two may come up -/
theorem wpAnyU_two {i j : Nat} {oi oj : Oper} {fuel : Nat} {listed : Array Bool} {a : Act} {w : World} (hr : Region.ready md ops listed = [i, j]) (hoi : ops[i]? = some oi) (hoj : ops[j]? = some oj) (hgi : oi.guard = none) (hgj : oj.guard = none)
    (hi : ∀ K' : Act → World → Prop, Shut (∀ a w, (i ≠ k → S w) → wpAnyU P md ops Q S k fuel (listed.setIfInBounds i true) a w → K' a w) → Oper.wp P oi a w K' Q)
    (hj : ∀ K' : Act → World → Prop, Shut (∀ a w, (j ≠ k → S w) → wpAnyU P md ops Q S k fuel (listed.setIfInBounds j true) a w → K' a w) → Oper.wp P oj a w K' Q) :
    wpAnyU P md ops Q S k (fuel + 1) listed a w :=
  ⟨fun h0 => by rw [hr] at h0; simp at h0, fun m hm => by
    rw [hr] at hm
    simp only [List.mem_cons, List.not_mem_nil, or_false] at hm
    rcases hm with rfl | rfl
    · exact wpOp_step hoi (fun K' hK => by rw [if_pos (by simp [Region.wanted, hgi])]; exact hi K' (fun a w hS hW => hK a w ⟨hS, hW⟩))
    · exact wpOp_step hoj (fun K' hK => by rw [if_pos (by simp [Region.wanted, hgj])]; exact hj K' (fun a w hS hW => hK a w ⟨hS, hW⟩))⟩
theorem wpAnyU_done {listed : Array Bool} {a : Act} {w : World} (hr : Region.ready md ops listed = []) (h : Q .normal a w) : ∀ fuel, wpAnyU P md ops Q S k fuel listed a w
  | 0 => ⟨hr, h⟩
  | _ + 1 => ⟨fun _ => h, by rw [hr]; simp⟩
theorem wp_region_U {id : Nat} {a : Act} {w : World} (S : World → Prop) (k : Nat) (hm : P.follows .mixedOrders = true)
    (h : wpAnyU P .any ops Q S k ops.size (Array.replicate ops.size false) a w.drew) : (Code.region id ops true).wp P Q a w :=
  wp_region_any hm (wpAny_ofU _ _ _ _ h)
end
end Go.Proofs.Ytjehedfdikdfpaa
namespace Go.Proofs.Ytjehedfdikdfpaa
open Go.RowKit Go.Shelf
attribute [local go_sem] Oper.semAt_some

set_option maxHeartbeats 4000000 in
set_option maxRecDepth 100000 in
theorem wkCheck_any (s lf lv sent : Int) (done : Bool) (A P F : Option Addr) (c pc fc n pn fn : Nat) (l : List (List Int)) (p f : List Ext) (r : Int) (w : World) (hn : l.length = n) (hpn : p.length = pn) (hfn : f.length = fn) (hr : wkE ((s, lf, l), p, lv, f, sent, done) = r)
    (h1 : SlAt (encSl encU64) w (Bl w.heap.size) A l) (hP : SlAt encExt w (Bl w.heap.size) P p) (hF : SlAt encExt w (Bl w.heap.size) F f) (hs : n ≤ 100000) (hc : n ≤ c ∧ c ≤ maxLen) (hI : I64 s ∧ I64 lf ∧ I64 lv ∧ I64 sent) (hpl : pn ≤ 9223372036854775807) (hfl : fn ≤ 9223372036854775807) (hlv : ∀ row ∈ l, row.length ≤ 1000000) :
    Calls Try.prog 18 #[.agg #[.int .i64 s, .int .i64 lf, .slice A n c, .slice P pn pc, .int .i64 lv, .slice F fn fc, .int .i64 sent, .bool done]] w fun e w' => e = .returned (.int .i64 r) ∧ Below w.heap.size w w' := by
  subst hn hpn hfn
  have HR := Lib.hid hr; clear hr
  obtain ⟨n0, hn0⟩ : ∃ n0, w.heap.size = n0 := ⟨_, rfl⟩
  obtain ⟨W0, hW0⟩ : ∃ W0, w.alloc (.cells #[.int .i64 s, .int .i64 lf, .slice A l.length c, .slice P p.length pc, .int .i64 lv, .slice F f.length fc, .int .i64 sent, .bool done] 27) = W0 := ⟨_, rfl⟩
  have hB0 : Below n0 w W0 := by rw [← hW0, ← hn0]; exact ext_alloc (Below.refl _ _)
  have hr0 : W0.heap[n0]? = some (.cells #[.int .i64 s, .int .i64 lf, .slice A l.length c, .slice P p.length pc, .int .i64 lv, .slice F f.length fc, .int .i64 sent, .bool done] 27 (0, 0)) := by rw [← hW0, ← hn0]; exact heap_alloc_new _ _
  obtain ⟨n2, hn2⟩ : ∃ n2, W0.heap.size = n2 := ⟨_, rfl⟩
  have hs0 : W0.heap.size = n0 + 1 := by rw [← hW0, ← hn0]; simp
  have hn02 : n0 < n2 := by omega
  have HRW : Hid (∀ W, Below n2 W0 W → W.heap[n0]? = some (.cells #[.int .i64 s, .int .i64 lf, .slice A l.length c, .slice P p.length pc, .int .i64 lv, .slice F f.length fc, .int .i64 sent, .bool done] 27 (0, 0))) := fun W hb => (hb.block n0 hn02).trans hr0
  have up : ∀ {α : Type} {E : Enc α} {A : Option Addr} {l : List α}, SlAt E w (Bl w.heap.size) A l → ∀ W, Below n2 W0 W → SlAt E W (Bl W.heap.size) A l := fun h W hb => by
    rw [hn0] at h
    exact (h.blk (fun g hg => (hb.block g (by have : g < n0 := hg; omega)).trans (hB0.block g hg))).more (fun g hg => by have : g < n0 := hg; have := hb.size; show g < W.heap.size; omega)
  have H1 := Lib.hid (up h1)
  have HP := Lib.hid (up hP)
  have HF := Lib.hid (up hF)
  obtain ⟨x, hx⟩ : ∃ x, checkT (s, lf, l) = x := ⟨_, rfl⟩
  have HCH := Lib.hid (fun W (hb : Below n2 W0 W) => check_any s lf A c l.length l x W rfl hx (H1.out W hb) hs hc ⟨hI.1, hI.2.1⟩)
  have HXE : Hid (x ≠ 0 → x = r) := fun h => by
    have hr := HR.out
    unfold wkE at hr
    rw [if_pos (by rw [hx]; exact h)] at hr
    exact hx.symm.trans hr
  have HB0 : Hid (Below w.heap.size w W0) := by rw [hn0]; exact hB0
  obtain ⟨_, _, ⟨i1, i2⟩, i3, i4⟩ := hI
  obtain ⟨p0, p1, p2, p3, p4, p5, p6, p7, _⟩ := blk8 hr0
  clear h1 hP hF up hr0 hs0
  go_enter Try.func18, Try.ntmps18
  go_wp2_with fail
  refine (HCH.out W0 (Below.refl _ _)).mono ?_
  rintro e w1 ⟨rfl, hb1⟩
  rw [hn2] at hb1
  clear p0 p1 p2 p3 p4 p5 p6 p7
  by_cases hx0 : x = 0
  · subst hx0
    clear HXE
    obtain ⟨p0, p1, p2, p3, p4, p5, p6, p7, _⟩ := blk8 (HRW.out w1 hb1)
    by_cases g1 : lv < 0
    · have hE : Hid ((2 : Int) = r) := by
        have h := HR.out
        unfold wkE at h
        rw [if_neg (by rw [hx]; simp), if_pos (by simp only; omega)] at h
        exact h
      go_wp2_with fail
      all_goals
        go_ret
        exact ⟨ret_int hE.out, HB0.out.trans (hb1.mono (by omega))⟩
    by_cases g2 : (l.length : Int) ≤ lv
    · have hE : Hid ((2 : Int) = r) := by
        have h := HR.out
        unfold wkE at h
        rw [if_neg (by rw [hx]; simp), if_pos (by simp only; omega)] at h
        exact h
      go_wp2_with fail
      all_goals
        go_ret
        exact ⟨ret_int hE.out, HB0.out.trans (hb1.mono (by omega))⟩
    obtain ⟨k, rfl⟩ : ∃ k : Nat, lv = k := ⟨lv.toNat, by omega⟩
    have hk : k < l.length := by omega
    cases done with
    | true =>
      by_cases g3 : (k : Int) = 0
      · by_cases g4 : sent < 0
        · have hE : Hid ((2 : Int) = r) := by
            have h := HR.out
            unfold wkE at h
            rw [if_neg (by rw [hx]; simp), if_pos (by simp only; omega)] at h
            exact h
          go_wp2_with fail
          all_goals
            go_ret
            exact ⟨ret_int hE.out, HB0.out.trans (hb1.mono (by omega))⟩
        by_cases g5 : 8192 < sent
        · have hE : Hid ((2 : Int) = r) := by
            have h := HR.out
            unfold wkE at h
            rw [if_neg (by rw [hx]; simp), if_pos (by simp only; omega)] at h
            exact h
          go_wp2_with fail
          all_goals
            go_ret
            exact ⟨ret_int hE.out, HB0.out.trans (hb1.mono (by omega))⟩
        · obtain rfl : k = 0 := by omega
          have hE : Hid ((if p = [] ∧ extE f s = 0 then (0 : Int) else 3) = r) := by
            have h := HR.out
            unfold wkE at h
            rw [if_neg (by rw [hx]; simp), if_neg (by simp only; omega), if_pos (by first | trivial | rfl)] at h
            exact h
          have hq := Lib.hid (fun W (hb : Below n2 W0 W) => extCheck_any F fc f.length f s (extE f s) W rfl rfl (HF.out W hb) hfl)
          obtain ⟨r2, hr2⟩ : ∃ r2, extE f s = r2 := ⟨_, rfl⟩
          rw [hr2] at hq hE
          have hg1 : ¬ (((0 : Nat) : Int) < 0) := by omega
          have hg2 : ¬ (l = []) := fun e => by rw [e] at hk; simp at hk
          by_cases hp0 : p.length = 0
          · have hpn : p = [] := List.eq_nil_of_length_eq_zero hp0
            by_cases h20 : r2 = 0
            · have hE2 : Hid ((0 : Int) = r) := by have h := hE.out; rw [if_pos ⟨hpn, h20⟩] at h; exact h
              subst h20
              clear hr2 hpn hE
              go_wp2_with fail
              all_goals first
                | (exfalso; omega)
                | (refine (hq.out _ hb1).mono ?_
                   rintro e w2 ⟨rfl, hb2⟩
                   go_wp2_with fail
                   go_ret
                   exact ⟨ret_int hE2.out, HB0.out.trans ((hb1.mono (by omega)).trans (hb2.mono (by have := hb1.size; omega)))⟩)
            · have hE2 : Hid ((3 : Int) = r) := by have h := hE.out; rw [if_neg (fun h => h20 h.2)] at h; exact h
              have hb20 : (r2 == 0) = false := by simp [h20]
              clear hr2 hpn hE
              go_wp2_with fail
              all_goals first
                | (exfalso; omega)
                | (refine (hq.out _ hb1).mono ?_
                   rintro e w2 ⟨rfl, hb2⟩
                   go_wp2_with fail
                   go_ret
                   exact ⟨ret_int hE2.out, HB0.out.trans ((hb1.mono (by omega)).trans (hb2.mono (by have := hb1.size; omega)))⟩)
          · have hE2 : Hid ((3 : Int) = r) := by have h := hE.out; rw [if_neg (fun h => hp0 (by rw [h.1]; rfl))] at h; exact h
            clear hr2 hE
            go_wp2_with fail
            all_goals first
              | (exfalso; omega)
              | (go_ret
                 exact ⟨ret_int hE2.out, HB0.out.trans (hb1.mono (by omega))⟩)
      · have hE : Hid ((2 : Int) = r) := by
          have h := HR.out
          unfold wkE at h
          rw [if_neg (by rw [hx]; simp), if_pos (Or.inr (Or.inr (Or.inl ⟨by first | trivial | rfl, g3⟩)))] at h
          exact h
        go_wp2_with fail
        go_ret
        exact ⟨ret_int hE.out, HB0.out.trans (hb1.mono (by omega))⟩
    | false =>
      by_cases g4 : sent < 0
      · have hE : Hid ((2 : Int) = r) := by
          have h := HR.out
          unfold wkE at h
          rw [if_neg (by rw [hx]; simp), if_pos (by simp only; omega)] at h
          exact h
        go_wp2_with fail
        all_goals
          go_ret
          exact ⟨ret_int hE.out, HB0.out.trans (hb1.mono (by omega))⟩
      by_cases g5 : 8192 < sent
      · have hE : Hid ((2 : Int) = r) := by
          have h := HR.out
          unfold wkE at h
          rw [if_neg (by rw [hx]; simp), if_pos (by simp only; omega)] at h
          exact h
        go_wp2_with fail
        all_goals
          go_ret
          exact ⟨ret_int hE.out, HB0.out.trans (hb1.mono (by omega))⟩
      have hE : Hid ((if p ≠ [] ∧ f = [] ∧ extE p (l[k].length : Int) = 0 then (0 : Int) else 3) = r) := by
        have h := HR.out
        unfold wkE at h
        have hlev : levT ((s, lf, l) : Tr) (k : Int) = l[k] := by
          unfold levT
          simp only [Int.toNat_natCast]
          rw [List.getD_eq_getElem?_getD, List.getElem?_eq_getElem hk]; rfl
        rw [if_neg (by rw [hx]; simp), if_neg (by simp only; intro h; rcases h with h | h | ⟨h, _⟩ | h | h <;> first | omega | cases h), if_neg (by simp), hlev] at h
        exact h
      obtain ⟨b2, off, D, d, rfl, hb2, g0, hD, hd1, hd2⟩ := (H1.out w1 hb1).sl hk
      have hq := Lib.hid (fun W (hb : Below n2 W0 W) => extCheck_any P pc p.length p (l[k].length : Int) (extE p (l[k].length : Int)) W rfl rfl (HP.out W hb) hpl)
      obtain ⟨row, hrow⟩ : ∃ row, l[k] = row := ⟨_, rfl⟩
      rw [hrow] at g0 hE hq
      obtain ⟨r2, hr2⟩ : ∃ r2, extE p (row.length : Int) = r2 := ⟨_, rfl⟩
      rw [hr2] at hq hE
      have hki : (k : Int) < l.length := by omega
      have hnn : (0 : Int) ≤ k := by omega
      have hb2' : b2 < w1.heap.size := hb2
      have hb0' : n0 < w1.heap.size := by have := hb1.size; omega
      clear hD hrow hr2
      by_cases hp0 : p.length = 0
      · have hE2 : Hid ((3 : Int) = r) := by have h := hE.out; rw [if_neg (fun h => h.1 (List.eq_nil_of_length_eq_zero hp0))] at h; exact h
        clear hE hq
        go_upto_region 9 with (fail)
        go_quiet (fail)
        generalize hWq : w1.drewN nq = w2
        have hd2 : Drew w1 w2 := ⟨nq, hWq.symm⟩
        clear hWq p0 p1 p2 p3 p4 p5 p6 p7 g0
        go_wp2_with fail
        go_ret
        exact ⟨ret_int hE2.out, HB0.out.trans ((hb1.mono (by omega)).trans (hd2.below _))⟩
      by_cases hf0 : f.length = 0
      · have hE3 : Hid ((if r2 = 0 then (0 : Int) else 3) = r) := by
          have h := hE.out
          by_cases h2 : r2 = 0
          · rw [if_pos ⟨fun e => hp0 (by rw [e]; rfl), List.eq_nil_of_length_eq_zero hf0, h2⟩] at h; rw [Hid, if_pos h2]; exact h
          · rw [if_neg (fun h => h2 h.2.2)] at h; rw [Hid, if_neg h2]; exact h
        have hp1 : 0 < p.length := by omega
        clear hE
        go_upto_region 9 with (fail)
        have HC : Hid (∀ W, Below w1.heap.size w1 W → (W.cell? ⟨n0, 2, none⟩ = some (.slice (some ⟨b2, off, none⟩) l.length c) ∧ W.cell? ⟨n0, 3, none⟩ = some (.slice P p.length pc)) ∧ W.cell? ⟨n0, 4, none⟩ = some (.int .i64 (k : Int)) ∧ W.cell? ⟨n0, 5, none⟩ = some (.slice F f.length fc) ∧ W.cell? ⟨b2, off + k, none⟩ = some (.slice D row.length d)) := fun W hb =>
          ⟨⟨(hb.cell (p := ⟨n0, 2, none⟩) hb0').trans p2, (hb.cell (p := ⟨n0, 3, none⟩) hb0').trans p3⟩, (hb.cell (p := ⟨n0, 4, none⟩) hb0').trans p4, (hb.cell (p := ⟨n0, 5, none⟩) hb0').trans p5, (hb.cell (p := ⟨b2, off + k, none⟩) hb2').trans g0⟩
        have hc0 := HC.out w1.drew (Below.refl _ _).drew
        clear p0 p1 p2 p3 p4 p5 p6 p7 g0
        go_region_held3 (fun W => (W.cell? ⟨n0, 2, none⟩ = some (.slice (some ⟨b2, off, none⟩) l.length c) ∧ W.cell? ⟨n0, 3, none⟩ = some (.slice P p.length pc)) ∧ W.cell? ⟨n0, 4, none⟩ = some (.int .i64 (k : Int)) ∧ W.cell? ⟨n0, 5, none⟩ = some (.slice F f.length fc) ∧ W.cell? ⟨b2, off + k, none⟩ = some (.slice D row.length d)) (first | exact hc0 | exact HC.out _ hx2 | go_keep) (first | (go_at_call 42; refine (hq.out w1.drew hb1.drew).mono ?_; rintro e w2 ⟨rfl, hb2'⟩; have hx2 : Below w1.heap.size w1 w2 := bUn hb2'))
        all_goals
          clear hc0 HC
          by_cases h20 : r2 = 0
          · have hE2 : Hid ((0 : Int) = r) := by have h := hE3.out; rw [if_pos h20] at h; exact h
            have hb20 : (r2 == 0) = true := by simp [h20]
            clear hE3 h20 hq
            go_wp2_with fail
            go_ret
            exact ⟨ret_int hE2.out, HB0.out.trans ((hb1.mono (by omega)).trans (hx2.mono (by have := hb1.size; omega)))⟩
          · have hE2 : Hid ((3 : Int) = r) := by have h := hE3.out; rw [if_neg h20] at h; exact h
            have hb20 : (r2 == 0) = false := by simp [h20]
            clear hE3 h20 hq
            go_wp2_with fail
            go_ret
            exact ⟨ret_int hE2.out, HB0.out.trans ((hb1.mono (by omega)).trans (hx2.mono (by have := hb1.size; omega)))⟩
      · have hE2 : Hid ((3 : Int) = r) := by have h := hE.out; rw [if_neg (fun h => hf0 (by rw [h.2.1]; rfl))] at h; exact h
        have hp1 : 0 < p.length := by omega
        have hf1 : ((f.length : Int) == 0) = false := by rw [beq_eq_false_iff_ne]; omega
        clear hE hq
        go_upto_region 9 with (fail)
        go_quiet (fail)
        generalize hWq : w1.drewN nq = w2
        have hd2 : Drew w1 w2 := ⟨nq, hWq.symm⟩
        clear hWq p0 p1 p2 p3 p4 p5 p6 p7 g0
        go_wp2_with fail
        go_ret
        exact ⟨ret_int hE2.out, HB0.out.trans ((hb1.mono (by omega)).trans (hd2.below _))⟩
  · have hE := Lib.hid (HXE.out hx0)
    go_wp2_with fail
    go_ret
    exact ⟨ret_int hE.out, HB0.out.trans (hb1.mono (by omega))⟩
end Go.Proofs.Ytjehedfdikdfpaa
namespace Go.Proofs.Ytjehedfdikdfpaa
open Go.RowKit Go.Shelf
attribute [local go_sem] Oper.semAt_some

theorem tyInts44q : SliceTy Try.prog 42 3 1 8 := sliceTy_mk (z := .int .i64 0) Try.underlying42 (by kernel_rfl) rfl (by decide)
theorem tyU64q : SliceTy Try.prog 72 77 1 8 := sliceTy_mk (z := .int .u64 0) Try.underlying72 (by kernel_rfl) rfl (by decide)
set_option maxHeartbeats 1000000
theorem cloneInts_any (A : Option Addr) (c n : Nat) (l : List _) (w : World) (hn : l.length = n) (h1 : SlAt encInt w (Bl w.heap.size) A l) (hl : n ≤ 1000000) :
    Calls Try.prog 45 #[.slice A n c] w fun e w' => ∃ A' c', e = .returned (.slice A' n c') ∧ n ≤ c' ∧ c' ≤ maxLen ∧ SlAt encInt w' (Nw w.heap.size w'.heap.size) A' l ∧ Below w.heap.size w w' := by
  cases A with
  | none =>
    have h0 : l = [] := by
      rcases Decidable.em (l.length = 0) with h | h
      · exact List.eq_nil_of_length_eq_zero h
      · obtain ⟨b, off, he, _⟩ := h1 (by intro e; rw [e] at h; exact h rfl)
        cases he
    subst h0
    subst hn
    have hE := fun W => Lib.run_eql_slice_nil (P := Try.prog) W 42 3 none 0 c 0 0 Try.underlying42
    go_enter Try.func45, Try.ntmps45
    go_wp2
    go_ret
    exact ⟨none, 0, rfl, by simp, by simp, SlAt.nil_, Below.refl _ _⟩
  | some ad =>
    have hO := Lib.hid (show Own encInt (w.alloc (.cells #[] 3)) w.heap.size 3 (Bl w.heap.size) (.slice (some ⟨w.heap.size, 0, none⟩) 0 0) [] from Own.make0 (cur := #[]) (Nat.le_refl _) (by unfold maxLen; omega) rfl (fun h => Nat.lt_irrefl _ h))
    have hsrc := Lib.hid (show SlAt encInt (w.alloc (.cells #[] 3)) (Bl w.heap.size) (some ad) l from h1.below (ext_alloc (Below.refl _ _)))
    clear h1
    have hE := fun W => Lib.run_eql_slice_nil (P := Try.prog) W 42 3 (some ad) n c 0 0 Try.underlying42
    go_enter Try.func45, Try.ntmps45
    go_wp2_with (at_builtin; refine Hid.out ?_)
    change wpList _ _ _ _ _ _
    refine wpList_appAll (E := encInt) tyInts44q rfl _ _ rfl rfl hO.out rfl hn.symm hsrc.out (fun g hg => by simp; have : g < w.heap.size := hg; omega) (by simp) (by unfold maxLen; simp; omega) (by simp; omega) ?_
    intro A5 c5 w5 hown5 hg5 hat5
    simp only [List.length_nil, Nat.zero_add, List.nil_append] at hown5
    have hB5 : Below w.heap.size w w5 := (ext_alloc (o := .cells #[] 3) (Below.refl w.heap.size w)).grown hg5 (by simp) (fun g hg => (hO.out.lt g hg).1)
    have hfin : Hid (n ≤ c5 ∧ c5 ≤ maxLen ∧ SlAt encInt w5 (Nw w.heap.size w5.heap.size) A5 l) := by
      obtain ⟨A', c', he, k1, k2, k3⟩ := (Own.flat hown5 (fun h => h)).rd (fun _ h => h.elim)
      simp only [List.cons.injEq, Value.slice.injEq, and_true] at he
      obtain ⟨rfl, e2, rfl⟩ := he
      exact ⟨by omega, k2, k3⟩
    clear hown5 hg5 hat5
    go_wp2
    go_ret
    exact ⟨A5, c5, rfl, hfin.out.1, hfin.out.2.1, hfin.out.2.2, hB5⟩
theorem cloneU64_any (A : Option Addr) (c n : Nat) (l : List _) (w : World) (hn : l.length = n) (h1 : SlAt encU64 w (Bl w.heap.size) A l) (hl : n ≤ 1000000) :
    Calls Try.prog 70 #[.slice A n c] w fun e w' => ∃ A' c', e = .returned (.slice A' n c') ∧ n ≤ c' ∧ c' ≤ maxLen ∧ SlAt encU64 w' (Nw w.heap.size w'.heap.size) A' l ∧ Below w.heap.size w w' := by
  cases A with
  | none =>
    have h0 : l = [] := by
      rcases Decidable.em (l.length = 0) with h | h
      · exact List.eq_nil_of_length_eq_zero h
      · obtain ⟨b, off, he, _⟩ := h1 (by intro e; rw [e] at h; exact h rfl)
        cases he
    subst h0
    subst hn
    have hE := fun W => Lib.run_eql_slice_nil (P := Try.prog) W 72 77 none 0 c 0 0 Try.underlying72
    go_enter Try.func70, Try.ntmps70
    go_wp2
    go_ret
    exact ⟨none, 0, rfl, by simp, by simp, SlAt.nil_, Below.refl _ _⟩
  | some ad =>
    have hO := Lib.hid (show Own encU64 (w.alloc (.cells #[] 77)) w.heap.size 77 (Bl w.heap.size) (.slice (some ⟨w.heap.size, 0, none⟩) 0 0) [] from Own.make0 (cur := #[]) (Nat.le_refl _) (by unfold maxLen; omega) rfl (fun h => Nat.lt_irrefl _ h))
    have hsrc := Lib.hid (show SlAt encU64 (w.alloc (.cells #[] 77)) (Bl w.heap.size) (some ad) l from h1.below (ext_alloc (Below.refl _ _)))
    clear h1
    have hE := fun W => Lib.run_eql_slice_nil (P := Try.prog) W 72 77 (some ad) n c 0 0 Try.underlying72
    go_enter Try.func70, Try.ntmps70
    go_wp2_with (at_builtin; refine Hid.out ?_)
    change wpList _ _ _ _ _ _
    refine wpList_appAll (E := encU64) tyU64q rfl _ _ rfl rfl hO.out rfl hn.symm hsrc.out (fun g hg => by simp; have : g < w.heap.size := hg; omega) (by simp) (by unfold maxLen; simp; omega) (by simp; omega) ?_
    intro A5 c5 w5 hown5 hg5 hat5
    simp only [List.length_nil, Nat.zero_add, List.nil_append] at hown5
    have hB5 : Below w.heap.size w w5 := (ext_alloc (o := .cells #[] 77) (Below.refl w.heap.size w)).grown hg5 (by simp) (fun g hg => (hO.out.lt g hg).1)
    have hfin : Hid (n ≤ c5 ∧ c5 ≤ maxLen ∧ SlAt encU64 w5 (Nw w.heap.size w5.heap.size) A5 l) := by
      obtain ⟨A', c', he, k1, k2, k3⟩ := (Own.flat hown5 (fun h => h)).rd (fun _ h => h.elim)
      simp only [List.cons.injEq, Value.slice.injEq, and_true] at he
      obtain ⟨rfl, e2, rfl⟩ := he
      exact ⟨by omega, k2, k3⟩
    clear hown5 hg5 hat5
    go_wp2
    go_ret
    exact ⟨A5, c5, rfl, hfin.out.1, hfin.out.2.1, hfin.out.2.2, hB5⟩
theorem blk3_setA {w : World} {b : Nat} {T : TypeId} {c0 c1 c2 : Value} (h : w.heap[b]? = some (.cells #[c0, c1, c2] T (0, 0))) (u0 u1 u2 : Value) : (((w.setCell ⟨b, 0, none⟩ u0).setCell ⟨b, 1, none⟩ u1).setCell ⟨b, 2, none⟩ u2).heap[b]? = some (.cells #[u0, u1, u2] T (0, 0)) := by
  simp [World.setCell, Array.getElem?_modify, h]
set_option maxHeartbeats 4000000 in
set_option maxRecDepth 100000 in
theorem copied44_any (s lf : Int) (A : Option Addr) (c n : Nat) (l : List (List Int)) (w : World) (hn : l.length = n) (h1 : SlAt (encSl encU64) w (Bl w.heap.size) A l) (hl : n ≤ 100000) (hr : ∀ row ∈ l, row.length ≤ 1000000) :
    Calls Try.prog 37 #[.agg #[.int .i64 s, .int .i64 lf, .slice A n c]] w fun e w' => ∃ B d, e = .returned (.agg #[.int .i64 s, .int .i64 lf, .slice B n d]) ∧ n ≤ d ∧ d ≤ maxLen ∧ SlAt (encSl encU64) w' (Nw w.heap.size w'.heap.size) B l ∧ Below w.heap.size w w' := by
  subst hn
  have HR := Lib.hid hr; clear hr
  obtain ⟨n0, hn0⟩ : ∃ n0, w.heap.size = n0 := ⟨_, rfl⟩
  obtain ⟨W0, hW0⟩ : ∃ W0, (w.alloc (.cells #[.int .i64 s, .int .i64 lf, .slice A l.length c] 24)).alloc (.cells #[.int .i64 0, .int .i64 0, .slice none 0 0] 24) = W0 := ⟨_, rfl⟩
  have hB0 : Below n0 w W0 := by rw [← hW0, ← hn0]; exact ext_alloc (ext_alloc (Below.refl _ _))
  have hs0 : W0.heap.size = n0 + 2 := by rw [← hW0, ← hn0]; simp
  have hr0 : W0.heap[n0]? = some (.cells #[.int .i64 s, .int .i64 lf, .slice A l.length c] 24 (0, 0)) := by
    rw [← hW0, ← hn0]; exact (Below.heap_alloc _ _ _ (by simp)).trans (heap_alloc_new _ _)
  have hr1 : W0.heap[n0 + 1]? = some (.cells #[.int .i64 0, .int .i64 0, .slice none 0 0] 24 (0, 0)) := by
    rw [← hW0, ← hn0]
    have h := heap_alloc_new (w.alloc (.cells #[.int .i64 s, .int .i64 lf, .slice A l.length c] 24)) (.cells #[.int .i64 0, .int .i64 0, .slice none 0 0] 24)
    simp only [World.size_alloc] at h
    exact h
  obtain ⟨n2, hn2⟩ : ∃ n2, W0.heap.size = n2 := ⟨_, rfl⟩
  have hn02 : n0 + 2 ≤ n2 := by omega
  have hW0z : n2 ≤ W0.heap.size := by omega
  have H1 : Hid (∀ w', Below n2 W0 w' → SlAt (encSl encU64) w' (Bl n0) A l) := fun w' hb => by
    have h := h1
    rw [hn0] at h
    exact h.blk (fun g hg => ((hB0.trans (hb.mono (by omega))).block g hg))
  obtain ⟨cur, hcs, hmk⟩ := makeOf tyLvls l.length (by omega) (by omega) W0
  have HCS := Lib.hid hcs; clear hcs
  have hO1 := Lib.hid (show OwnW (encSl encU64) (W0.alloc (.cells cur 72)) W0.heap.size W0.heap.size 72 (.slice (some ⟨W0.heap.size, 0, none⟩) 0 l.length) [] from Own.make0 (cur := cur) (Nat.le_refl _) (by unfold maxLen; omega) HCS.out (fun h => h.2 rfl))
  have hBm := Lib.hid (ext_alloc (o := .cells cur 72) (Below.refl W0.heap.size W0))
  rw [hn2] at hO1 hmk hBm
  have HRW : Hid (∀ W, Below n2 W0 W → W.heap[n0]? = some (.cells #[.int .i64 s, .int .i64 lf, .slice A l.length c] 24 (0, 0)) ∧ W.heap[n0 + 1]? = some (.cells #[.int .i64 0, .int .i64 0, .slice none 0 0] 24 (0, 0))) := fun W hb => ⟨(hb.block n0 (by omega)).trans hr0, (hb.block (n0 + 1) (by omega)).trans hr1⟩
  obtain ⟨p0, p1, p2, _⟩ := blk3 hr0
  have HS0 := Lib.hid hs0
  have HN2 := Lib.hid hn2
  clear hr0 hr1 h1 hs0 hn2
  have hwz : n0 ≤ w.heap.size := by omega
  obtain ⟨W1, hW1⟩ : ∃ W1, W0.alloc (.cells cur 72) = W1 := ⟨_, rfl⟩
  rw [hW1] at hO1 hBm hmk
  obtain ⟨m0, m1, m2, _⟩ := blk3 (HRW.out W1 hBm.out).1
  clear hW1
  go_enter Try.func37, Try.ntmps37
  go_wp2_with fail
  clear p0 p1 p2 m0 m1 m2 hmk
  go_loopw [3, 13] (fun v i wr => ∃ (k : Nat) (B : Option Addr) (vc : Nat) (out : List (List Int)), k ≤ l.length ∧ i = .int .i64 k ∧ v = .slice B out.length vc ∧ Below n2 W0 wr ∧ Hid (out = l.take k) ∧ Hid (OwnW (encSl encU64) wr n2 n2 72 (.slice B out.length vc) out)) (fun _ i _ => l.length - (intOf i).toNat)
  case atStart => exact ⟨0, some ⟨n2, 0, none⟩, l.length, [], by omega, rfl, rfl, hBm.out, by simp [Hid], hO1.out⟩
  case round =>
    obtain ⟨wo, rfl⟩ : ∃ wo : World, wo = wr := ⟨_, rfl⟩
    obtain ⟨k, B, vc, out, hk, rfl, rfl, hB, hout, hown⟩ := hrel
    have hszr := hB.size
    by_cases hlt : k < l.length
    · obtain ⟨b, off, D, dc, rfl, hb, g0, hD, hd1, hd2⟩ := (H1.out wo hB).sl hlt
      have hrl := HR.out l[k] (List.getElem_mem hlt)
      have hst : Hid (l.take (k + 1) = l.take k ++ [l[k]]) := List.take_succ_eq_append_getElem hlt
      obtain ⟨row, hrow⟩ : ∃ x, l[k] = x := ⟨_, rfl⟩
      rw [hrow] at g0 hD hd1 hrl hst
      have hki : (k : Int) < l.length := by omega
      have hnn : (0 : Int) ≤ k := by omega
      have hol : out.length ≤ k := by rw [hout.out]; simp; omega
      clear hrow
      have HCL := Lib.hid (cloneU64_any D dc row.length row wo rfl (hD.more (fun g hg => by have : g < n0 := hg; show g < wo.heap.size; omega)) hrl)
      clear hD
      go_wp2_with fail
      refine HCL.out.mono ?_
      rintro e w1 ⟨A4, c4, rfl, k1, k2, k3, hb1⟩
      have hsz1 := hb1.size
      have hB1 : Below n2 W0 w1 := hB.trans (hb1.mono (by omega))
      have HO1 := Lib.hid (hown.out.below hb1)
      have HLT1 : Hid (∀ g, (Value.slice B out.length vc).ownBlock = some g → g < wo.heap.size) := fun g hg => (hown.out.lt g hg).2
      have HO2 := Lib.hid (Own.alloc HO1.out (fun _ h => h.1.2) (.cells #[.slice A4 row.length c4] 72))
      have HRD : Hid ((encSl encU64).rd (w1.alloc (.cells #[.slice A4 row.length c4] 72)) (fun b => Nw n2 w1.heap.size b ∧ (Value.slice B out.length vc).ownBlock ≠ some b) [.slice A4 row.length c4] row) :=
        ⟨A4, c4, rfl, k1, k2, (k3.blk (fun g hg => Below.heap_alloc _ _ _ hg.2)).more (fun g hg => ⟨⟨by have := hg.1; omega, hg.2⟩, fun h => by have := HLT1.out g h; have := hg.1; omega⟩)⟩
      clear k3
      go_wp2_with (at_builtin; refine Hid.out ?_)
      change wpList _ _ _ _ _ _
      refine wpList_app1 (E := (encSl encU64)) tyLvls rfl _ _ rfl rfl HO2.out row [.slice A4 row.length c4] rfl HRD.out (heap_alloc_new _ _) (fun _ h => by simp; have := h.1.2; omega) (by simp; omega) (by unfold maxLen; omega) (by omega) ?_
      intro A' c' w5 hown5 hg5 hat5
      have hok5 := Lib.hid (OwnW.app (hown5.more (S' := fun b => Nw n2 (w1.alloc (.cells #[.slice A4 row.length c4] 72)).heap.size b ∧ (Value.slice B out.length vc).ownBlock ≠ some b) (fun b hb => ⟨hb.1.mono (Nat.le_refl _) (by simp), hb.2⟩) (OwnW_new hown5 hat5 HLT1.out (by simp; omega))) hg5 hat5)
      have hB5 := Lib.hid ((hB1.alloc (by omega) (.cells #[.slice A4 row.length c4] 72)).grown hg5 (by simp; omega) (fun g h => (hown.out.lt g h).1))
      clear hown5 hg5 hat5
      go_wp2
      go_roundw
      case rel =>
        refine ⟨k + 1, A', c', out ++ [row], hlt, by go_num, by simp, hB5.out, ?_, ?_⟩
        · rw [hst.out, ← hout.out]; exact rfl
        · have := hok5.out; simpa [Hid] using this
      case measure => simp [intOf]; omega
    · have hkk : k = l.length := by omega
      subst hkk
      have hE : Hid (out = l) := by rw [Hid, hout.out, List.take_length]
      have hlE : out.length = l.length := by rw [hE.out]
      obtain ⟨_, o1, o2, o3⟩ := hown.out.parts
      have HO := Lib.hid (And.intro o1 (And.intro o2 o3))
      have HLE := Lib.hid hlE
      clear o1 o2 o3 hlE
      obtain ⟨q0, q1⟩ := HRW.out wo hB
      obtain ⟨p0, p1, p2, pf⟩ := blk3 q0
      obtain ⟨z0, z1, z2, zf⟩ := blk3 q1
      have hq0 := Lib.hid q0
      have hq1 := Lib.hid q1
      clear q0 q1
      obtain ⟨W5, hW5⟩ : ∃ W5, wo.setCell ⟨n0, 2, none⟩ (.slice B out.length vc) = W5 := ⟨_, rfl⟩
      have hq5 : W5.heap[n0]? = some (.cells #[.int .i64 s, .int .i64 lf, .slice B out.length vc] 24 (0, 0)) := by
        rw [← hW5]; simp [World.setCell, Array.getElem?_modify, hq0.out]
      have hz5 : W5.heap[n0 + 1]? = some (.cells #[.int .i64 0, .int .i64 0, .slice none 0 0] 24 (0, 0)) := by
        rw [← hW5]; exact (heap_setCell_other _ ⟨n0, 2, none⟩ (n0 + 1) _ (by show n0 + 1 ≠ n0; omega)).trans hq1.out
      have hB5 : Below n0 w W5 := by rw [← hW5]; exact (hB0.trans (hB.mono (by omega))).setCell (p := ⟨n0, 2, none⟩) (Nat.le_refl _) _
      have ho5 : ∀ g, n2 ≤ g → W5.heap[g]? = wo.heap[g]? := fun g hg => by rw [← hW5]; exact heap_setCell_other _ ⟨n0, 2, none⟩ g _ (by show g ≠ n0; omega)
      have hs5 : W5.heap.size = wo.heap.size := by rw [← hW5]; simp [World.setCell]
      have HS5 := Lib.hid hs5
      clear hs5
      obtain ⟨p0, p1, p2, pf⟩ := blk3 hq5
      obtain ⟨z0, z1, z2, zf⟩ := blk3 hz5
      go_wp2_with fail
      have hz := blk3_setA hz5 (.int .i64 s) (.int .i64 lf) (.slice B out.length vc)
      have hbe := (((hB5.setCell (p := ⟨n0 + 1, 0, none⟩) (Nat.le_succ _) (.int .i64 s)).setCell (p := ⟨n0 + 1, 1, none⟩) (Nat.le_succ _) (.int .i64 lf)).setCell (p := ⟨n0 + 1, 2, none⟩) (Nat.le_succ _) (.slice B out.length vc))
      have hoth : ∀ g, n2 ≤ g → (((W5.setCell ⟨n0 + 1, 0, none⟩ (.int .i64 s)).setCell ⟨n0 + 1, 1, none⟩ (.int .i64 lf)).setCell ⟨n0 + 1, 2, none⟩ (.slice B out.length vc)).heap[g]? = wo.heap[g]? := fun g hg => by
        have hne : g ≠ n0 + 1 := by omega
        exact (heap_setCell_other _ ⟨n0 + 1, 2, none⟩ g _ hne).trans ((heap_setCell_other _ ⟨n0 + 1, 1, none⟩ g _ hne).trans ((heap_setCell_other _ ⟨n0 + 1, 0, none⟩ g _ hne).trans (ho5 g hg)))
      have hsz : (((W5.setCell ⟨n0 + 1, 0, none⟩ (.int .i64 s)).setCell ⟨n0 + 1, 1, none⟩ (.int .i64 lf)).setCell ⟨n0 + 1, 2, none⟩ (.slice B out.length vc)).heap.size = wo.heap.size := by
        rw [← HS5.out]; simp [World.setCell]
      generalize (((W5.setCell ⟨n0 + 1, 0, none⟩ (.int .i64 s)).setCell ⟨n0 + 1, 1, none⟩ (.int .i64 lf)).setCell ⟨n0 + 1, 2, none⟩ (.slice B out.length vc)) = W3 at hz hbe hoth hsz ⊢
      obtain ⟨z0, z1, z2, _⟩ := blk3 hz
      refine bodyPost_ret (v := .agg #[.int .i64 s, .int .i64 lf, .slice B out.length vc]) ?_ rfl ?_
      · simp [results, Try.results37, Try.f37, go_sem, z0, z1, z2]
      obtain ⟨o1, o2, o3⟩ := HO.out
      rw [← HLE.out]
      refine ⟨B, vc, rfl, o1, o2, ?_, hbe⟩
      rw [← hE.out]
      exact (o3.blk (fun g hg => hoth g hg.1)).more (fun g hg => ⟨by have := hg.1; omega, by have := hg.2; omega⟩)
end Go.Proofs.Ytjehedfdikdfpaa
namespace Go.Proofs.Ytjehedfdikdfpaa
open Go.RowKit Go.Shelf
attribute [local go_sem] Oper.semAt_some

set_option maxHeartbeats 4000000 in
set_option maxRecDepth 100000 in
theorem begin_any (s lf : Int) (A : Option Addr) (c n : Nat) (l : List (List Int)) (w : World) (hn : l.length = n) (h1 : SlAt (encSl encU64) w (Bl w.heap.size) A l) (hs : n ≤ 100000) (hc : n ≤ c ∧ c ≤ maxLen) (hI : I64 s ∧ I64 lf) (hlv : ∀ row ∈ l, row.length ≤ 1000000) :
    Calls Try.prog 14 #[.agg #[.int .i64 s, .int .i64 lf, .slice A n c]] w (RetW (begW (s, lf, l)) (begM (s, lf, l)) (checkT (s, lf, l)) w) := by
  subst hn
  obtain ⟨n0, hn0⟩ : ∃ n0, w.heap.size = n0 := ⟨_, rfl⟩
  obtain ⟨W0, hW0⟩ : ∃ W0, (w.alloc (.cells #[.int .i64 s, .int .i64 lf, .slice A l.length c] 24)).alloc (.cells #[.int .i64 0, .int .i64 0, .slice none 0 0, .slice none 0 0, .int .i64 0, .slice none 0 0, .int .i64 0, .bool false] 27) = W0 := ⟨_, rfl⟩
  have hB0 : Below n0 w W0 := by rw [← hW0, ← hn0]; exact ext_alloc (ext_alloc (Below.refl _ _))
  have hs0 : W0.heap.size = n0 + 2 := by rw [← hW0, ← hn0]; simp
  have hr0 : W0.heap[n0]? = some (.cells #[.int .i64 s, .int .i64 lf, .slice A l.length c] 24 (0, 0)) := by
    rw [← hW0, ← hn0]; exact (Below.heap_alloc _ _ _ (by simp)).trans (heap_alloc_new _ _)
  have hr1 : W0.heap[n0 + 1]? = some (.cells #[.int .i64 0, .int .i64 0, .slice none 0 0, .slice none 0 0, .int .i64 0, .slice none 0 0, .int .i64 0, .bool false] 27 (0, 0)) := by
    rw [← hW0, ← hn0]; exact heap_new2 _ _ _
  obtain ⟨n2, hn2⟩ : ∃ n2, W0.heap.size = n2 := ⟨_, rfl⟩
  have hn02 : n0 + 2 ≤ n2 := by omega
  have HT : Hid (∀ W, Below n2 W0 W → W.cell? ⟨n0, 0, none⟩ = some (.int .i64 s) ∧ W.cell? ⟨n0, 1, none⟩ = some (.int .i64 lf) ∧ W.cell? ⟨n0, 2, none⟩ = some (.slice A l.length c)) := fun W hb => by
    obtain ⟨a0, a1, a2, _⟩ := blk3 ((hb.block n0 (by omega)).trans hr0)
    exact ⟨a0, a1, a2⟩
  have HR : Hid (∀ W, Below n2 W0 W → W.heap[n0 + 1]? = some (.cells #[.int .i64 0, .int .i64 0, .slice none 0 0, .slice none 0 0, .int .i64 0, .slice none 0 0, .int .i64 0, .bool false] 27 (0, 0))) := fun W hb => (hb.block _ (by omega)).trans hr1
  have H1 : Hid (∀ W, Below n2 W0 W → SlAt (encSl encU64) W (Bl W.heap.size) A l) := fun W hb => by
    have h := h1
    rw [hn0] at h
    exact (h.blk (fun g hg => (hb.block g (by have : g < n0 := hg; omega)).trans (hB0.block g hg))).more (fun g hg => by have : g < n0 := hg; have := hb.size; show g < W.heap.size; omega)
  obtain ⟨r, hr⟩ : ∃ r, checkT (s, lf, l) = r := ⟨_, rfl⟩
  have HCH := Lib.hid (fun W (hb : Below n2 W0 W) => check_any s lf A c l.length l r W rfl hr (H1.out W hb) hs hc hI)
  have HCP := Lib.hid (fun W (hb : Below n2 W0 W) => copied44_any s lf A c l.length l W rfl (H1.out W hb) hs hlv)
  have HBW : Hid (r = 0 → begW (s, lf, l) = ((s, lf, l), [(0, 1)], (l.length : Int) - 1, [], 0, false)) := fun h => by unfold begW; rw [if_pos (hr.trans h)]
  have HBE : Hid (r ≠ 0 → begW (s, lf, l) = zWk ∧ begM (s, lf, l) = []) := fun h => by unfold begW begM; rw [if_neg (by rw [hr]; exact h), if_neg (by rw [hr]; exact h)]; exact ⟨rfl, rfl⟩
  have HBM : Hid (r = 0 → begM (s, lf, l) = [reqMsg (begW (s, lf, l))]) := fun h => by unfold begM; rw [if_pos (hr.trans h)]
  obtain ⟨x, hx⟩ : ∃ x, begW (s, lf, l) = x := ⟨_, rfl⟩
  obtain ⟨ms, hms⟩ : ∃ ms, begM (s, lf, l) = ms := ⟨_, rfl⟩
  rw [hx, hms] at HBE HBM
  rw [hx] at HBW
  rw [hx, hms, hr]
  have HB0 := Lib.hid hB0
  have HN0 := Lib.hid hn0
  have HN2 := Lib.hid hn2
  obtain ⟨p0, p1, p2⟩ := HT.out W0 (Below.refl _ _)
  clear h1 hr0 hr1 hr hx hms hs0
  go_enter Try.func14, Try.ntmps14
  go_wp2_with fail
  refine (HCH.out W0 (Below.refl _ _)).mono ?_
  rintro e w1 ⟨rfl, hb1⟩
  rw [hn2] at hb1
  clear p0 p1 p2
  by_cases hr0 : r = 0
  · subst hr0
    have hl0 : (0 : Int) ≤ l.length := by omega
    have hl1 : (l.length : Int) ≤ 100000 := by omega
    have hSw : Below n2 W0 w1.drew := hb1.drew
    have HX := Lib.hid (HBW.out rfl)
    have HM := Lib.hid (HBM.out rfl)
    go_upto_region 4 with (fail)
    go_cut [6] (fun e wx => ∃ bx A' c' P, e = .pointer (some ⟨bx, 0, none⟩) ∧ n2 ≤ bx ∧ WkRow wx bx s lf A' l.length c' P 1 1 ((l.length : Int) - 1) none 0 0 0 false ∧ l.length ≤ c' ∧ c' ≤ maxLen ∧ SlAt (encSl encU64) wx (Nw n2 bx) A' l ∧ SlAt encExt wx (Nw n2 bx) P [(0, 1)] ∧ Below n2 W0 wx)
    case first =>
      refine wp_region_U (fun W' => Below n2 W0 W') 12 (by kernel_rfl) ?_
      refine wpAnyU_takeD (i := 0) (v := ?_) rfl rfl (by kernel_rfl) (by kernel_rfl) (by kernel_rfl) (by kernel_rfl) (fun _ _ _ h => h) (by rfl) ?_ hSw ?_
      rotate_left 1
      · intro W9 hW9
        try dsimp only at hW9
        obtain ⟨p0, p1, p2⟩ := HT.out W9 hW9
        go_simp
        try with_reducible rfl
      try simp only [List.setIfInBounds_toArray, List.set_cons_zero, List.set_cons_succ]
      refine wpAnyU_takeD (i := 2) (v := ?_) rfl rfl (by kernel_rfl) (by kernel_rfl) (by kernel_rfl) (by kernel_rfl) (fun _ _ _ h => h) (by rfl) ?_ hSw ?_
      rotate_left 1
      · intro W9 hW9
        try dsimp only at hW9
        obtain ⟨p0, p1, p2⟩ := HT.out W9 hW9
        go_simp
        try with_reducible rfl
      try simp only [List.setIfInBounds_toArray, List.set_cons_zero, List.set_cons_succ]
      refine wpAnyU_takeD (i := 3) (v := ?_) rfl rfl (by kernel_rfl) (by kernel_rfl) (by kernel_rfl) (by kernel_rfl) (fun _ _ _ h => h) (by rfl) ?_ hSw ?_
      rotate_left 1
      · intro W9 hW9
        try dsimp only at hW9
        obtain ⟨p0, p1, p2⟩ := HT.out W9 hW9
        go_simp
        try with_reducible rfl
      try simp only [List.setIfInBounds_toArray, List.set_cons_zero, List.set_cons_succ]
      refine wpAnyU_takeD (i := 4) (v := ?_) rfl rfl (by kernel_rfl) (by kernel_rfl) (by kernel_rfl) (by kernel_rfl) (fun _ _ _ h => h) (by rfl) ?_ hSw ?_
      rotate_left 1
      · intro W9 hW9
        try dsimp only at hW9
        obtain ⟨p0, p1, p2⟩ := HT.out W9 hW9
        go_simp
        try with_reducible rfl
      try simp only [List.setIfInBounds_toArray, List.set_cons_zero, List.set_cons_succ]
      refine wpAnyU_takeD (i := 5) (v := ?_) rfl rfl (by kernel_rfl) (by kernel_rfl) (by kernel_rfl) (by kernel_rfl) (fun _ _ _ h => h) (by rfl) ?_ hSw ?_
      rotate_left 1
      · intro W9 hW9
        try dsimp only at hW9
        obtain ⟨p0, p1, p2⟩ := HT.out W9 hW9
        go_simp
        try with_reducible rfl
      try simp only [List.setIfInBounds_toArray, List.set_cons_zero, List.set_cons_succ]
      rw [IntWalk.i64_in ((l.length : Int) - 1) (by omega)]
      refine wpAnyU_takeD (i := 6) (v := ?_) rfl rfl (by kernel_rfl) (by kernel_rfl) (by kernel_rfl) (by kernel_rfl) (fun _ _ _ h => h) (by rfl) ?_ hSw ?_
      rotate_left 1
      · intro W9 hW9
        try dsimp only at hW9
        obtain ⟨p0, p1, p2⟩ := HT.out W9 hW9
        go_simp
        try with_reducible rfl
      try simp only [List.setIfInBounds_toArray, List.set_cons_zero, List.set_cons_succ]
      refine wpAnyU_two (i := 1) (j := 7) (by kernel_rfl) rfl rfl rfl rfl (fun K hK => ?_) (fun K hK => ?_)
      · go_wp2_with fail
        refine (HCP.out _ hSw).mono ?_
        rintro e w2 ⟨A', c', rfl, d1, d2, hA, hb2⟩
        have hS2 : Below n2 W0 w2 := hSw.trans (hb2.mono (by have := hSw.size; omega))
        refine hK.out _ _ (fun _ => hS2) ?_
        clear hK K
        try simp only [List.setIfInBounds_toArray, List.set_cons_zero, List.set_cons_succ]
        refine wpAnyU_op (i := 7) (by kernel_rfl) rfl rfl (fun K hK => ?_)
        go_simp
        refine hK.out _ _ (fun _ => hS2.alloc (by have := hS2.size; omega) _) ?_
        clear hK K
        try simp only [Act.put, List.setIfInBounds_toArray, List.set_cons_zero, List.set_cons_succ]
        have hSB : Hid (Below n2 W0 (w2.alloc (.cells #[.int .i64 0, .int .i64 1] 67))) := hS2.alloc (by have := hS2.size; omega) _
        have hAB : Hid (SlAt (encSl encU64) (w2.alloc (.cells #[.int .i64 0, .int .i64 1] 67)) (Nw n2 (w2.alloc (.cells #[.int .i64 0, .int .i64 1] 67)).heap.size) A' l) := (hA.blk (fun g hg => Below.heap_alloc _ _ _ hg.2)).more (fun g hg => ⟨by have := hg.1; have := hSw.size; omega, by have := hg.2; simp; omega⟩)
        have hPB : Hid (SlAt encExt (w2.alloc (.cells #[.int .i64 0, .int .i64 1] 67)) (Nw n2 (w2.alloc (.cells #[.int .i64 0, .int .i64 1] 67)).heap.size) (some ⟨w2.heap.size, 0, none⟩) [(0, 1)]) :=
          litS44 (E := encExt) (S0 := fun _ => False) (css := [[.int .i64 0, .int .i64 1]]) (heap_alloc_new _ _) rfl ⟨ext_mk (x := ((0 : Int), (1 : Int))) (by unfold I64; decide) (by unfold I64; decide), trivial⟩ (fun _ h => h.elim) ⟨by have := hS2.size; omega, by simp⟩ (fun h => h)
        clear hA hb2
        generalize (w2.alloc (.cells #[.int .i64 0, .int .i64 1] 67)) = WB at hSB hAB hPB ⊢
        refine wpAnyU_op (i := 8) (by kernel_rfl) rfl rfl (fun K hK => ?_)
        go_simp
        refine hK.out _ _ (fun _ => hSB.out) ?_
        clear hK K
        try simp only [Act.put, List.setIfInBounds_toArray, List.set_cons_zero, List.set_cons_succ]
        refine wpAnyU_op (i := 9) (by kernel_rfl) rfl rfl (fun K hK => ?_)
        go_simp
        refine hK.out _ _ (fun _ => hSB.out) ?_
        clear hK K
        try simp only [Act.put, List.setIfInBounds_toArray, List.set_cons_zero, List.set_cons_succ]
        refine wpAnyU_op (i := 10) (by kernel_rfl) rfl rfl (fun K hK => ?_)
        go_simp
        refine hK.out _ _ (fun _ => hSB.out.alloc (by have := hSB.out.size; omega) _) ?_
        clear hK K
        try simp only [Act.put, List.setIfInBounds_toArray, List.set_cons_zero, List.set_cons_succ]
        refine wpAnyU_op (i := 11) (by kernel_rfl) rfl rfl (fun K hK => ?_)
        go_simp
        refine hK.out _ _ (fun _ => hSB.out.alloc (by have := hSB.out.size; omega) _) ?_
        clear hK K
        try simp only [Act.put, List.setIfInBounds_toArray, List.set_cons_zero, List.set_cons_succ]
        refine wpAnyU_done (by kernel_rfl) ?_ _
        have hwk : Hid (WkRow (WB.alloc (.cells #[.int .i64 s, .int .i64 lf, .slice A' l.length c', .slice (some ⟨w2.heap.size, 0, none⟩) 1 1, .int .i64 ((l.length : Int) - 1), .slice none 0 0, .int .i64 0, .bool false] 88)) WB.heap.size s lf A' l.length c' (some ⟨w2.heap.size, 0, none⟩) 1 1 ((l.length : Int) - 1) none 0 0 0 false) := heap_alloc_new _ _
        go_wp2
        go_meet
        exact ⟨WB.heap.size, A', c', some ⟨w2.heap.size, 0, none⟩, rfl, by have := hSB.out.size; omega, hwk.out, d1, d2, hAB.out.blk (fun g hg => Below.heap_alloc _ _ _ hg.2), hPB.out.blk (fun g hg => Below.heap_alloc _ _ _ hg.2), hSB.out.alloc (by have := hSB.out.size; omega) _⟩
      · have hSB : Below n2 W0 (w1.drew.alloc (.cells #[.int .i64 0, .int .i64 1] 67)) := hSw.alloc (by have := hSw.size; omega) _
        have hPB0 : Hid (SlAt encExt (w1.drew.alloc (.cells #[.int .i64 0, .int .i64 1] 67)) (Nw n2 (w1.drew.alloc (.cells #[.int .i64 0, .int .i64 1] 67)).heap.size) (some ⟨w1.drew.heap.size, 0, none⟩) [(0, 1)]) :=
          litS44 (E := encExt) (S0 := fun _ => False) (css := [[.int .i64 0, .int .i64 1]]) (heap_alloc_new _ _) rfl ⟨ext_mk (x := ((0 : Int), (1 : Int))) (by unfold I64; decide) (by unfold I64; decide), trivial⟩ (fun _ h => h.elim) ⟨by have := hSw.size; omega, by simp⟩ (fun h => h)
        go_simp
        refine hK.out _ _ (fun _ => hSB) ?_
        clear hK K
        try simp only [List.setIfInBounds_toArray, List.set_cons_zero, List.set_cons_succ]
        have HSB := Lib.hid hSB
        change wpAnyU _ _ _ _ _ _ _ _ _ (w1.drew.alloc (.cells #[.int .i64 0, .int .i64 1] 67))
        obtain ⟨nb, hnb⟩ : ∃ nb, w1.drew.heap.size = nb := ⟨_, rfl⟩
        obtain ⟨Wd, hWd⟩ : ∃ Wd, w1.drew.alloc (.cells #[.int .i64 0, .int .i64 1] 67) = Wd := ⟨_, rfl⟩
        have hnb' : w1.heap.size = nb := hnb
        rw [hnb] at hPB0
        rw [hWd] at hPB0 HSB hSB ⊢
        rw [hnb']
        clear hWd
        refine wpAnyU_op (i := 1) (by kernel_rfl) rfl rfl (fun K hK => ?_)
        go_wp2_with fail
        refine (HCP.out _ HSB.out).mono ?_
        rintro e w2 ⟨A', c', rfl, d1, d2, hA, hb2⟩
        have hS2 : Below n2 W0 w2 := hSB.trans (hb2.mono (by have := hSB.size; omega))
        refine hK.out _ _ (fun _ => hS2) ?_
        clear hK K
        try simp only [List.setIfInBounds_toArray, List.set_cons_zero, List.set_cons_succ]
        have hSB := Lib.hid hS2
        have hAB : Hid (SlAt (encSl encU64) w2 (Nw n2 w2.heap.size) A' l) := hA.more (fun g hg => ⟨by have := hg.1; have := HSB.out.size; omega, hg.2⟩)
        have hPB : Hid (SlAt encExt w2 (Nw n2 w2.heap.size) (some ⟨nb, 0, none⟩) [(0, 1)]) := (hPB0.out.blk (fun g hg => hb2.block g hg.2)).more (fun g hg => ⟨hg.1, Nat.lt_of_lt_of_le hg.2 hb2.size⟩)
        clear hA hb2 hS2
        generalize w2 = WB at hSB hAB hPB ⊢
        refine wpAnyU_op (i := 8) (by kernel_rfl) rfl rfl (fun K hK => ?_)
        go_simp
        refine hK.out _ _ (fun _ => hSB.out) ?_
        clear hK K
        try simp only [Act.put, List.setIfInBounds_toArray, List.set_cons_zero, List.set_cons_succ]
        refine wpAnyU_op (i := 9) (by kernel_rfl) rfl rfl (fun K hK => ?_)
        go_simp
        refine hK.out _ _ (fun _ => hSB.out) ?_
        clear hK K
        try simp only [Act.put, List.setIfInBounds_toArray, List.set_cons_zero, List.set_cons_succ]
        refine wpAnyU_op (i := 10) (by kernel_rfl) rfl rfl (fun K hK => ?_)
        go_simp
        refine hK.out _ _ (fun _ => hSB.out.alloc (by have := hSB.out.size; omega) _) ?_
        clear hK K
        try simp only [Act.put, List.setIfInBounds_toArray, List.set_cons_zero, List.set_cons_succ]
        refine wpAnyU_op (i := 11) (by kernel_rfl) rfl rfl (fun K hK => ?_)
        go_simp
        refine hK.out _ _ (fun _ => hSB.out.alloc (by have := hSB.out.size; omega) _) ?_
        clear hK K
        try simp only [Act.put, List.setIfInBounds_toArray, List.set_cons_zero, List.set_cons_succ]
        refine wpAnyU_done (by kernel_rfl) ?_ _
        have hwk : Hid (WkRow (WB.alloc (.cells #[.int .i64 s, .int .i64 lf, .slice A' l.length c', .slice (some ⟨nb, 0, none⟩) 1 1, .int .i64 ((l.length : Int) - 1), .slice none 0 0, .int .i64 0, .bool false] 88)) WB.heap.size s lf A' l.length c' (some ⟨nb, 0, none⟩) 1 1 ((l.length : Int) - 1) none 0 0 0 false) := heap_alloc_new _ _
        go_wp2
        go_meet
        exact ⟨WB.heap.size, A', c', some ⟨nb, 0, none⟩, rfl, by have := hSB.out.size; omega, hwk.out, d1, d2, hAB.out.blk (fun g hg => Below.heap_alloc _ _ _ hg.2), hPB.out.blk (fun g hg => Below.heap_alloc _ _ _ hg.2), hSB.out.alloc (by have := hSB.out.size; omega) _⟩
    case rest =>
      obtain ⟨bx, A', c', P, rfl, hbx, hrow, d1, d2, hA, hP, hS2⟩ := hcut
      have hbw : bx < wc.heap.size := hrow.lt
      have HRW := Lib.hid (fun W (hb : BelX (n0 + 1) wc W) => hrow.of_blk (hb bx hbw (by omega)))
      have hPW := Lib.hid (hP.blk (w' := wc.drew) (fun g hg => rfl))
      have hSw : BelX (n0 + 1) wc wc.drew := fun _ _ _ => rfl
      have HA := Lib.hid hA
      have HP := Lib.hid hP
      clear hrow hP hA
      go_upto_region 5 with (fail)
      refine wp_region_U (fun W' => BelX (n0 + 1) wc W') 10 (by kernel_rfl) ?_
      refine wpAnyU_takeD (i := 0) (v := ?_) rfl rfl (by kernel_rfl) (by kernel_rfl) (by kernel_rfl) (by kernel_rfl) (fun _ _ _ h => h) (by rfl) ?_ hSw ?_
      rotate_left 1
      · intro W9 hW9
        try dsimp only at hW9
        obtain ⟨⟨k0, k1, k2⟩, k3, k4, k5, k6, k7⟩ := (HRW.out W9 hW9).cells
        go_simp
        try with_reducible rfl
      try simp only [List.setIfInBounds_toArray, List.set_cons_zero, List.set_cons_succ]
      refine wpAnyU_takeD (i := 1) (v := ?_) rfl rfl (by kernel_rfl) (by kernel_rfl) (by kernel_rfl) (by kernel_rfl) (fun _ _ _ h => h) (by rfl) ?_ hSw ?_
      rotate_left 1
      · intro W9 hW9
        try dsimp only at hW9
        obtain ⟨⟨k0, k1, k2⟩, k3, k4, k5, k6, k7⟩ := (HRW.out W9 hW9).cells
        go_simp
        try with_reducible rfl
      try simp only [List.setIfInBounds_toArray, List.set_cons_zero, List.set_cons_succ]
      refine wpAnyU_takeD (i := 2) (v := ?_) rfl rfl (by kernel_rfl) (by kernel_rfl) (by kernel_rfl) (by kernel_rfl) (fun _ _ _ h => h) (by rfl) ?_ hSw ?_
      rotate_left 1
      · intro W9 hW9
        try dsimp only at hW9
        obtain ⟨⟨k0, k1, k2⟩, k3, k4, k5, k6, k7⟩ := (HRW.out W9 hW9).cells
        go_simp
        try with_reducible rfl
      try simp only [List.setIfInBounds_toArray, List.set_cons_zero, List.set_cons_succ]
      refine wpAnyU_takeD (i := 3) (v := ?_) rfl rfl (by kernel_rfl) (by kernel_rfl) (by kernel_rfl) (by kernel_rfl) (fun _ _ _ h => h) (by rfl) ?_ hSw ?_
      rotate_left 1
      · intro W9 hW9
        try dsimp only at hW9
        obtain ⟨⟨k0, k1, k2⟩, k3, k4, k5, k6, k7⟩ := (HRW.out W9 hW9).cells
        go_simp
        try with_reducible rfl
      try simp only [List.setIfInBounds_toArray, List.set_cons_zero, List.set_cons_succ]
      refine wpAnyU_op (i := 4) (by kernel_rfl) rfl rfl (fun K hK => ?_)
      go_simp
      refine hK.out _ _ (fun _ => hSw) ?_
      clear hK K
      try simp only [Act.put, List.setIfInBounds_toArray, List.set_cons_zero, List.set_cons_succ]
      refine wpAnyU_op (i := 5) (by kernel_rfl) rfl rfl (fun K hK => ?_)
      go_wp2_with fail
      refine ((request_any bx l.length c' 1 0 0 s lf ((l.length : Int) - 1) A' P none 0 false [(0, 1)] _ (by simp) hI (HRW.out _ hSw) (hPW.out.more (fun g hg => Nat.lt_of_lt_of_le hg.2 (Nat.le_of_lt (by show bx < wc.heap.size; omega)))))).mono ?_
      rintro e w3 ⟨V, vc, rfl, ⟨v1, v2, v3⟩, hb3'⟩; have hb3 : Below wc.heap.size wc w3 := bUn hb3'
      refine hK.out _ _ (fun _ => (belX_of hb3)) ?_
      clear hK K
      try simp only [Act.put, List.setIfInBounds_toArray, List.set_cons_zero, List.set_cons_succ]
      have hrr := (hb3.block (n0 + 1) (by omega)).trans (HR.out wc hS2)
      obtain ⟨z0, z1, z2, z3, z4, z5, z6, z7, zf⟩ := blk8 hrr
      have hsz3 := hb3.size
      have hB3 : Below w.heap.size w w3 := by rw [HN0.out]; exact HB0.out.trans ((hS2.mono (by omega)).trans (hb3.mono (by omega)))
      have hv3 : WkVal w3 (fun g => w.heap.size ≤ g ∧ g < w3.heap.size ∧ g ≠ n0 + 1) x (.agg #[.int .i64 s, .int .i64 lf, .slice A' l.length c', .slice P 1 1, .int .i64 ((l.length : Int) - 1), .slice none 0 0, .int .i64 0, .bool false]) := by
        rw [HX.out]
        exact ⟨A', c', P, 1, none, 0, rfl, ⟨d1, d2, (HA.out.blk (fun g hg => hb3.block g (Nat.lt_trans hg.2 hbw))).more (fun g hg => ⟨by have := hg.1; have := HN0.out; omega, by have := hg.2; omega, by have := hg.1; omega⟩)⟩, ⟨Nat.le_refl _, by unfold maxLen; decide, (HP.out.blk (fun g hg => hb3.block g (Nat.lt_trans hg.2 hbw))).more (fun g hg => ⟨by have := hg.1; have := HN0.out; omega, by have := hg.2; omega, by have := hg.1; omega⟩)⟩, ⟨Nat.zero_le _, Nat.zero_le _, SlAt.nil_⟩, hI.1, hI.2, by unfold I64; show _ ∧ _; simp only; omega, by unfold I64; show _ ∧ _; simp only; omega⟩
      have hrq : Hid (reqL x.1.1 x.1.2.1 x.2.1 = reqL s lf [(0, 1)] ∧ x.2.2.1 = (l.length : Int) - 1) := by rw [Hid, HX.out]; exact ⟨rfl, rfl⟩
      have hend := wk_req_end (w := w) hrr (by omega) hB3 hv3 (V := V) (vc := vc) (n := (reqL s lf [(0, 1)]).length) (by rw [hrq.out.1]) (by rw [hrq.out.1]; exact ⟨v1, v2, v3.more (fun g hg => ⟨by have := hg.1; have : wc.heap.size ≤ g := this; have := HN0.out; omega, hg.2, by have := hg.1; have : wc.heap.size ≤ g := this; omega⟩)⟩)
      rw [hrq.out.2] at hend
      have HEND := Lib.hid hend
      clear hend hv3 v3
      have hbX : BelX (n0 + 1) wc (set8 w3 (n0 + 1) (.int .i64 s) (.int .i64 lf) (.slice A' l.length c') (.slice P 1 1) (.int .i64 ((l.length : Int) - 1)) (.slice none 0 0) (.int .i64 0) (.bool false)) := fun g h1 h2 => (set8_other h2 _ _ _ _ _ _ _ _).trans (hb3.block g h1)
      have hs8 : (set8 w3 (n0 + 1) (.int .i64 s) (.int .i64 lf) (.slice A' l.length c') (.slice P 1 1) (.int .i64 ((l.length : Int) - 1)) (.slice none 0 0) (.int .i64 0) (.bool false)).heap.size = w3.heap.size := set8_sz
      have hsa := fun o => set8_alloc (w := w3) (o := o) (b := n0 + 1) (.int .i64 s) (.int .i64 lf) (.slice A' l.length c') (.slice P 1 1) (.int .i64 ((l.length : Int) - 1)) (.slice none 0 0) (.int .i64 0) (.bool false) (by omega)
      refine wpAnyU_two (i := 6) (j := 7) (by kernel_rfl) rfl rfl rfl rfl (fun K hK => ?_) (fun K hK => ?_)
      · have hrr' := (Below.heap_alloc w3 (.cells #[.int .i64 13, .int .i64 0, .int .i64 0, .int .i64 ((l.length : Int) - 1), .int .i64 0, .int .i64 0, .slice V (reqL s lf [(0, 1)]).length vc, .slice none 0 0] 45) (n0 + 1) (by omega)).trans hrr
        go_simp
        refine hK.out _ _ (fun _ => fun g h1 h2 => (Below.heap_alloc _ _ _ (by omega)).trans (hb3.block g h1)) ?_
        clear hK K z0 z1 z2 z3 z4 z5 z6 z7 zf
        obtain ⟨z0, z1, z2, z3, z4, z5, z6, z7, zf⟩ := blk8 hrr'
        refine wpAnyU_op (i := 7) (by kernel_rfl) rfl rfl (fun K hK => ?_)
        go_simp
        refine hK.out _ _ (fun _ => fun g h1 h2 => (set8_other h2 _ _ _ _ _ _ _ _).trans ((Below.heap_alloc _ _ _ (by omega)).trans (hb3.block g h1))) ?_
        clear hK K z0 z1 z2 z3 z4 z5 z6 z7 zf
        change wpAnyU _ _ _ _ _ _ _ _ _ (set8 (w3.alloc (.cells #[.int .i64 13, .int .i64 0, .int .i64 0, .int .i64 ((l.length : Int) - 1), .int .i64 0, .int .i64 0, .slice V (reqL s lf [(0, 1)]).length vc, .slice none 0 0] 45)) (n0 + 1) (.int .i64 s) (.int .i64 lf) (.slice A' l.length c') (.slice P 1 1) (.int .i64 ((l.length : Int) - 1)) (.slice none 0 0) (.int .i64 0) (.bool false))
        rw [hsa]
        clear hsa hrr'
        generalize set8 w3 (n0 + 1) (.int .i64 s) (.int .i64 lf) (.slice A' l.length c') (.slice P 1 1) (.int .i64 ((l.length : Int) - 1)) (.slice none 0 0) (.int .i64 0) (.bool false) = W7 at HEND hs8 hbX ⊢
        refine wpAnyU_op (i := 8) (by kernel_rfl) rfl rfl (fun K hK => ?_)
        go_simp
        refine hK.out _ _ (fun _ => (fun g h1 h2 => (Below.heap_alloc _ _ _ (by omega)).trans (hbX g h1 h2))) ?_
        clear hK K
        try simp only [Act.put, List.setIfInBounds_toArray, List.set_cons_zero, List.set_cons_succ]
        refine wpAnyU_op (i := 9) (by kernel_rfl) rfl rfl (fun K hK => ?_)
        go_simp
        refine hK.out _ _ (fun _ => (fun g h1 h2 => (Below.heap_alloc _ _ _ (by omega)).trans (hbX g h1 h2))) ?_
        clear hK K
        try simp only [Act.put, List.setIfInBounds_toArray, List.set_cons_zero, List.set_cons_succ]
        refine wpAnyU_done (by kernel_rfl) ?_ _
        obtain ⟨hz, hret⟩ := HEND.out
        generalize W7.alloc (.cells #[.int .i64 13, .int .i64 0, .int .i64 0, .int .i64 ((l.length : Int) - 1), .int .i64 0, .int .i64 0, .slice V (reqL s lf [(0, 1)]).length vc, .slice none 0 0] 45) = W9 at hz hret ⊢
        obtain ⟨z0, z1, z2, z3, z4, z5, z6, z7, _⟩ := blk8 hz
        go_wp2_with fail
        refine bodyPost_ret (v := .tuple #[.agg #[.int .i64 s, .int .i64 lf, .slice A' l.length c', .slice P 1 1, .int .i64 ((l.length : Int) - 1), .slice none 0 0, .int .i64 0, .bool false], .slice (some ⟨w3.heap.size, 0, none⟩) 1 1, .int .i64 0]) ?_ rfl ?_
        · simp [results, Try.results14, Try.f14, go_sem, z0, z1, z2, z3, z4, z5, z6, z7]
        rw [HM.out]
        exact hret
      · go_simp
        refine hK.out _ _ (fun _ => hbX) ?_
        clear hK K z0 z1 z2 z3 z4 z5 z6 z7 zf hsa
        change wpAnyU _ _ _ _ _ _ _ _ _ (set8 w3 (n0 + 1) (.int .i64 s) (.int .i64 lf) (.slice A' l.length c') (.slice P 1 1) (.int .i64 ((l.length : Int) - 1)) (.slice none 0 0) (.int .i64 0) (.bool false))
        generalize set8 w3 (n0 + 1) (.int .i64 s) (.int .i64 lf) (.slice A' l.length c') (.slice P 1 1) (.int .i64 ((l.length : Int) - 1)) (.slice none 0 0) (.int .i64 0) (.bool false) = W7 at HEND hs8 hbX ⊢
        refine wpAnyU_op (i := 6) (by kernel_rfl) rfl rfl (fun K hK => ?_)
        go_simp
        refine hK.out _ _ (fun _ => (fun g h1 h2 => (Below.heap_alloc _ _ _ (by omega)).trans (hbX g h1 h2))) ?_
        clear hK K
        try simp only [Act.put, List.setIfInBounds_toArray, List.set_cons_zero, List.set_cons_succ]
        try rw [hs8]
        refine wpAnyU_op (i := 8) (by kernel_rfl) rfl rfl (fun K hK => ?_)
        go_simp
        refine hK.out _ _ (fun _ => (fun g h1 h2 => (Below.heap_alloc _ _ _ (by omega)).trans (hbX g h1 h2))) ?_
        clear hK K
        try simp only [Act.put, List.setIfInBounds_toArray, List.set_cons_zero, List.set_cons_succ]
        refine wpAnyU_op (i := 9) (by kernel_rfl) rfl rfl (fun K hK => ?_)
        go_simp
        refine hK.out _ _ (fun _ => (fun g h1 h2 => (Below.heap_alloc _ _ _ (by omega)).trans (hbX g h1 h2))) ?_
        clear hK K
        try simp only [Act.put, List.setIfInBounds_toArray, List.set_cons_zero, List.set_cons_succ]
        refine wpAnyU_done (by kernel_rfl) ?_ _
        obtain ⟨hz, hret⟩ := HEND.out
        generalize W7.alloc (.cells #[.int .i64 13, .int .i64 0, .int .i64 0, .int .i64 ((l.length : Int) - 1), .int .i64 0, .int .i64 0, .slice V (reqL s lf [(0, 1)]).length vc, .slice none 0 0] 45) = W9 at hz hret ⊢
        obtain ⟨z0, z1, z2, z3, z4, z5, z6, z7, _⟩ := blk8 hz
        go_wp2_with fail
        refine bodyPost_ret (v := .tuple #[.agg #[.int .i64 s, .int .i64 lf, .slice A' l.length c', .slice P 1 1, .int .i64 ((l.length : Int) - 1), .slice none 0 0, .int .i64 0, .bool false], .slice (some ⟨w3.heap.size, 0, none⟩) 1 1, .int .i64 0]) ?_ rfl ?_
        · simp [results, Try.results14, Try.f14, go_sem, z0, z1, z2, z3, z4, z5, z6, z7]
        rw [HM.out]
        exact hret
  · obtain ⟨hz, hm⟩ := HBE.out hr0
    have HZ := Lib.hid (And.intro hz hm)
    obtain ⟨z0, z1, z2, z3, z4, z5, z6, z7, zf⟩ := blk8 (HR.out w1 hb1)
    have hrow := Lib.hid (HR.out w1 hb1)
    clear hz hm
    have hBw := HB0.out.trans (hb1.mono (by omega : n0 ≤ n2))
    go_wp2_with fail
    rw [HZ.out.1, HZ.out.2]
    rw [← HN0.out] at hBw
    have hend := wk_end (w := w) (u0 := (.int .i64 0)) (u1 := (.int .i64 0)) (u2 := (.slice none 0 0)) (u3 := (.slice none 0 0)) (u4 := (.int .i64 0)) (u5 := (.slice none 0 0)) (u6 := (.int .i64 0)) (u7 := (.bool false)) hrow.out (by omega) hBw wkVal_zero (B := none) (n := 0) (bc := 0) (rfl : ([] : List Msg).length = 0) ⟨Nat.le_refl 0, Nat.zero_le _, SlAt.nil_⟩ r
    obtain ⟨hz, hret⟩ := hend
    change bodyPost _ _ _ _ _ (set8 w1 (n0 + 1) (.int .i64 0) (.int .i64 0) (.slice none 0 0) (.slice none 0 0) (.int .i64 0) (.slice none 0 0) (.int .i64 0) (.bool false))
    generalize set8 w1 (n0 + 1) (.int .i64 0) (.int .i64 0) (.slice none 0 0) (.slice none 0 0) (.int .i64 0) (.slice none 0 0) (.int .i64 0) (.bool false) = W3 at hz hret ⊢
    obtain ⟨z0, z1, z2, z3, z4, z5, z6, z7, _⟩ := blk8 hz
    refine bodyPost_ret (v := .tuple #[.agg #[(.int .i64 0), (.int .i64 0), (.slice none 0 0), (.slice none 0 0), (.int .i64 0), (.slice none 0 0), (.int .i64 0), (.bool false)], .slice none 0 0, .int .i64 r]) ?_ rfl ?_
    · simp [results, Try.results14, Try.f14, go_sem, z0, z1, z2, z3, z4, z5, z6, z7]
    exact hret
end Go.Proofs.Ytjehedfdikdfpaa

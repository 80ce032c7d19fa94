/-
  The walks of the reference's digests.
-/
import Derived.Test.YthneomehfmjbkaaHs
import Derived.Test.YthneomehfmjbkaaCb
set_option linter.unusedVariables false
set_option linter.unusedSimpArgs false
set_option linter.unusedSectionVars false
set_option linter.unnecessarySimpa false
namespace Go.Proofs.Ythneomehfmjbkaa
open Go.RowKit

theorem SlAt.u8 {w : World} {S : Nat → Prop} {A : Option Addr} {l : List Int} {k : Nat} (h : SlAt encU8 w S A l) (hk : k < l.length) : ∃ b off, A = some ⟨b, off, none⟩ ∧ S b ∧ w.cell? ⟨b, off + k, none⟩ = some (.int .u8 l[k]) ∧ 0 ≤ l[k] ∧ l[k] < 256 := by
  obtain ⟨b, off, cs, e, hb, hs, rfl, h1, h2⟩ := h.at_ hk
  exact ⟨b, off, e, hb, by simpa [encU8] using hs 0 _ rfl, h1, h2⟩
theorem SlAt.u64 {w : World} {S : Nat → Prop} {A : Option Addr} {l : List Int} {k : Nat} (h : SlAt encU64 w S A l) (hk : k < l.length) : ∃ b off, A = some ⟨b, off, none⟩ ∧ S b ∧ w.cell? ⟨b, off + k, none⟩ = some (.int .u64 l[k]) ∧ 0 ≤ l[k] ∧ l[k] < 18446744073709551616 := by
  obtain ⟨b, off, cs, e, hb, hs, rfl, h1, h2⟩ := h.at_ hk
  exact ⟨b, off, e, hb, by simpa [encU64] using hs 0 _ rfl, h1, h2⟩
theorem refDigest_any (A : Option Addr) (c n : Nat) (bs : List Int) (r : Int) (w : World) (hn : bs.length = n) (hr : dig bs = r) (h1 : SlAt encU8 w (Bl w.heap.size) A bs) (hl : n ≤ 9223372036854775807) :
    Calls Try.prog 54 #[.slice A n c] w fun e w' => e = .returned (.int .u64 r) ∧ w' = w := by
  subst hn
  have HR := Lib.hid hr; clear hr
  go_enter Try.func54, Try.ntmps54
  go_wp2
  go_loopw [3, 4] (fun h i wr => wr = w ∧ ∃ (k : Nat) (d : Int), k ≤ bs.length ∧ i = .int .i64 k ∧ h = .int .u64 d ∧ Hid (d = (bs.take k).foldl dstep d0)) (fun _ i _ => bs.length - (intOf i).toNat)
  case atStart => exact ⟨rfl, 0, d0, by omega, rfl, rfl, rfl⟩
  case round =>
    obtain ⟨rfl, k, d, hk, rfl, rfl, hd⟩ := hrel
    by_cases hlt : k < bs.length
    · obtain ⟨b, off, rfl, hb, g0, q1, q2⟩ := h1.u8 hlt
      have hnn : (0 : Int) ≤ k := by omega
      have hki : (k : Int) < bs.length := by omega
      go_wp2
      go_roundw
      case rel => exact ⟨by trivial, k + 1, _, hlt, by go_num, rfl, by rw [Hid, List.take_succ_eq_append_getElem hlt, List.foldl_append, ← hd.out]; rfl⟩
      case measure => simp [intOf]; omega
    · have hkk : k = bs.length := by omega
      subst hkk
      go_wp2
      go_ret
      refine ⟨ret_int ?_, rfl⟩
      rw [← HR.out, dig, ← List.take_length (l := bs), ← hd.out]
      rfl
theorem tyU8s : SliceTy Try.prog 97 5 1 1 := sliceTy_mk (z := .int .u8 0) Try.underlying97 (by kernel_rfl) rfl (by decide)
theorem flat_len (l : List Sec) (h : ∀ x ∈ l, x.length = 8) : l.flatten.length = 8 * l.length := by
  induction l with
  | nil => rfl
  | cons x l ih =>
    rw [List.flatten_cons, List.length_append, ih (fun y hy => h y (by simp [hy])), h x (by simp), List.length_cons]; omega
theorem SlAt.okSecs {w : World} {S : Nat → Prop} {A : Option Addr} {l : List Sec} (h : SlAt encSec w S A l) : ∀ x ∈ l, OkSec x := by
  intro x hx
  obtain ⟨k, hk, rfl⟩ := List.mem_iff_getElem.1 hx
  obtain ⟨_, _, _, _, _, _, _, _, _, _, _, _, _, ho, _⟩ := h.sec hk
  exact ho
set_option maxHeartbeats 1000000 in
theorem refBytes_any (A : Option Addr) (c n : Nat) (l : List Sec) (w : World) (hn : l.length = n) (h1 : SlAt encSec w (Bl w.heap.size) A l) (hl : n ≤ 100000) :
    Calls Try.prog 55 #[.slice A n c] w (RetSl encU8 l.flatten w) := by
  subst hn
  have H1 : Hid (∀ w', Below w.heap.size w w' → SlAt encSec w' (Bl w.heap.size) A l) := fun w' hb => h1.below hb
  have HOK := Lib.hid h1.okSecs
  clear h1
  have hfl : ∀ k, ((l.take k).flatten).length = 8 * (l.take k).length := fun k => flat_len _ (fun x hx => (HOK.out x ((List.take_sublist _ _).subset hx)).1)
  have HFL := Lib.hid hfl; clear hfl
  go_enter Try.func55, Try.ntmps55
  go_wp2
  go_loopw [3, 4] (fun v i wr => ∃ (k : Nat) (B : Option Addr) (vc : Nat) (out : List Int), k ≤ l.length ∧ i = .int .i64 k ∧ v = .slice B out.length vc ∧ Below w.heap.size w wr ∧ Hid (out = (l.take k).flatten) ∧ Hid (OwnW encU8 wr w.heap.size w.heap.size 5 (.slice B out.length vc) out)) (fun _ i _ => l.length - (intOf i).toNat)
  case atStart => exact ⟨0, none, 0, [], by omega, rfl, rfl, Below.refl _ _, by simp [Hid], OwnW.nil_⟩
  case round =>
    obtain ⟨wo, rfl⟩ : ∃ wo : World, wo = wr := ⟨_, rfl⟩
    obtain ⟨k, B, vc, out, hk, rfl, rfl, hB, hout, hown⟩ := hrel
    by_cases hlt : k < l.length
    · have hnn : (0 : Int) ≤ k := by omega
      have hki : (k : Int) < l.length := by omega
      obtain ⟨sk, hsk⟩ : ∃ s, Hid (s = l[k]'hlt) := ⟨_, Lib.hid rfl⟩
      have hs8 : sk.length = 8 := by rw [hsk.out]; exact (HOK.out _ (List.getElem_mem hlt)).1
      have HS8 := Lib.hid hs8; clear hs8
      have hpre : Hid ((l.take k).flatten.length = 8 * k) := by rw [Hid, HFL.out, List.length_take, Nat.min_eq_left hk]
      go_wp2
      go_loopw [3, 5] (fun v j wr => ∃ (m : Nat) (B : Option Addr) (vc : Nat) (out : List Int), m ≤ 8 ∧ j = .int .i64 m ∧ v = .slice B out.length vc ∧ Below w.heap.size w wr ∧ Hid (out = (l.take k).flatten ++ sk.take m) ∧ Hid (OwnW encU8 wr w.heap.size w.heap.size 5 (.slice B out.length vc) out)) (fun _ j _ => 8 - (intOf j).toNat)
      case atStart => exact ⟨0, B, vc, out, by omega, rfl, rfl, hB, by rw [hout.out]; simp [Hid], hown.out⟩
      case round =>
        obtain ⟨wp, rfl⟩ : ∃ wp : World, wp = wr := ⟨_, rfl⟩
        clear hB hout hown
        obtain ⟨m, B, vc, out, hm, rfl, rfl, hB, hout, hown⟩ := hrel
        have hol : out.length ≤ 1000000 := by
          rw [hout.out, List.length_append, hpre.out, List.length_take]
          have := HS8.out
          omega
        by_cases hlm : m < 8
        · have hmm : (0 : Int) ≤ m := by omega
          have hmi : (m : Int) < 8 := by omega
          have hm8 : m < sk.length := by rw [HS8.out]; exact hlm
          obtain ⟨b, off, cs, rfl, hb, hcell, rfl, hok⟩ := (H1.out wp hB).at_ hlt
          have g0 := hcell m (.int .u8 (sk[m]'hm8)) (by
            have h5 : m < (l[k]'hlt).length := by rw [← hsk.out]; exact hm8
            unfold secV
            rw [List.getElem?_map, List.getElem?_eq_getElem h5]
            simp only [Option.map_some]
            congr 2
            simp only [hsk.out])
          have hx2 : 0 ≤ sk[m]'hm8 ∧ sk[m]'hm8 < 256 := (HOK.out _ (List.getElem_mem hlt)).2 _ (by rw [← hsk.out]; exact List.getElem_mem _)
          obtain ⟨y, hy⟩ : ∃ y, Hid (y = sk[m]'hm8) := ⟨_, Lib.hid rfl⟩
          rw [← hy.out] at g0 hx2
          have e8 : encSec.size = 8 := rfl
          rw [e8] at g0
          have hsz := hB.size
          have HO1 := Lib.hid (Own.alloc hown.out (fun _ h => h.1.2) (.cells #[.int .u8 y] 5))
          have HRD : Hid (encU8.rd (wp.alloc (.cells #[.int .u8 y] 5)) (fun b => Nw w.heap.size wp.heap.size b ∧ (Value.slice B out.length vc).ownBlock ≠ some b) [.int .u8 y] y) := ⟨rfl, hx2⟩
          clear hcell hok hx2 e8
          go_wp2_with (at_builtin; refine Hid.out ?_)
          change wpList _ _ _ _ _ _
          refine wpList_app1 (E := encU8) tyU8s rfl _ _ rfl rfl HO1.out y [.int .u8 y] rfl HRD.out (heap_alloc_new _ _) (fun _ h => by simp; have := h.1.2; omega) (by simp; omega) (by unfold maxLen; omega) (by omega) ?_
          intro A' c' w5 hown5 hg5 hat5
          have hlt1 : ∀ g, (Value.slice B out.length vc).ownBlock = some g → g < wp.heap.size := fun g hg => (hown.out.lt g hg).2
          have hok5 := Lib.hid (OwnW.app (hown5.more (S' := fun b => Nw w.heap.size (wp.alloc (.cells #[.int .u8 y] 5)).heap.size b ∧ (Value.slice B out.length vc).ownBlock ≠ some b) (fun b hb => ⟨hb.1.mono (Nat.le_refl _) (by simp), hb.2⟩) (OwnW_new hown5 hat5 hlt1 (by simp))) hg5 hat5)
          have hB5 := Lib.hid ((ext_alloc (o := .cells #[.int .u8 y] 5) hB).grown hg5 (by simp; omega) (fun g h => (hown.out.lt g h).1))
          clear hown5 hg5 hat5 hlt1 g0
          go_wp2
          go_roundw
          case rel => exact ⟨m + 1, A', c', out ++ [y], hlm, by go_num, by simp, hB5.out, by rw [Hid, List.take_succ_eq_append_getElem hm8, ← List.append_assoc, ← hout.out, hy.out], by have := hok5.out; simpa [Hid] using this⟩
          case measure => simp [intOf]; omega
        · have hmm : m = 8 := by omega
          subst hmm
          have hmi : ¬ (((8 : Nat) : Int) < 8) := by omega
          go_wp2
          go_roundw
          case rel =>
            refine ⟨k + 1, B, vc, out, hlt, by go_num, rfl, hB, ?_, hown.out⟩
            have e8 : sk.take 8 = sk := List.take_of_length_le (by rw [HS8.out]; exact Nat.le_refl _)
            rw [Hid, List.take_succ_eq_append_getElem hlt, List.flatten_append, hout.out, e8, hsk.out]
            simp
          case measure => simp [intOf]; omega
    · have hkk : k = l.length := by omega
      subst hkk
      obtain ⟨_, p1, p2, p3⟩ := hown.out.parts
      have P3 := Lib.hid p3; clear p3
      have hout2 : Hid (out = l.flatten) := by rw [Hid, hout.out, List.take_length]
      go_wp2
      go_ret
      rw [← hout2.out]
      exact ⟨B, vc, rfl, p1, p2, P3.out, hB⟩
theorem refSectors_dig (A : Option Addr) (c n : Nat) (l : List Sec) (r : Int) (w : World) (hn : l.length = n) (hr : digS l = r) (h1 : SlAt encSec w (Bl w.heap.size) A l) (hl : n ≤ 100000) :
    Calls Try.prog 35 #[.slice A n c] w fun e w' => e = .returned (.int .u64 r) ∧ Below w.heap.size w w' := by
  have hc := Lib.hid (refBytes_any A c n l w hn h1 hl)
  have hlen : Hid (l.flatten.length ≤ 9223372036854775807) := by
    rw [Hid, flat_len l (fun x hx => (h1.okSecs x hx).1)]; omega
  have HR : Hid (dig l.flatten = r) := hr
  clear h1 hr
  go_enter Try.func35, Try.ntmps35
  go_wp2_with fail
  refine hc.out.mono ?_
  rintro e w1 ⟨B, vc, rfl, p1, p2, p3, hb1⟩
  have P3 := Lib.hid (p3.more (fun _ h => h.2) : SlAt encU8 w1 (Bl w1.heap.size) B l.flatten); clear p3
  obtain ⟨bs, hbs⟩ : ∃ bs, Hid (bs = l.flatten) := ⟨_, Lib.hid rfl⟩
  rw [← hbs.out] at P3 HR hlen ⊢
  go_wp2_with fail
  refine (refDigest_any B vc _ bs r w1 rfl HR.out P3.out hlen.out).mono ?_
  rintro e w2 ⟨rfl, rfl⟩
  go_wp2
  go_ret
  exact ⟨rfl, hb1⟩
set_option maxHeartbeats 1000000 in
theorem refPair_any (y1 y2 : Int) (w : World) (ha : 0 ≤ y1 ∧ y1 < 18446744073709551616) (hb : 0 ≤ y2 ∧ y2 < 18446744073709551616) :
    Calls Try.prog 36 #[.int .u64 y1, .int .u64 y2] w fun e w' => e = .returned (.int .u64 (pairD y1 y2)) ∧ Below w.heap.size w w' := by
  obtain ⟨ha1, ha2⟩ := ha
  obtain ⟨hb1, hb2⟩ := hb
  go_enter Try.func36, Try.ntmps36
  go_wp2
  go_loopw [5, 6] (fun v i wr => ∃ (k : Nat) (B : Option Addr) (vc : Nat) (out : List Int), k ≤ 8 ∧ i = .int .i64 k ∧ v = .slice B out.length vc ∧ Below w.heap.size w wr ∧ Hid (out = [] ++ (List.range k).map (byteOf y1)) ∧ Hid (OwnW encU8 wr w.heap.size w.heap.size 5 (.slice B out.length vc) out)) (fun _ i _ => 8 - (intOf i).toNat)
  case atStart => exact ⟨0, none, 0, [], by omega, rfl, rfl, Below.refl _ _, by simp [Hid], OwnW.nil_⟩
  case round =>
    obtain ⟨k, B, vc, out, hk, rfl, rfl, hB, hout, hown⟩ := hrel
    have hol : out.length ≤ 8 := by rw [hout.out, List.nil_append, List.length_map, List.length_range]; exact hk
    by_cases hlt : k < 8
    · have hnn : (0 : Int) ≤ k := by omega
      have hki : (k : Int) < 8 := by omega
      have hsz := hB.size
      have HO1 := Lib.hid (Own.alloc hown.out (fun _ h => h.1.2) (.cells #[.int .u8 (y1 / 2 ^ (8 * k) % 256)] 5))
      have HRD : Hid (encU8.rd (wr.alloc (.cells #[.int .u8 (y1 / 2 ^ (8 * k) % 256)] 5)) (fun b => Nw w.heap.size wr.heap.size b ∧ (Value.slice B out.length vc).ownBlock ≠ some b) [.int .u8 (y1 / 2 ^ (8 * k) % 256)] (y1 / 2 ^ (8 * k) % 256)) := ⟨rfl, byteOf_range y1 k⟩
      go_wp2_with (at_builtin; refine Hid.out ?_)
      change wpList _ _ _ _ _ _
      refine wpList_app1 (E := encU8) tyU8s rfl _ _ rfl rfl HO1.out (y1 / 2 ^ (8 * k) % 256) _ rfl HRD.out (heap_alloc_new _ _) (fun _ h => by simp; have := h.1.2; omega) (by simp; omega) (by unfold maxLen; omega) (by omega) ?_
      intro A' c' w5 hown5 hg5 hat5
      have hlt1 : ∀ g, (Value.slice B out.length vc).ownBlock = some g → g < wr.heap.size := fun g hg => (hown.out.lt g hg).2
      have hok5 := Lib.hid (OwnW.app (hown5.more (S' := fun b => Nw w.heap.size (wr.alloc (.cells #[.int .u8 (y1 / 2 ^ (8 * k) % 256)] 5)).heap.size b ∧ (Value.slice B out.length vc).ownBlock ≠ some b) (fun b hb => ⟨hb.1.mono (Nat.le_refl _) (by simp), hb.2⟩) (OwnW_new hown5 hat5 hlt1 (by simp))) hg5 hat5)
      have hB5 := Lib.hid ((ext_alloc (o := .cells #[.int .u8 (y1 / 2 ^ (8 * k) % 256)] 5) hB).grown hg5 (by simp; omega) (fun g h => (hown.out.lt g h).1))
      clear hown5 hg5 hat5 hlt1
      go_wp2
      go_roundw
      case rel => exact ⟨k + 1, A', c', out ++ [y1 / 2 ^ (8 * k) % 256], hlt, by go_num, by simp, hB5.out, by rw [Hid, bytes_succ, ← List.append_assoc, ← hout.out]; rfl, by have := hok5.out; simpa [Hid] using this⟩
      case measure => simp [intOf]; omega
    · have hkk : k = 8 := by omega
      subst hkk
      have hki : ¬ (((8 : Nat) : Int) < 8) := by omega
      obtain ⟨wo, hwo⟩ : ∃ wo : World, wo = wr := ⟨_, rfl⟩
      have hout1 : Hid (out = le8 y1) := by rw [Hid, hout.out]; rfl
      go_wp2
      go_loopw [5, 7] (fun v i wr => ∃ (k : Nat) (B : Option Addr) (vc : Nat) (out : List Int), k ≤ 8 ∧ i = .int .i64 k ∧ v = .slice B out.length vc ∧ Below w.heap.size w wr ∧ Hid (out = le8 y1 ++ (List.range k).map (byteOf y2)) ∧ Hid (OwnW encU8 wr w.heap.size w.heap.size 5 (.slice B out.length vc) out)) (fun _ i _ => 8 - (intOf i).toNat)
      case atStart => exact ⟨0, B, vc, out, by omega, rfl, rfl, hB, by rw [Hid, hout1.out]; simp, hown.out⟩
      case round =>
        clear hwo
        clear hB hout hown hol hout1
        obtain ⟨k, B, vc, out, hk, rfl, rfl, hB, hout, hown⟩ := hrel
        have hol : out.length ≤ 16 := by rw [hout.out, List.length_append, List.length_map, List.length_range, le8, List.length_map, List.length_range]; omega
        by_cases hlt : k < 8
        · have hnn : (0 : Int) ≤ k := by omega
          have hki : (k : Int) < 8 := by omega
          have hsz := hB.size
          have HO1 := Lib.hid (Own.alloc hown.out (fun _ h => h.1.2) (.cells #[.int .u8 (y2 / 2 ^ (8 * k) % 256)] 5))
          have HRD : Hid (encU8.rd (wr.alloc (.cells #[.int .u8 (y2 / 2 ^ (8 * k) % 256)] 5)) (fun b => Nw w.heap.size wr.heap.size b ∧ (Value.slice B out.length vc).ownBlock ≠ some b) [.int .u8 (y2 / 2 ^ (8 * k) % 256)] (y2 / 2 ^ (8 * k) % 256)) := ⟨rfl, byteOf_range y2 k⟩
          go_wp2_with (at_builtin; refine Hid.out ?_)
          change wpList _ _ _ _ _ _
          refine wpList_app1 (E := encU8) tyU8s rfl _ _ rfl rfl HO1.out (y2 / 2 ^ (8 * k) % 256) _ rfl HRD.out (heap_alloc_new _ _) (fun _ h => by simp; have := h.1.2; omega) (by simp; omega) (by unfold maxLen; omega) (by omega) ?_
          intro A' c' w5 hown5 hg5 hat5
          have hlt1 : ∀ g, (Value.slice B out.length vc).ownBlock = some g → g < wr.heap.size := fun g hg => (hown.out.lt g hg).2
          have hok5 := Lib.hid (OwnW.app (hown5.more (S' := fun b => Nw w.heap.size (wr.alloc (.cells #[.int .u8 (y2 / 2 ^ (8 * k) % 256)] 5)).heap.size b ∧ (Value.slice B out.length vc).ownBlock ≠ some b) (fun b hb => ⟨hb.1.mono (Nat.le_refl _) (by simp), hb.2⟩) (OwnW_new hown5 hat5 hlt1 (by simp))) hg5 hat5)
          have hB5 := Lib.hid ((ext_alloc (o := .cells #[.int .u8 (y2 / 2 ^ (8 * k) % 256)] 5) hB).grown hg5 (by simp; omega) (fun g h => (hown.out.lt g h).1))
          clear hown5 hg5 hat5 hlt1
          go_wp2
          go_roundw
          case rel => exact ⟨k + 1, A', c', out ++ [y2 / 2 ^ (8 * k) % 256], hlt, by go_num, by simp, hB5.out, by rw [Hid, bytes_succ, ← List.append_assoc, ← hout.out]; rfl, by have := hok5.out; simpa [Hid] using this⟩
          case measure => simp [intOf]; omega
        · have hkk : k = 8 := by omega
          subst hkk
          have hki : ¬ (((8 : Nat) : Int) < 8) := by omega
          obtain ⟨_, p1, p2, p3⟩ := hown.out.parts
          have hdg : dig out = pairD y1 y2 := by rw [hout.out]; rfl
          have HC := Lib.hid (refDigest_any B vc out.length out (pairD y1 y2) wr rfl hdg (p3.more (fun _ h => h.2)) (by omega))
          clear hdg p3
          go_wp2_with fail
          refine HC.out.mono ?_
          rintro e w1 ⟨rfl, rfl⟩
          go_wp2
          go_ret
          exact ⟨rfl, hB⟩
theorem tyU64s : SliceTy Try.prog 60 58 1 8 := sliceTy_mk (z := .int .u64 0) Try.underlying60 (by kernel_rfl) rfl (by decide)
end Go.Proofs.Ythneomehfmjbkaa

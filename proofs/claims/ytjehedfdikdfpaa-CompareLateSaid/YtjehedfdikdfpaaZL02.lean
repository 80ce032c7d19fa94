/-
  The walks of the reference's digests.; The walks of the code's digests.; The walk of the code's digests of sectors, and of pairs.; The walk of the code's digest of a pair.; Leaves, limits, the level above a level.; The level above a level: the walks.; The tree over leaves: the walks.; The reference's tree: the walk.
-/
import Derived.RegionTactic
import Derived.BigRegion
import Derived.Deep.RegionLaw
import Derived.Deep.Cut
import Derived.Deep.RegionHeld3
import Derived.Laws.Closers25b
import Derived.IntWalk
import Derived.Test.YtjehedfdikdfpaaZL01
set_option linter.unusedVariables false
set_option linter.unusedSimpArgs false
set_option linter.unusedSectionVars false
set_option linter.unnecessarySimpa false
namespace Go.Proofs.Ytjehedfdikdfpaa
open Go.RowKit

theorem SlAt.u8 {w : World} {S : Nat → Prop} {A : Option Addr} {l : List Int} {k : Nat} (h : SlAt encU8 w S A l) (hk : k < l.length) : ∃ b off, A = some ⟨b, off, none⟩ ∧ S b ∧ w.cell? ⟨b, off + k, none⟩ = some (.int .u8 l[k]) ∧ 0 ≤ l[k] ∧ l[k] < 256 := by
  obtain ⟨b, off, cs, e, hb, hs, rfl, h1, h2⟩ := h.at_ hk
  exact ⟨b, off, e, hb, by simpa [encU8] using hs 0 _ rfl, h1, h2⟩
theorem SlAt.u64 {w : World} {S : Nat → Prop} {A : Option Addr} {l : List Int} {k : Nat} (h : SlAt encU64 w S A l) (hk : k < l.length) : ∃ b off, A = some ⟨b, off, none⟩ ∧ S b ∧ w.cell? ⟨b, off + k, none⟩ = some (.int .u64 l[k]) ∧ 0 ≤ l[k] ∧ l[k] < 18446744073709551616 := by
  obtain ⟨b, off, cs, e, hb, hs, rfl, h1, h2⟩ := h.at_ hk
  exact ⟨b, off, e, hb, by simpa [encU64] using hs 0 _ rfl, h1, h2⟩
theorem refDigest_any (A : Option Addr) (c n : Nat) (bs : List Int) (r : Int) (w : World) (hn : bs.length = n) (hr : dig bs = r) (h1 : SlAt encU8 w (Bl w.heap.size) A bs) (hl : n ≤ 9223372036854775807) :
    Calls Try.prog 83 #[.slice A n c] w fun e w' => e = .returned (.int .u64 r) ∧ w' = w := by
  subst hn
  have HR := Lib.hid hr; clear hr
  go_enter Try.func83, Try.ntmps83
  go_wp2
  go_loopw [3, 4] (fun h i wr => wr = w ∧ ∃ (k : Nat) (d : Int), k ≤ bs.length ∧ i = .int .i64 k ∧ h = .int .u64 d ∧ Hid (d = (bs.take k).foldl dstep d0)) (fun _ i _ => bs.length - (intOf i).toNat)
  case atStart => exact ⟨rfl, 0, d0, by omega, rfl, rfl, rfl⟩
  case round =>
    obtain ⟨rfl, k, d, hk, rfl, rfl, hd⟩ := hrel
    by_cases hlt : k < bs.length
    · obtain ⟨b, off, rfl, hb, g0, q1, q2⟩ := h1.u8 hlt
      have hnn : (0 : Int) ≤ k := by omega
      have hki : (k : Int) < bs.length := by omega
      go_wp2
      go_roundw
      case rel => exact ⟨by trivial, k + 1, _, hlt, by go_num, rfl, by rw [Hid, List.take_succ_eq_append_getElem hlt, List.foldl_append, ← hd.out]; rfl⟩
      case measure => simp [intOf]; omega
    · have hkk : k = bs.length := by omega
      subst hkk
      go_wp2
      go_ret
      refine ⟨ret_int ?_, rfl⟩
      rw [← HR.out, dig, ← List.take_length (l := bs), ← hd.out]
      rfl
theorem tyU8s : SliceTy Try.prog 43 5 1 1 := sliceTy_mk (z := .int .u8 0) Try.underlying43 (by kernel_rfl) rfl (by decide)
theorem flat_len (l : List Sec) (h : ∀ x ∈ l, x.length = 8) : l.flatten.length = 8 * l.length := by
  induction l with
  | nil => rfl
  | cons x l ih =>
    rw [List.flatten_cons, List.length_append, ih (fun y hy => h y (by simp [hy])), h x (by simp), List.length_cons]; omega
theorem SlAt.okSecs {w : World} {S : Nat → Prop} {A : Option Addr} {l : List Sec} (h : SlAt encSec w S A l) : ∀ x ∈ l, OkSec x := by
  intro x hx
  obtain ⟨k, hk, rfl⟩ := List.mem_iff_getElem.1 hx
  obtain ⟨_, _, _, _, _, _, _, _, _, _, _, _, _, ho, _⟩ := h.sec hk
  exact ho
set_option maxHeartbeats 1000000 in
theorem refBytes_any (A : Option Addr) (c n : Nat) (l : List Sec) (w : World) (hn : l.length = n) (h1 : SlAt encSec w (Bl w.heap.size) A l) (hl : n ≤ 100000) :
    Calls Try.prog 84 #[.slice A n c] w (RetSl encU8 l.flatten w) := by
  subst hn
  have H1 : Hid (∀ w', Below w.heap.size w w' → SlAt encSec w' (Bl w.heap.size) A l) := fun w' hb => h1.below hb
  have HOK := Lib.hid h1.okSecs
  clear h1
  have hfl : ∀ k, ((l.take k).flatten).length = 8 * (l.take k).length := fun k => flat_len _ (fun x hx => (HOK.out x ((List.take_sublist _ _).subset hx)).1)
  have HFL := Lib.hid hfl; clear hfl
  go_enter Try.func84, Try.ntmps84
  go_wp2
  go_loopw [3, 4] (fun v i wr => ∃ (k : Nat) (B : Option Addr) (vc : Nat) (out : List Int), k ≤ l.length ∧ i = .int .i64 k ∧ v = .slice B out.length vc ∧ Below w.heap.size w wr ∧ Hid (out = (l.take k).flatten) ∧ Hid (OwnW encU8 wr w.heap.size w.heap.size 5 (.slice B out.length vc) out)) (fun _ i _ => l.length - (intOf i).toNat)
  case atStart => exact ⟨0, none, 0, [], by omega, rfl, rfl, Below.refl _ _, by simp [Hid], OwnW.nil_⟩
  case round =>
    obtain ⟨wo, rfl⟩ : ∃ wo : World, wo = wr := ⟨_, rfl⟩
    obtain ⟨k, B, vc, out, hk, rfl, rfl, hB, hout, hown⟩ := hrel
    by_cases hlt : k < l.length
    · have hnn : (0 : Int) ≤ k := by omega
      have hki : (k : Int) < l.length := by omega
      obtain ⟨sk, hsk⟩ : ∃ s, Hid (s = l[k]'hlt) := ⟨_, Lib.hid rfl⟩
      have hs8 : sk.length = 8 := by rw [hsk.out]; exact (HOK.out _ (List.getElem_mem hlt)).1
      have HS8 := Lib.hid hs8; clear hs8
      have hpre : Hid ((l.take k).flatten.length = 8 * k) := by rw [Hid, HFL.out, List.length_take, Nat.min_eq_left hk]
      go_wp2
      go_loopw [3, 5] (fun v j wr => ∃ (m : Nat) (B : Option Addr) (vc : Nat) (out : List Int), m ≤ 8 ∧ j = .int .i64 m ∧ v = .slice B out.length vc ∧ Below w.heap.size w wr ∧ Hid (out = (l.take k).flatten ++ sk.take m) ∧ Hid (OwnW encU8 wr w.heap.size w.heap.size 5 (.slice B out.length vc) out)) (fun _ j _ => 8 - (intOf j).toNat)
      case atStart => exact ⟨0, B, vc, out, by omega, rfl, rfl, hB, by rw [hout.out]; simp [Hid], hown.out⟩
      case round =>
        obtain ⟨wp, rfl⟩ : ∃ wp : World, wp = wr := ⟨_, rfl⟩
        clear hB hout hown
        obtain ⟨m, B, vc, out, hm, rfl, rfl, hB, hout, hown⟩ := hrel
        have hol : out.length ≤ 1000000 := by
          rw [hout.out, List.length_append, hpre.out, List.length_take]
          have := HS8.out
          omega
        by_cases hlm : m < 8
        · have hmm : (0 : Int) ≤ m := by omega
          have hmi : (m : Int) < 8 := by omega
          have hm8 : m < sk.length := by rw [HS8.out]; exact hlm
          obtain ⟨b, off, cs, rfl, hb, hcell, rfl, hok⟩ := (H1.out wp hB).at_ hlt
          have g0 := hcell m (.int .u8 (sk[m]'hm8)) (by
            have h5 : m < (l[k]'hlt).length := by rw [← hsk.out]; exact hm8
            unfold secV
            rw [List.getElem?_map, List.getElem?_eq_getElem h5]
            simp only [Option.map_some]
            congr 2
            simp only [hsk.out])
          have hx2 : 0 ≤ sk[m]'hm8 ∧ sk[m]'hm8 < 256 := (HOK.out _ (List.getElem_mem hlt)).2 _ (by rw [← hsk.out]; exact List.getElem_mem _)
          obtain ⟨y, hy⟩ : ∃ y, Hid (y = sk[m]'hm8) := ⟨_, Lib.hid rfl⟩
          rw [← hy.out] at g0 hx2
          have e8 : encSec.size = 8 := rfl
          rw [e8] at g0
          have hsz := hB.size
          have HO1 := Lib.hid (Own.alloc hown.out (fun _ h => h.1.2) (.cells #[.int .u8 y] 5))
          have HRD : Hid (encU8.rd (wp.alloc (.cells #[.int .u8 y] 5)) (fun b => Nw w.heap.size wp.heap.size b ∧ (Value.slice B out.length vc).ownBlock ≠ some b) [.int .u8 y] y) := ⟨rfl, hx2⟩
          clear hcell hok hx2 e8
          go_wp2_with (at_builtin; refine Hid.out ?_)
          change wpList _ _ _ _ _ _
          refine wpList_app1 (E := encU8) tyU8s rfl _ _ rfl rfl HO1.out y [.int .u8 y] rfl HRD.out (heap_alloc_new _ _) (fun _ h => by simp; have := h.1.2; omega) (by simp; omega) (by unfold maxLen; omega) (by omega) ?_
          intro A' c' w5 hown5 hg5 hat5
          have hlt1 : ∀ g, (Value.slice B out.length vc).ownBlock = some g → g < wp.heap.size := fun g hg => (hown.out.lt g hg).2
          have hok5 := Lib.hid (OwnW.app (hown5.more (S' := fun b => Nw w.heap.size (wp.alloc (.cells #[.int .u8 y] 5)).heap.size b ∧ (Value.slice B out.length vc).ownBlock ≠ some b) (fun b hb => ⟨hb.1.mono (Nat.le_refl _) (by simp), hb.2⟩) (OwnW_new hown5 hat5 hlt1 (by simp))) hg5 hat5)
          have hB5 := Lib.hid ((ext_alloc (o := .cells #[.int .u8 y] 5) hB).grown hg5 (by simp; omega) (fun g h => (hown.out.lt g h).1))
          clear hown5 hg5 hat5 hlt1 g0
          go_wp2
          go_roundw
          case rel => exact ⟨m + 1, A', c', out ++ [y], hlm, by go_num, by simp, hB5.out, by rw [Hid, List.take_succ_eq_append_getElem hm8, ← List.append_assoc, ← hout.out, hy.out], by have := hok5.out; simpa [Hid] using this⟩
          case measure => simp [intOf]; omega
        · have hmm : m = 8 := by omega
          subst hmm
          have hmi : ¬ (((8 : Nat) : Int) < 8) := by omega
          go_wp2
          go_roundw
          case rel =>
            refine ⟨k + 1, B, vc, out, hlt, by go_num, rfl, hB, ?_, hown.out⟩
            have e8 : sk.take 8 = sk := List.take_of_length_le (by rw [HS8.out]; exact Nat.le_refl _)
            rw [Hid, List.take_succ_eq_append_getElem hlt, List.flatten_append, hout.out, e8, hsk.out]
            simp
          case measure => simp [intOf]; omega
    · have hkk : k = l.length := by omega
      subst hkk
      obtain ⟨_, p1, p2, p3⟩ := hown.out.parts
      have P3 := Lib.hid p3; clear p3
      have hout2 : Hid (out = l.flatten) := by rw [Hid, hout.out, List.take_length]
      go_wp2
      go_ret
      rw [← hout2.out]
      exact ⟨B, vc, rfl, p1, p2, P3.out, hB⟩
theorem refSectors_dig (A : Option Addr) (c n : Nat) (l : List Sec) (r : Int) (w : World) (hn : l.length = n) (hr : digS l = r) (h1 : SlAt encSec w (Bl w.heap.size) A l) (hl : n ≤ 100000) :
    Calls Try.prog 62 #[.slice A n c] w fun e w' => e = .returned (.int .u64 r) ∧ Below w.heap.size w w' := by
  have hc := Lib.hid (refBytes_any A c n l w hn h1 hl)
  have hlen : Hid (l.flatten.length ≤ 9223372036854775807) := by
    rw [Hid, flat_len l (fun x hx => (h1.okSecs x hx).1)]; omega
  have HR : Hid (dig l.flatten = r) := hr
  clear h1 hr
  go_enter Try.func62, Try.ntmps62
  go_wp2_with fail
  refine hc.out.mono ?_
  rintro e w1 ⟨B, vc, rfl, p1, p2, p3, hb1⟩
  have P3 := Lib.hid (p3.more (fun _ h => h.2) : SlAt encU8 w1 (Bl w1.heap.size) B l.flatten); clear p3
  obtain ⟨bs, hbs⟩ : ∃ bs, Hid (bs = l.flatten) := ⟨_, Lib.hid rfl⟩
  rw [← hbs.out] at P3 HR hlen ⊢
  go_wp2_with fail
  refine (refDigest_any B vc _ bs r w1 rfl HR.out P3.out hlen.out).mono ?_
  rintro e w2 ⟨rfl, rfl⟩
  go_wp2
  go_ret
  exact ⟨rfl, hb1⟩
set_option maxHeartbeats 1000000 in
theorem refPair_any (y1 y2 : Int) (w : World) (ha : 0 ≤ y1 ∧ y1 < 18446744073709551616) (hb : 0 ≤ y2 ∧ y2 < 18446744073709551616) :
    Calls Try.prog 94 #[.int .u64 y1, .int .u64 y2] w fun e w' => e = .returned (.int .u64 (pairD y1 y2)) ∧ Below w.heap.size w w' := by
  obtain ⟨ha1, ha2⟩ := ha
  obtain ⟨hb1, hb2⟩ := hb
  go_enter Try.func94, Try.ntmps94
  go_wp2
  go_loopw [5, 6] (fun v i wr => ∃ (k : Nat) (B : Option Addr) (vc : Nat) (out : List Int), k ≤ 8 ∧ i = .int .i64 k ∧ v = .slice B out.length vc ∧ Below w.heap.size w wr ∧ Hid (out = [] ++ (List.range k).map (byteOf y1)) ∧ Hid (OwnW encU8 wr w.heap.size w.heap.size 5 (.slice B out.length vc) out)) (fun _ i _ => 8 - (intOf i).toNat)
  case atStart => exact ⟨0, none, 0, [], by omega, rfl, rfl, Below.refl _ _, by simp [Hid], OwnW.nil_⟩
  case round =>
    obtain ⟨k, B, vc, out, hk, rfl, rfl, hB, hout, hown⟩ := hrel
    have hol : out.length ≤ 8 := by rw [hout.out, List.nil_append, List.length_map, List.length_range]; exact hk
    by_cases hlt : k < 8
    · have hnn : (0 : Int) ≤ k := by omega
      have hki : (k : Int) < 8 := by omega
      have hsz := hB.size
      have HO1 := Lib.hid (Own.alloc hown.out (fun _ h => h.1.2) (.cells #[.int .u8 (y1 / 2 ^ (8 * k) % 256)] 5))
      have HRD : Hid (encU8.rd (wr.alloc (.cells #[.int .u8 (y1 / 2 ^ (8 * k) % 256)] 5)) (fun b => Nw w.heap.size wr.heap.size b ∧ (Value.slice B out.length vc).ownBlock ≠ some b) [.int .u8 (y1 / 2 ^ (8 * k) % 256)] (y1 / 2 ^ (8 * k) % 256)) := ⟨rfl, byteOf_range y1 k⟩
      go_wp2_with (at_builtin; refine Hid.out ?_)
      change wpList _ _ _ _ _ _
      refine wpList_app1 (E := encU8) tyU8s rfl _ _ rfl rfl HO1.out (y1 / 2 ^ (8 * k) % 256) _ rfl HRD.out (heap_alloc_new _ _) (fun _ h => by simp; have := h.1.2; omega) (by simp; omega) (by unfold maxLen; omega) (by omega) ?_
      intro A' c' w5 hown5 hg5 hat5
      have hlt1 : ∀ g, (Value.slice B out.length vc).ownBlock = some g → g < wr.heap.size := fun g hg => (hown.out.lt g hg).2
      have hok5 := Lib.hid (OwnW.app (hown5.more (S' := fun b => Nw w.heap.size (wr.alloc (.cells #[.int .u8 (y1 / 2 ^ (8 * k) % 256)] 5)).heap.size b ∧ (Value.slice B out.length vc).ownBlock ≠ some b) (fun b hb => ⟨hb.1.mono (Nat.le_refl _) (by simp), hb.2⟩) (OwnW_new hown5 hat5 hlt1 (by simp))) hg5 hat5)
      have hB5 := Lib.hid ((ext_alloc (o := .cells #[.int .u8 (y1 / 2 ^ (8 * k) % 256)] 5) hB).grown hg5 (by simp; omega) (fun g h => (hown.out.lt g h).1))
      clear hown5 hg5 hat5 hlt1
      go_wp2
      go_roundw
      case rel => exact ⟨k + 1, A', c', out ++ [y1 / 2 ^ (8 * k) % 256], hlt, by go_num, by simp, hB5.out, by rw [Hid, bytes_succ, ← List.append_assoc, ← hout.out]; rfl, by have := hok5.out; simpa [Hid] using this⟩
      case measure => simp [intOf]; omega
    · have hkk : k = 8 := by omega
      subst hkk
      have hki : ¬ (((8 : Nat) : Int) < 8) := by omega
      obtain ⟨wo, hwo⟩ : ∃ wo : World, wo = wr := ⟨_, rfl⟩
      have hout1 : Hid (out = le8 y1) := by rw [Hid, hout.out]; rfl
      go_wp2
      go_loopw [5, 7] (fun v i wr => ∃ (k : Nat) (B : Option Addr) (vc : Nat) (out : List Int), k ≤ 8 ∧ i = .int .i64 k ∧ v = .slice B out.length vc ∧ Below w.heap.size w wr ∧ Hid (out = le8 y1 ++ (List.range k).map (byteOf y2)) ∧ Hid (OwnW encU8 wr w.heap.size w.heap.size 5 (.slice B out.length vc) out)) (fun _ i _ => 8 - (intOf i).toNat)
      case atStart => exact ⟨0, B, vc, out, by omega, rfl, rfl, hB, by rw [Hid, hout1.out]; simp, hown.out⟩
      case round =>
        clear hwo
        clear hB hout hown hol hout1
        obtain ⟨k, B, vc, out, hk, rfl, rfl, hB, hout, hown⟩ := hrel
        have hol : out.length ≤ 16 := by rw [hout.out, List.length_append, List.length_map, List.length_range, le8, List.length_map, List.length_range]; omega
        by_cases hlt : k < 8
        · have hnn : (0 : Int) ≤ k := by omega
          have hki : (k : Int) < 8 := by omega
          have hsz := hB.size
          have HO1 := Lib.hid (Own.alloc hown.out (fun _ h => h.1.2) (.cells #[.int .u8 (y2 / 2 ^ (8 * k) % 256)] 5))
          have HRD : Hid (encU8.rd (wr.alloc (.cells #[.int .u8 (y2 / 2 ^ (8 * k) % 256)] 5)) (fun b => Nw w.heap.size wr.heap.size b ∧ (Value.slice B out.length vc).ownBlock ≠ some b) [.int .u8 (y2 / 2 ^ (8 * k) % 256)] (y2 / 2 ^ (8 * k) % 256)) := ⟨rfl, byteOf_range y2 k⟩
          go_wp2_with (at_builtin; refine Hid.out ?_)
          change wpList _ _ _ _ _ _
          refine wpList_app1 (E := encU8) tyU8s rfl _ _ rfl rfl HO1.out (y2 / 2 ^ (8 * k) % 256) _ rfl HRD.out (heap_alloc_new _ _) (fun _ h => by simp; have := h.1.2; omega) (by simp; omega) (by unfold maxLen; omega) (by omega) ?_
          intro A' c' w5 hown5 hg5 hat5
          have hlt1 : ∀ g, (Value.slice B out.length vc).ownBlock = some g → g < wr.heap.size := fun g hg => (hown.out.lt g hg).2
          have hok5 := Lib.hid (OwnW.app (hown5.more (S' := fun b => Nw w.heap.size (wr.alloc (.cells #[.int .u8 (y2 / 2 ^ (8 * k) % 256)] 5)).heap.size b ∧ (Value.slice B out.length vc).ownBlock ≠ some b) (fun b hb => ⟨hb.1.mono (Nat.le_refl _) (by simp), hb.2⟩) (OwnW_new hown5 hat5 hlt1 (by simp))) hg5 hat5)
          have hB5 := Lib.hid ((ext_alloc (o := .cells #[.int .u8 (y2 / 2 ^ (8 * k) % 256)] 5) hB).grown hg5 (by simp; omega) (fun g h => (hown.out.lt g h).1))
          clear hown5 hg5 hat5 hlt1
          go_wp2
          go_roundw
          case rel => exact ⟨k + 1, A', c', out ++ [y2 / 2 ^ (8 * k) % 256], hlt, by go_num, by simp, hB5.out, by rw [Hid, bytes_succ, ← List.append_assoc, ← hout.out]; rfl, by have := hok5.out; simpa [Hid] using this⟩
          case measure => simp [intOf]; omega
        · have hkk : k = 8 := by omega
          subst hkk
          have hki : ¬ (((8 : Nat) : Int) < 8) := by omega
          obtain ⟨_, p1, p2, p3⟩ := hown.out.parts
          have hdg : dig out = pairD y1 y2 := by rw [hout.out]; rfl
          have HC := Lib.hid (refDigest_any B vc out.length out (pairD y1 y2) wr rfl hdg (p3.more (fun _ h => h.2)) (by omega))
          clear hdg p3
          go_wp2_with fail
          refine HC.out.mono ?_
          rintro e w1 ⟨rfl, rfl⟩
          go_wp2
          go_ret
          exact ⟨rfl, hB⟩
theorem tyU64s : SliceTy Try.prog 72 77 1 8 := sliceTy_mk (z := .int .u64 0) Try.underlying72 (by kernel_rfl) rfl (by decide)
end Go.Proofs.Ytjehedfdikdfpaa
namespace Go.Proofs.Ytjehedfdikdfpaa
open Go.RowKit Go.Shelf
attribute [local go_sem] Oper.semAt_some

abbrev Byt := { b : Int // 0 ≤ b ∧ b < 256 }
def bytE (x : Byt) : Array Value := #[.int .u8 x.1]
def bytsOf (xs : List Byt) : List Int := xs.map (·.1)
theorem bytsOf_snoc (xs : List Byt) (x : Byt) : bytsOf (xs ++ [x]) = bytsOf xs ++ [x.1] := by simp [bytsOf]
theorem bytsOf_len (xs : List Byt) : (bytsOf xs).length = xs.length := by simp [bytsOf]
theorem boxed_own {β : Type} {B b : Nat} {t : TypeId} (f : β → Value) : OwnT (fun _ => False) B (fun s W => Boxed W b t (f s)) := fun s W W' row h hg hr =>
  (hg.block b h.lt (fun e => by
    obtain ⟨_, o, h1, h2⟩ := hr b e.symm
    rw [h] at h1; cases h1
    rcases h2 with h2 | (h2 | ⟨_, _, _, _, h2⟩)
    · cases h2
    · cases h2
    · exact h2)).trans h
theorem u8_u64 {x : Int} (h1 : 0 ≤ x) (h2 : x < 256) : IntKind.u64.wrap x = x := by
  unfold IntKind.wrap
  simp only [IntKind.signed, IntKind.bits]
  simp
  omega
set_option maxRecDepth 100000 in
set_option maxHeartbeats 2000000 in
theorem digest_any (gf : Nat) (lb : Array Value) (eg : ∀ args w, (callFunc gf args).run Try.prog w = .ok (.enter gf args) w) (bs : List Int) (r : Int) (hr : dig bs = r) (N : Nat) (Sp : List Byt → Prop) (w : World)
    (hseq : ∀ n W, 1 ≤ n → Below w.heap.size w W → SeqStopsT (fun _ => False) Fence.wide n Try.prog gf lb bytE (Below w.heap.size) (fun xs => bytsOf xs = bs) Sp N W) :
    Calls Try.prog 89 #[.func (.func gf) #[] lb] w fun e w' => e = .returned (.int .u64 r) ∧ Below w.heap.size w w' := by
  have HR := Lib.hid hr; clear hr
  obtain ⟨n, hn⟩ : ∃ n : Nat, 4 ≤ n := ⟨4, Nat.le_refl _⟩
  refine (callsIn_wide (n := n)).1 ?_
  refine callsIn_of_wp_marks Try.func89 rfl trivial ?_ rfl
  simp only [Try.ntmps89, List.size_toArray, List.length_cons, List.length_nil, Nat.reduceAdd, Nat.reduceSub, Array.replicate_succ, Array.replicate_zero, List.push_toArray, List.append_toArray, List.nil_append, List.cons_append]
  have h1 : 1 ≤ n := by omega
  have hstops := hseq (n - 1) (w.alloc (.cells #[.int .u64 14695981039346656037] 77)) (by omega) (ext_alloc (Below.refl _ _))
  have HST := Lib.hid hstops; clear hstops hseq
  gi_wp2
  obtain ⟨W0, hW0⟩ : ∃ W0, w.alloc (.cells #[.int .u64 14695981039346656037] 77) = W0 := ⟨_, rfl⟩
  have hsz : w.heap.size < W0.heap.size := by rw [← hW0]; simp
  have hB0 : Below w.heap.size w W0 := by rw [← hW0]; exact ext_alloc (Below.refl _ _)
  have hbx : Boxed W0 w.heap.size 77 (.int .u64 d0) := by rw [← hW0]; exact Boxed.new w _ _
  rw [hW0] at HST ⊢
  refine wpIn_rangeFunc_ownT rfl h1 (gf := gf) (lb := lb) (own := fun _ => False) rfl trivial eg HST.out belowK_t (belowK_b (by omega)) (Below.refl _ _) (fun _ => rfl)
    (fun pre W => Boxed W w.heap.size 77 (.int .u64 ((bytsOf pre).foldl dstep d0)) ∧ Below w.heap.size w W)
    (fun _ _ _ => False)
    (OwnT.and (boxed_own _) (ownT_below (Nat.le_refl _) (by omega)))
    (fun _ _ _ _ _ hs _ _ => hs)
    ⟨hbx, hB0⟩
    (fun x a' W => a' = { tmps := #[.func (.func gf) #[] lb, undef, .int .u64 0, .pointer (some ⟨w.heap.size, 0, none⟩), .int .u8 x.1, .func (.func gf) #[] lb, .int .u8 x.1, undef, undef, undef, undef, undef, undef, undef, undef, undef], defers := [] }) ?hAx ?assign ?body ?done ?stop
  case hAx => exact fun x a' s X Y row h _ _ => h
  case assign =>
    rintro l pre x W K ⟨hi, hB⟩ hK
    unfold bytE
    gi_wp2
    exact hK _ _ (KeepsFrom.refl _ _) (Below.refl _ _) ⟨hi, hB⟩ rfl
  case body =>
    rintro l pre x a' W _ _ ⟨hv, hB⟩ rfl hlen
    have hc := hv.cell
    have hf := hv.frozen
    have hsz1 := hB.size
    have hw := u8_u64 x.2.1 x.2.2
    have HV := Lib.hid hv; clear hv
    gi_wp2
    exact ⟨(KeepsOthers.setCell _ _ _).from _, (Below.refl w.heap.size W).setCell (p := ⟨w.heap.size, 0, none⟩) (Nat.le_refl w.heap.size) _, by rw [bytsOf_snoc, List.foldl_append]; exact HV.out.set _, hB.setCell (p := ⟨w.heap.size, 0, none⟩) (Nat.le_refl w.heap.size) _⟩
  case done =>
    rintro D ys W hD hS ⟨hv, hB⟩ hK
    have hc := hv.cell
    have HK := Lib.hid hK; clear hK
    have hS2 := Lib.hid hS; clear hS
    rw [hS2.out] at hc
    gi_wp2
    refine ⟨by simp, .inl ⟨_, _, rfl, run_takeDeferred HK.out, ?_⟩⟩
    refine ⟨.int .u64 r, ?_, rfl, hB.grown (grownBy_putObj' _ D (.deferred none)) hB.size (fun k e => by cases e; omega)⟩
    rw [← HR.out]
    simp [results, Try.results89, Try.f89, go_sem, dig, dfin]
  case stop =>
    rintro D c' pre W hD hS h
    exact h.elim
set_option maxRecDepth 100000 in
set_option maxHeartbeats 2000000 in
theorem bytes_in (n : Nat) (hn : 1 ≤ n) (l Bs n₀ c : Nat) (A : Option Addr) (bs : List Int) (hlen : bs.length ≤ 9223372036854775807) (hBs : Bs < n₀) (J Jx : List Byt → World → Prop)
    (hY : ∀ pre x W, J pre W → pre.length < bs.length → YieldAt Fence.wide (n - 1) Try.prog l (bytE x) W fun e W' =>
      (e = .returned (.bool true) ∧ J (pre ++ [x]) W' ∧ Below n₀ W W') ∨ (e = .returned (.bool false) ∧ Jx (pre ++ [x]) W'))
    (W : World) (hc : W.cell? ⟨Bs, 0, none⟩ = some (.slice A bs.length c)) (hw : ∀ W', Below n₀ W W' → SlAt encU8 W' (Bl n₀) A bs) (h0 : J [] W) :
    CallsIn Fence.wide n Try.prog 100 #[.func (.yield l) #[] #[], .pointer (some ⟨Bs, 0, none⟩)] W fun e W' => (∃ v, e = .returned v) ∧
      ((∃ ys : List Byt, bytsOf ys = bs ∧ J ys W') ∨ (∃ pre : List Byt, True ∧ Jx pre W')) := by
  have HW := Lib.hid hw; clear hw
  refine callsIn_of_wp Try.func100 rfl trivial ?_ rfl
  simp only [Try.ntmps100, List.size_toArray, List.length_cons, List.length_nil, Nat.reduceAdd, Nat.reduceSub, Array.replicate_succ, Array.replicate_zero, List.push_toArray, List.append_toArray, List.nil_append, List.cons_append]
  gi_wp2
  gi_loopw [7] (fun i wr => ∃ (k : Nat) (pre : List Byt), k ≤ bs.length ∧ i = .int .i64 (k : Int) ∧ Hid (bytsOf pre = bs.take k) ∧ J pre wr ∧ Below n₀ W wr) (fun i _ => bs.length - (intOf i).toNat)
  case atStart => exact ⟨0, [], Nat.zero_le _, rfl, rfl, h0, Below.refl _ _⟩
  case round =>
    obtain ⟨k, pre, hk, rfl, hpre, hJs, hB⟩ := hrel
    have hcs := (hB.cell (p := ⟨Bs, 0, none⟩) hBs).trans hc
    clear hc
    by_cases hlt : k < bs.length
    · have hpl : pre.length < bs.length := by
        have := congrArg List.length hpre.out
        rw [bytsOf_len, List.length_take] at this
        omega
      obtain ⟨b, off, rfl, hb, g0, q1, q2⟩ := (HW.out wr hB).u8 hlt
      obtain ⟨fn, tmps, assign, body, hy, hR⟩ := hY pre ⟨bs[k]'hlt, q1, q2⟩ wr hJs hpl
      have hnn : (0 : Int) ≤ k := by omega
      have hki : (k : Int) < bs.length := by omega
      simp only [bytE] at hy
      gi_wp2
      refine hR.mono ?_
      have HY := Lib.hid hy; clear hy g0 hcs
      rintro e W3 (⟨rfl, hJ3, hk3⟩ | ⟨rfl, hJx3⟩)
      · gi_wp2
        go_roundw
        case rel => exact ⟨k + 1, pre ++ [⟨bs[k]'hlt, q1, q2⟩], hlt, by go_num, by rw [Hid, bytsOf_snoc, hpre.out, List.take_succ_eq_append_getElem hlt], hJ3, hB.trans hk3⟩
        case measure => simp [intOf]; omega
      · gi_wp2
        refine bodyPost_ret (results_none rfl _ _ _) rfl ?_
        exact ⟨⟨_, rfl⟩, .inr ⟨_, trivial, hJx3⟩⟩
    · have hkk : k = bs.length := by omega
      subst hkk
      gi_wp2
      go_end0
      exact ⟨⟨_, rfl⟩, .inl ⟨pre, by rw [hpre.out, List.take_length], hJs⟩⟩
theorem bytes_stops (n : Nat) (hn : 1 ≤ n) (Bs c n₀ : Nat) (A : Option Addr) (bs : List Int) (hlen : bs.length ≤ 9223372036854775807) (w : World) (hn₀ : n₀ ≤ w.heap.size) (hBs : Bs < n₀) (hc : w.cell? ⟨Bs, 0, none⟩ = some (.slice A bs.length c)) (hw : ∀ W', Below n₀ w W' → SlAt encU8 W' (Bl n₀) A bs) :
    SeqStopsT (fun _ => False) Fence.wide n Try.prog 100 #[.pointer (some ⟨Bs, 0, none⟩)] bytE (Below n₀) (fun ys => bytsOf ys = bs) (fun _ => True) bs.length w :=
  SeqStopsK.toT fun l J Jx W hW _ _ hY h0 => bytes_in n hn l Bs n₀ c A bs hlen hBs J Jx hY W ((hW.cell (p := ⟨Bs, 0, none⟩) (by simp; omega)).trans hc) (fun W' hb => hw W' ((hW.mono hn₀).trans hb)) h0
set_option maxHeartbeats 1000000 in
theorem digestBytes_any (A : Option Addr) (c n : Nat) (bs : List Int) (r : Int) (w : World) (hn : bs.length = n) (hr : dig bs = r) (h1 : SlAt encU8 w (Bl w.heap.size) A bs) (hl : n ≤ 9223372036854775807) :
    Calls Try.prog 95 #[.slice A n c] w fun e w' => e = .returned (.int .u64 r) ∧ Below w.heap.size w w' := by
  subst hn
  have HC : Hid (∀ W, Below w.heap.size w W → W.heap.size = w.heap.size + 1 → W.cell? ⟨w.heap.size, 0, none⟩ = some (.slice A bs.length c) → Calls Try.prog 89 #[.func (.func 100) #[] #[.pointer (some ⟨w.heap.size, 0, none⟩)]] W fun e w' => e = .returned (.int .u64 r) ∧ Below W.heap.size W w') := fun W hB hs hcell =>
    digest_any 100 #[.pointer (some ⟨w.heap.size, 0, none⟩)] (enters_of Try.func100 (by kernel_rfl) rfl) bs r hr bs.length (fun _ => True) W
      (fun n W1 hn hW => bytes_stops n hn w.heap.size c W.heap.size A bs hl W1 hW.size (by omega) ((hW.cell (p := ⟨w.heap.size, 0, none⟩) (by simp; omega)).trans hcell) (fun W' hb => h1.belowUp (hB.trans ((hW.trans hb).mono (by omega))) (by omega)))
  clear h1
  have hcell : (w.alloc (.cells #[.slice A bs.length c] 43)).cell? ⟨w.heap.size, 0, none⟩ = some (.slice A bs.length c) := cell_of_row _ _ 0 _ _ _ (heap_alloc_new _ _)
  have HCL := Lib.hid hcell; clear hcell
  go_enter Try.func95, Try.ntmps95
  go_wp2_with fail
  refine (HC.out _ (ext_alloc (Below.refl _ _)) (by simp) HCL.out).mono ?_
  rintro e w1 ⟨rfl, hb1⟩
  go_wp2
  go_ret
  exact ⟨rfl, (ext_alloc (Below.refl _ _)).trans (hb1.mono (by simp))⟩
end Go.Proofs.Ytjehedfdikdfpaa
namespace Go.Proofs.Ytjehedfdikdfpaa
open Go.RowKit Go.Shelf
attribute [local go_sem] Oper.semAt_some

theorem index_sec (x0 x1 x2 x3 x4 x5 x6 x7 : Int) (m : Nat) (hm : m < 8) (w : World) :
    (Instr.index 80 (.agg #[.int .u8 x0, .int .u8 x1, .int .u8 x2, .int .u8 x3, .int .u8 x4, .int .u8 x5, .int .u8 x6, .int .u8 x7]) (.int .i64 (m : Int))).run Try.prog w = .ok (.int .u8 ([x0, x1, x2, x3, x4, x5, x6, x7][m]'hm)) w := by
  have h : m = 0 ∨ m = 1 ∨ m = 2 ∨ m = 3 ∨ m = 4 ∨ m = 5 ∨ m = 6 ∨ m = 7 := by omega
  rcases h with rfl | rfl | rfl | rfl | rfl | rfl | rfl | rfl <;> simp [Instr.index, run_underlying Try.underlying80, asIntOf, go_sem]
set_option maxRecDepth 100000 in
set_option maxHeartbeats 4000000 in
theorem secs_in (n : Nat) (hn : 1 ≤ n) (l Bs n₀ c : Nat) (A : Option Addr) (ss : List Sec) (hlen : ss.length ≤ 100000) (hBs : Bs < n₀) (J Jx : List Byt → World → Prop) (hn₀ : ∀ W, Below n₀ W W)
    (hJ : ∀ s W o, J s W → J s (W.alloc o))
    (hY : ∀ pre x W, J pre W → pre.length < 8 * ss.length → YieldAt Fence.wide (n - 1) Try.prog l (bytE x) W fun e W' =>
      (e = .returned (.bool true) ∧ J (pre ++ [x]) W' ∧ Below n₀ W W') ∨ (e = .returned (.bool false) ∧ Jx (pre ++ [x]) W'))
    (W : World) (hW : n₀ ≤ W.heap.size) (hc : W.cell? ⟨Bs, 0, none⟩ = some (.slice A ss.length c)) (hw : ∀ W', Below n₀ W W' → SlAt encSec W' (Bl n₀) A ss) (h0 : J [] W) :
    CallsIn Fence.wide n Try.prog 90 #[.func (.yield l) #[] #[], .pointer (some ⟨Bs, 0, none⟩)] W fun e W' => (∃ v, e = .returned v) ∧
      ((∃ ys : List Byt, bytsOf ys = ss.flatten ∧ J ys W') ∨ (∃ pre : List Byt, True ∧ Jx pre W')) := by
  have HW := Lib.hid hw
  have hfl : ∀ k, ((ss.take k).flatten).length = 8 * (ss.take k).length := fun k => flat_len _ (fun x hx => ((hw W (Below.refl _ _)).okSecs x ((List.take_sublist _ _).subset hx)).1)
  have HFL := Lib.hid hfl; clear hfl hw
  refine callsIn_of_wp Try.func90 rfl trivial ?_ rfl
  simp only [Try.ntmps90, List.size_toArray, List.length_cons, List.length_nil, Nat.reduceAdd, Nat.reduceSub, Array.replicate_succ, Array.replicate_zero, List.push_toArray, List.append_toArray, List.nil_append, List.cons_append]
  gi_wp2
  gi_loopw [9] (fun i wr => ∃ (k : Nat) (pre : List Byt), k ≤ ss.length ∧ i = .int .i64 (k : Int) ∧ Hid (bytsOf pre = (ss.take k).flatten) ∧ J pre wr ∧ Below n₀ W wr) (fun i _ => ss.length - (intOf i).toNat)
  case atStart => exact ⟨0, [], Nat.zero_le _, rfl, rfl, h0, Below.refl _ _⟩
  case round =>
    obtain ⟨k, pre, hk, rfl, hpre, hJs, hB⟩ := hrel
    have hcs := (hB.cell (p := ⟨Bs, 0, none⟩) hBs).trans hc
    clear hc
    by_cases hlt : k < ss.length
    · have hsz := hB.size
      obtain ⟨b, off, x0, x1, x2, x3, x4, x5, x6, x7, rfl, hb, hx, hok, c0, c1, c2, c3, c4, c5, c6, c7⟩ := (HW.out wr hB).sec hlt
      have HX := Lib.hid hx; have HOK := Lib.hid hok; clear hx hok
      have hnn : (0 : Int) ≤ k := by omega
      have hki : (k : Int) < ss.length := by omega
      have hb1 : b < wr.heap.size := by simp only [Bl] at hb; omega
      gi_wp2
      obtain ⟨W0, hW0⟩ : ∃ W0, wr.alloc (.cells #[.int .u8 x0, .int .u8 x1, .int .u8 x2, .int .u8 x3, .int .u8 x4, .int .u8 x5, .int .u8 x6, .int .u8 x7] 80) = W0 := ⟨_, rfl⟩
      have hJ0 : J pre W0 := by rw [← hW0]; exact hJ _ _ _ hJs
      have hB0 : Below n₀ W W0 := by rw [← hW0]; exact hB.alloc (by omega) _
      rw [hW0]
      clear c0 c1 c2 c3 c4 c5 c6 c7 hJs hcs
      gi_loopw [14] (fun i wr => ∃ (m : Nat) (pre : List Byt), m ≤ 8 ∧ i = .int .i64 (m : Int) ∧ Hid (bytsOf pre = (ss.take k).flatten ++ [x0, x1, x2, x3, x4, x5, x6, x7].take m) ∧ J pre wr ∧ Below n₀ W wr) (fun i _ => 8 - (intOf i).toNat)
      case atStart => exact ⟨0, pre, Nat.zero_le _, rfl, by rw [Hid, hpre.out]; simp, hJ0, hB0⟩
      case round =>
        clear hpre hB hJ0 hB0 hW0
        obtain ⟨m, pre, hm, rfl, hpre, hJs, hB⟩ := hrel
        by_cases hlm : m < 8
        · have hmm : (0 : Int) ≤ m := by omega
          have hmi : (m : Int) < 8 := by omega
          have hpl : pre.length < 8 * ss.length := by
            have h5 := congrArg List.length hpre.out
            have h6 := HFL.out k
            rw [bytsOf_len, List.length_append, h6, List.length_take, List.length_take, List.length_cons] at h5
            omega
          have hr : 0 ≤ [x0, x1, x2, x3, x4, x5, x6, x7][m]'hlm ∧ [x0, x1, x2, x3, x4, x5, x6, x7][m]'hlm < 256 := (HX.out ▸ HOK.out).2 _ (List.getElem_mem _)
          have hidx := index_sec x0 x1 x2 x3 x4 x5 x6 x7 m hlm wr
          obtain ⟨y, hy0⟩ : ∃ y, Hid (y = [x0, x1, x2, x3, x4, x5, x6, x7][m]'hlm) := ⟨_, Lib.hid rfl⟩
          rw [← hy0.out] at hr hidx
          obtain ⟨q1, q2⟩ := hr
          obtain ⟨fn, tmps, assign, body, hy, hR⟩ := hY pre ⟨y, q1, q2⟩ wr hJs hpl
          simp only [bytE] at hy
          gi_wp2
          refine hR.mono ?_
          have HY := Lib.hid hy; clear hy hidx
          rintro e W3 (⟨rfl, hJ3, hk3⟩ | ⟨rfl, hJx3⟩)
          · gi_wp2
            go_roundw
            case rel => exact ⟨m + 1, pre ++ [⟨y, q1, q2⟩], hlm, by go_num, by rw [Hid, bytsOf_snoc, hpre.out, List.take_succ_eq_append_getElem (l := [x0, x1, x2, x3, x4, x5, x6, x7]) hlm, List.append_assoc, ← hy0.out], hJ3, hB.trans hk3⟩
            case measure => simp [intOf]; omega
          · gi_wp2
            refine bodyPost_ret (results_none rfl _ _ _) rfl ?_
            exact ⟨⟨_, rfl⟩, .inr ⟨_, trivial, hJx3⟩⟩
        · have hmm : m = 8 := by omega
          subst hmm
          have hmi : ¬ (((8 : Nat) : Int) < 8) := by omega
          gi_wp2
          go_roundw
          case rel => exact ⟨k + 1, pre, hlt, by go_num, by rw [Hid, List.take_succ_eq_append_getElem hlt, List.flatten_append, HX.out, hpre.out]; simp, hJs, hB⟩
          case measure => simp [intOf]; omega
    · have hkk : k = ss.length := by omega
      subst hkk
      gi_wp2
      go_end0
      exact ⟨⟨_, rfl⟩, .inl ⟨pre, by rw [hpre.out, List.take_length], hJs⟩⟩
theorem secs_stops (n : Nat) (hn : 1 ≤ n) (Bs c n₀ : Nat) (A : Option Addr) (ss : List Sec) (hlen : ss.length ≤ 100000) (w : World) (hn₀ : n₀ ≤ w.heap.size) (hBs : Bs < n₀) (hc : w.cell? ⟨Bs, 0, none⟩ = some (.slice A ss.length c)) (hw : ∀ W', Below n₀ w W' → SlAt encSec W' (Bl n₀) A ss) :
    SeqStopsT (fun _ => False) Fence.wide n Try.prog 90 #[.pointer (some ⟨Bs, 0, none⟩)] bytE (Below n₀) (fun ys => bytsOf ys = ss.flatten) (fun _ => True) (8 * ss.length) w :=
  fun l J Jx W hW hJ hJx hY h0 => secs_in n hn l Bs n₀ c A ss hlen hBs J Jx (fun _ => Below.refl _ _) (fun s W o h => hJ s W _ none h (World.grownBy_alloc W o none) (fun r e => by cases e)) hY W (by have := hW.size; omega) ((hW.cell (p := ⟨Bs, 0, none⟩) (by simp; omega)).trans hc) (fun W' hb => hw W' ((hW.mono hn₀).trans hb)) h0
set_option maxHeartbeats 1000000 in
theorem digestSecs_any (A : Option Addr) (c n : Nat) (ss : List Sec) (r : Int) (w : World) (hn : ss.length = n) (hr : digS ss = r) (h1 : SlAt encSec w (Bl w.heap.size) A ss) (hl : n ≤ 100000) :
    Calls Try.prog 79 #[.slice A n c] w fun e w' => e = .returned (.int .u64 r) ∧ Below w.heap.size w w' := by
  subst hn
  have HC : Hid (∀ W, Below w.heap.size w W → W.heap.size = w.heap.size + 1 → W.cell? ⟨w.heap.size, 0, none⟩ = some (.slice A ss.length c) → Calls Try.prog 89 #[.func (.func 90) #[] #[.pointer (some ⟨w.heap.size, 0, none⟩)]] W fun e w' => e = .returned (.int .u64 r) ∧ Below W.heap.size W w') := fun W hB hs hcell =>
    digest_any 90 #[.pointer (some ⟨w.heap.size, 0, none⟩)] (enters_of Try.func90 (by kernel_rfl) rfl) ss.flatten r hr (8 * ss.length) (fun _ => True) W
      (fun n W1 hn hW => secs_stops n hn w.heap.size c W.heap.size A ss hl W1 hW.size (by omega) ((hW.cell (p := ⟨w.heap.size, 0, none⟩) (by simp; omega)).trans hcell) (fun W' hb => h1.belowUp (hB.trans ((hW.trans hb).mono (by omega))) (by omega)))
  clear h1
  have hcell : (w.alloc (.cells #[.slice A ss.length c] 69)).cell? ⟨w.heap.size, 0, none⟩ = some (.slice A ss.length c) := cell_of_row _ _ 0 _ _ _ (heap_alloc_new _ _)
  have HCL := Lib.hid hcell; clear hcell
  go_enter Try.func79, Try.ntmps79
  go_wp2_with fail
  refine (HC.out _ (ext_alloc (Below.refl _ _)) (by simp) HCL.out).mono ?_
  rintro e w1 ⟨rfl, hb1⟩
  go_wp2
  go_ret
  exact ⟨rfl, (ext_alloc (Below.refl _ _)).trans (hb1.mono (by simp))⟩
end Go.Proofs.Ytjehedfdikdfpaa
namespace Go.Proofs.Ytjehedfdikdfpaa
open Go.RowKit Go.Shelf
attribute [local go_sem] Oper.semAt_some

/-- the sixteen bytes after k rounds -/
def pairRow (p q : Int) (k : Nat) : List Int := (List.range 16).map fun j => if j < 8 then (if j < k then byteOf p j else 0) else if j - 8 < k then byteOf q (j - 8) else 0
theorem pairRow_len (p q : Int) (k : Nat) : (pairRow p q k).length = 16 := by simp [pairRow]
theorem pairRow_8 (p q : Int) : pairRow p q 8 = le8 p ++ le8 q := by
  simp [pairRow, le8, List.range_succ]
theorem pairRow_step (p q : Int) (k : Nat) (hk : k < 8) : ((pairRow p q k).set k (byteOf p k)).set (8 + k) (byteOf q k) = pairRow p q (k + 1) := by
  apply List.ext_getElem
  · simp [pairRow]
  intro j h1 h2
  have hj : j < 16 := by simpa [pairRow] using h2
  simp only [List.getElem_set, pairRow, List.getElem_map, List.getElem_range]
  by_cases e1 : 8 + k = j
  · subst e1
    rw [if_pos rfl, if_neg (by omega), if_pos (by omega)]
    congr 1; omega
  · rw [if_neg e1]
    by_cases e2 : k = j
    · subst e2; simp; omega
    · rw [if_neg e2]
      by_cases h8 : j < 8
      · rw [if_pos h8, if_pos h8]
        by_cases h9 : j < k
        · rw [if_pos h9, if_pos (by omega)]
        · rw [if_neg h9, if_neg (by omega)]
      · rw [if_neg h8, if_neg h8]
        by_cases h9 : j - 8 < k
        · rw [if_pos h9, if_pos (by omega)]
        · rw [if_neg h9, if_neg (by omega)]
def u8s (l : List Int) : Array Value := (l.map (fun x => Value.int .u8 x)).toArray
theorem u8s_get (l : List Int) (j : Nat) (h : j < l.length) : (u8s l)[j]? = some (.int .u8 l[j]) := by simp [u8s, h]
theorem u8s_set (l : List Int) (j : Nat) (x : Int) : (u8s l).setIfInBounds j (.int .u8 x) = u8s (l.set j x) := by simp [u8s]
theorem heap_set {W : World} {b j : Nat} {l : List Int} {T : TypeId} (h : W.heap[b]? = some (.cells (u8s l) T (0, 0))) (x : Int) : (W.setCell ⟨b, j, none⟩ (.int .u8 x)).heap[b]? = some (.cells (u8s (l.set j x)) T (0, 0)) := by
  rw [← u8s_set]
  obtain ⟨hlt, hk⟩ := Array.getElem?_eq_some_iff.1 h
  show (W.heap.modify b _)[b]? = _
  rw [Array.getElem?_eq_getElem (by rw [Array.size_modify]; exact hlt), Array.getElem_modify_self, hk]
  rfl
theorem slAt_u8s {W : World} {b : Nat} {l : List Int} {T : TypeId} {S : Nat → Prop} (h : W.heap[b]? = some (.cells (u8s l) T (0, 0))) (hS : S b) (hl : ∀ x ∈ l, 0 ≤ x ∧ x < 256) : SlAt encU8 W S (some ⟨b, 0, none⟩) l := fun _ => by
  refine ⟨b, 0, rfl, hS, fun i x hx => ⟨[.int .u8 x], ?_, rfl, hl x (List.mem_of_getElem? hx)⟩⟩
  intro j v hv
  obtain ⟨hi, rfl⟩ := List.getElem?_eq_some_iff.1 hx
  cases j with
  | zero =>
    simp at hv; subst hv
    have := cell_of_row W b i _ _ _ h
    rw [u8s_get _ _ hi] at this
    simpa [encU8] using this
  | succ j => simp at hv
set_option maxHeartbeats 4000000 in
theorem pair_any (y1 y2 : Int) (w : World) (ha : 0 ≤ y1 ∧ y1 < 18446744073709551616) (hb : 0 ≤ y2 ∧ y2 < 18446744073709551616) :
    Calls Try.prog 87 #[.int .u64 y1, .int .u64 y2] w fun e w' => e = .returned (.int .u64 (pairD y1 y2)) ∧ Below w.heap.size w w' := by
  obtain ⟨ha1, ha2⟩ := ha
  obtain ⟨hb1, hb2⟩ := hb
  have hrow0 : (w.alloc (.cells #[.int .u8 0, .int .u8 0, .int .u8 0, .int .u8 0, .int .u8 0, .int .u8 0, .int .u8 0, .int .u8 0, .int .u8 0, .int .u8 0, .int .u8 0, .int .u8 0, .int .u8 0, .int .u8 0, .int .u8 0, .int .u8 0] 154)).heap[w.heap.size]? = some (.cells (u8s (pairRow y1 y2 0)) 154 (0, 0)) := heap_alloc_new _ _
  have HR0 := Lib.hid hrow0; clear hrow0
  have HB0 : Hid (Below w.heap.size w (w.alloc (.cells #[.int .u8 0, .int .u8 0, .int .u8 0, .int .u8 0, .int .u8 0, .int .u8 0, .int .u8 0, .int .u8 0, .int .u8 0, .int .u8 0, .int .u8 0, .int .u8 0, .int .u8 0, .int .u8 0, .int .u8 0, .int .u8 0] 154))) := ext_alloc (Below.refl _ _)
  go_enter Try.func87, Try.ntmps87
  go_wp2
  go_loopw [7] (fun i wr => ∃ (k : Nat), k ≤ 8 ∧ i = .int .i64 k ∧ Hid (wr.heap[w.heap.size]? = some (.cells (u8s (pairRow y1 y2 k)) 154 (0, 0))) ∧ Hid (Below w.heap.size w wr)) (fun i _ => 8 - (intOf i).toNat)
  case atStart => exact ⟨0, by omega, rfl, HR0.out, HB0.out⟩
  case round =>
    obtain ⟨k, hk, rfl, hrow, hB⟩ := hrel
    by_cases hlt : k < 8
    · have hnn : (0 : Int) ≤ k := by omega
      have hki : (k : Int) < 8 := by omega
      have h16 := pairRow_len y1 y2 k
      have c1 := cell_of_row _ _ k _ _ _ hrow.out
      have c2 := cell_of_row _ _ (8 + k) _ _ _ hrow.out
      rw [u8s_get _ _ (by omega)] at c1 c2
      have hf1 : wr.frozen? ⟨w.heap.size, k, none⟩ = false := by simp [World.frozen?, hrow.out]
      have hf2 : wr.frozen? ⟨w.heap.size, 8 + k, none⟩ = false := by simp [World.frozen?, hrow.out]
      have e1 : ((8 : Int) + k).toNat = 8 + k := by omega
      have HSZ := Lib.hid hB.out.size
      have hsz : w.heap.size < wr.heap.size := (Array.getElem?_eq_some_iff.1 hrow.out).1
      go_upto_region 5 with (fail)
      go_region
      go_wp2
      go_roundw
      case rel =>
        have hs1 := heap_set hrow.out (j := k) (byteOf y1 k)
        have hs2 := heap_set hs1 (j := 8 + k) (byteOf y2 k)
        rw [pairRow_step y1 y2 k hlt] at hs2
        exact ⟨k + 1, hlt, by go_num, hs2, ext_drew ((hB.out.setCell (p := ⟨w.heap.size, k, none⟩) (Nat.le_refl w.heap.size) _).setCell (p := ⟨w.heap.size, 8 + k, none⟩) (Nat.le_refl w.heap.size) _)⟩
      case measure => simp [intOf]; omega
    · have hkk : k = 8 := by omega
      subst hkk
      have hki : ¬ (((8 : Nat) : Int) < 8) := by omega
      have hsz : w.heap.size < wr.heap.size := (Array.getElem?_eq_some_iff.1 hrow.out).1
      have hrow8 := hrow.out
      rw [pairRow_8] at hrow8
      have hl16 : (le8 y1 ++ le8 y2).length = 16 := by simp [le8]
      have HC := Lib.hid (digestBytes_any (some ⟨w.heap.size, 0, none⟩) 16 16 (le8 y1 ++ le8 y2) (pairD y1 y2) wr hl16 rfl (slAt_u8s hrow8 hsz (fun x hx => by
        rcases List.mem_append.1 hx with h | h
        · exact bytes_range y1 8 x h
        · exact bytes_range y2 8 x h)) (by decide))
      clear hrow8 hl16
      go_wp2_with fail
      refine HC.out.mono ?_
      rintro e w1 ⟨rfl, hb1⟩
      go_wp2
      go_ret
      exact ⟨rfl, hB.out.trans (hb1.mono hB.out.size)⟩
end Go.Proofs.Ytjehedfdikdfpaa
namespace Go.Proofs.Ytjehedfdikdfpaa
open Go.RowKit Go.Shelf
attribute [local go_sem] Oper.semAt_some

def U64 (x : Int) : Prop := 0 ≤ x ∧ x < 18446744073709551616
theorem dig_range (bs : List Int) : U64 (dig bs) := by
  have h := bits_within .xor .u64 (bs.foldl dstep d0) (bs.foldl dstep d0 / 4294967296)
  have h1 : IntKind.u64.min = 0 := by decide
  have h2 : IntKind.u64.max = 18446744073709551615 := by decide
  rw [h1, h2] at h
  exact ⟨h.1, by have := h.2; unfold dig dfin; omega⟩
theorem upL_append : ∀ (n : Nat) (a b : List Int), a.length = 2 * n → upL (a ++ b) = upL a ++ upL b
  | 0, [], b, _ => rfl
  | n + 1, x :: y :: a, b, h => by
    show pairD x y :: upL (a ++ b) = pairD x y :: upL a ++ upL b
    rw [upL_append n a b (by simp at h; omega)]; rfl
theorem upL_two (l : List Int) (m : Nat) (h : 2 * m + 1 < l.length) : upL (l.take (2 * (m + 1))) = upL (l.take (2 * m)) ++ [pairD (l[2 * m]'(by omega)) (l[2 * m + 1]'h)] := by
  have e : l.take (2 * (m + 1)) = l.take (2 * m) ++ [l[2 * m]'(by omega), l[2 * m + 1]'h] := by
    rw [show 2 * (m + 1) = 2 * m + 1 + 1 from by omega, List.take_succ_eq_append_getElem h, List.take_succ_eq_append_getElem (by omega : 2 * m < l.length), List.append_assoc]; rfl
  rw [e, upL_append m _ _ (by rw [List.length_take]; omega)]; rfl
theorem upL_one (l : List Int) (m : Nat) (h : 2 * m + 1 = l.length) : upL l = upL (l.take (2 * m)) ++ [l[2 * m]'(by omega)] := by
  have e : l = l.take (2 * m) ++ [l[2 * m]'(by omega)] := by
    conv => lhs; rw [← List.take_length (l := l), ← h, List.take_succ_eq_append_getElem (by omega : 2 * m < l.length)]
  conv => lhs; rw [e]
  rw [upL_append m _ _ (by rw [List.length_take]; omega)]; rfl
theorem upL_take_len (l : List Int) (m : Nat) : (upL (l.take (2 * m))).length ≤ m := by
  rw [upL_len, List.length_take]; omega
theorem limits_any (a b : Int) (r : Int) (w : World) (hr : limN a b = r) : Calls Try.prog 65 #[.int .i64 a, .int .i64 b] w fun e w' => e = .returned (.int .i64 r) ∧ w' = w := by
  unfold limN at hr
  go_enter Try.func65, Try.ntmps65
  by_cases h1 : a < 1
  · rw [if_pos (Or.inl h1)] at hr; subst hr
    go_wp2
    go_ret
    exact ⟨rfl, rfl⟩
  by_cases h2 : 4096 < a
  · rw [if_pos (Or.inr h2)] at hr; subst hr
    go_wp2
    go_ret
    exact ⟨rfl, rfl⟩
  rw [if_neg (by omega)] at hr
  by_cases h3 : b < 1
  · rw [if_pos (Or.inl h3)] at hr; subst hr
    go_wp2
    go_ret
    exact ⟨rfl, rfl⟩
  by_cases h4 : 4096 < b
  · rw [if_pos (Or.inr h4)] at hr; subst hr
    go_wp2
    go_ret
    exact ⟨rfl, rfl⟩
  rw [if_neg (by omega)] at hr; subst hr
  go_wp2
  go_ret
  exact ⟨rfl, rfl⟩
theorem leaves_any (a b : Nat) (w : World) (ha : 1 ≤ a ∧ a ≤ 4096) (hb : 1 ≤ b ∧ b ≤ 4096) : Calls Try.prog 66 #[.int .i64 a, .int .i64 b] w fun e w' => e = .returned (.int .i64 (leavesN a b : Nat)) ∧ w' = w := by
    obtain ⟨h1, h2, h3, h4⟩ : (1 : Int) ≤ a ∧ (1 : Int) ≤ b ∧ (a : Int) ≤ 4096 ∧ (b : Int) ≤ 4096 := by omega
    have hq : ((a : Int) + b - 1) / b = ((leavesN a b : Nat) : Int) := by
      have e : ((a : Int) + b - 1) = ((a + b - 1 : Nat) : Int) := by omega
      rw [e]
      rfl
    have HQ := Lib.hid hq; clear hq
    go_enter Try.func66, Try.ntmps66
    go_wp2
    go_ret
    refine ⟨ret_int ?_, rfl⟩
    exact HQ.out
theorem refLeaves_any (a b : Nat) (w : World) (ha : 1 ≤ a ∧ a ≤ 4096) (hb : 1 ≤ b ∧ b ≤ 4096) : Calls Try.prog 59 #[.int .i64 a, .int .i64 b] w fun e w' => e = .returned (.int .i64 (leavesN a b : Nat)) ∧ w' = w := by
    obtain ⟨h1, h2, h3, h4⟩ : (1 : Int) ≤ a ∧ (1 : Int) ≤ b ∧ (a : Int) ≤ 4096 ∧ (b : Int) ≤ 4096 := by omega
    have hq : ((a : Int) + b - 1) / b = ((leavesN a b : Nat) : Int) := by
      have e : ((a : Int) + b - 1) = ((a + b - 1 : Nat) : Int) := by omega
      rw [e]
      rfl
    have HQ := Lib.hid hq; clear hq
    go_enter Try.func59, Try.ntmps59
    go_wp2
    go_ret
    refine ⟨ret_int ?_, rfl⟩
    exact HQ.out
theorem leaf_lt {n m i : Nat} (hm : 1 ≤ m) (hi : i < leavesN n m) : i * m < n := by
  unfold leavesN at hi
  have := (Nat.le_div_iff_mul_le (show 0 < m by omega)).1 (show i + 1 ≤ (n + m - 1) / m from hi)
  rw [Nat.succ_mul] at this
  omega
theorem leafAt_len (l : List Sec) (m i : Nat) : (leafAt l m i).length = min m (l.length - i * m) := by simp [leafAt]
/-- the sectors of a leaf -/
def LeafRet (l : List Sec) (m i : Nat) (w : World) (e : Ending) (w' : World) : Prop := (∃ A' c', e = .returned (.slice A' (leafAt l m i).length c') ∧ SlAt encSec w (Bl w.heap.size) A' (leafAt l m i)) ∧ w' = w
theorem leafRet_mk {l : List Sec} {m i k c' : Nat} {A' : Option Addr} {w : World} (h : SlAt encSec w (Bl w.heap.size) A' (leafAt l m i)) (hk : k = (leafAt l m i).length) : LeafRet l m i w (.returned (.slice A' k c')) w := ⟨⟨A', c', by rw [hk], h⟩, rfl⟩
theorem refSectors11_any (A : Option Addr) (c n : Nat) (l : List Sec) (m i : Nat) (w : World) (hn : l.length = n) (hi : i * m < n) (h1 : SlAt encSec w (Bl w.heap.size) A l) (hc : n ≤ c ∧ c ≤ maxLen) (hl : n ≤ 100000) (hm : m ≤ 100000) :
    Calls Try.prog 63 #[.slice A n c, .int .i64 m, .int .i64 i] w (LeafRet l m i w) := by
  subst hn
  obtain ⟨b, off, rfl, hb⟩ := h1.some_ (fun e => by rw [e] at hi; simp at hi)
  have HS : Hid (SlAt encSec w (Bl w.heap.size) (some ⟨b, off + i * m * 8, none⟩) (leafAt l m i)) := (h1.drop (k := i * m)).take
  have HL := Lib.hid (leafAt_len l m i)
  clear h1
  obtain ⟨hc1, hc2⟩ := hc
  unfold maxLen at hc2
  obtain ⟨q, hq⟩ : ∃ q, i * m = q := ⟨_, rfl⟩
  rw [hq] at hi HL HS
  have hq2 : (i : Int) * (m : Int) = q := by rw [← hq]; simp
  have e0 : (0 : Int) ≤ q := by omega
  have e1 : (q : Int) < l.length := by omega
  have e2 : (q : Int) ≤ c := by omega
  have e3 : ((l.length : Nat) : Int) ≤ c := by omega
  have e4 : (m : Int) ≤ 100000 := by omega
  have e5 : ((l.length : Nat) : Int) ≤ 100000 := by omega
  go_enter Try.func63, Try.ntmps63
  go_wp2
  · go_ret
    exact leafRet_mk HS.out (by rw [HL.out]; omega)
  · go_ret
    exact leafRet_mk HS.out (by rw [HL.out]; omega)
end Go.Proofs.Ytjehedfdikdfpaa
namespace Go.Proofs.Ytjehedfdikdfpaa
open Go.RowKit Go.Shelf
attribute [local go_sem] Oper.semAt_some

set_option maxRecDepth 100000 in
set_option maxHeartbeats 4000000 in
theorem refAbove_any (A : Option Addr) (c n : Nat) (l : List Int) (w : World) (hn : l.length = n) (h1 : SlAt encU64 w (Bl w.heap.size) A l) (hl : n ≤ 100000) :
    Calls Try.prog 85 #[.slice A n c] w (RetSl encU64 (upL l) w) := by
    subst hn
    have H1 : Hid (∀ w', Below w.heap.size w w' → SlAt encU64 w' (Bl w.heap.size) A l) := fun w' hb => h1.below hb
    clear h1
    go_enter Try.func85, Try.ntmps85
    go_wp2
    go_loopw [3, 4] (fun v i wr => ∃ (m : Nat) (B : Option Addr) (vc : Nat) (out : List Int), 2 * m ≤ l.length + 1 ∧ i = .int .i64 ((2 * m : Nat) : Int) ∧ v = .slice B out.length vc ∧ Below w.heap.size w wr ∧ Hid (out = upL (l.take (2 * m))) ∧ Hid (OwnW encU64 wr w.heap.size w.heap.size 77 (.slice B out.length vc) out)) (fun _ i _ => l.length + 2 - (intOf i).toNat)
    case atStart => exact ⟨0, none, 0, [], by omega, rfl, rfl, Below.refl _ _, rfl, OwnW.nil_⟩
    case round =>
      obtain ⟨wo, rfl⟩ : ∃ wo : World, wo = wr := ⟨_, rfl⟩
      obtain ⟨m, B, vc, out, hm, rfl, rfl, hB, hout, hown⟩ := hrel
      have hol : out.length ≤ m := by rw [hout.out]; exact upL_take_len l m
      obtain ⟨k, hk⟩ : ∃ k, 2 * m = k := ⟨_, rfl⟩
      by_cases hlt : 2 * m < l.length
      · by_cases hlt2 : 2 * m + 1 < l.length
        · obtain ⟨b, off, rfl, hb, g0, q1, q2⟩ := (H1.out _ hB).u64 hlt
          obtain ⟨b', off', he, _, g1, r1, r2⟩ := (H1.out _ hB).u64 hlt2
          injection he with he
          injection he with he1 he2
          subst he1 he2
          have hup := Lib.hid (upL_two l m hlt2)
          obtain ⟨y1, hy1⟩ : ∃ y, Hid (y = l[2 * m]'hlt) := ⟨_, Lib.hid rfl⟩
          obtain ⟨y2, hy2⟩ : ∃ y, Hid (y = l[2 * m + 1]'hlt2) := ⟨_, Lib.hid rfl⟩
          rw [← hy1.out] at g0 q1 q2 hup
          rw [← hy2.out] at g1 r1 r2 hup
          rw [hk] at g0 g1 hlt hlt2 ⊢
          have hnn : (0 : Int) ≤ k := by omega
          have hki : (k : Int) < l.length := by omega
          have hki2 : (k : Int) + 1 < l.length := by omega
          have hl2 : ((l.length : Nat) : Int) ≤ 9223372036854775000 := by omega
          have HC := Lib.hid (fun w1 => refPair_any y1 y2 w1 ⟨q1, q2⟩ ⟨r1, r2⟩)
          have HRG := Lib.hid (dig_range (le8 y1 ++ le8 y2))
          clear q1 q2 r1 r2
          have hsz := hB.size
          have hbw : b < wo.heap.size := Nat.lt_of_lt_of_le hb hsz
          have HCE : Hid (∀ w', Below w.heap.size w w' → w'.cell? ⟨b, off + k, none⟩ = some (.int .u64 y1) ∧ w'.cell? ⟨b, off + (k + 1), none⟩ = some (.int .u64 y2)) := fun w' hw => ⟨((hw.cell (p := ⟨b, _, none⟩) hb).trans (hB.cell (p := ⟨b, _, none⟩) hb).symm).trans g0, ((hw.cell (p := ⟨b, _, none⟩) hb).trans (hB.cell (p := ⟨b, _, none⟩) hb).symm).trans g1⟩
          have hc0 := HCE.out wo.drew hB.drew
          go_upto_region 6 with (fail)
          have e0 : IntKind.i64.wrap ((k : Int) + 1) = (k : Int) + 1 := IntWalk.i64_in _ (by omega)
          have e2 : (0 : Int) ≤ (k : Int) + 1 := by omega
          have e1 : ((k : Int) + 1).toNat = k + 1 := by omega
          go_region_held3 (fun w' => w'.cell? ⟨b, off + k, none⟩ = some (.int .u64 y1) ∧ w'.cell? ⟨b, off + (k + 1), none⟩ = some (.int .u64 y2)) (first | exact hc0 | exact HCE.out _ hx6 | exact HCE.out _ (ext_alloc hx6) | exact HCE.out _ hx7) (first | (go_at_call 94; refine (HC.out _).mono ?_; rintro e wp ⟨rfl, hbp⟩; have hx5 : Below wo.heap.size wo wp := bUn hbp; have hs5 := hx5.size; have hx6 : Below w.heap.size w wp := hB.trans (hx5.mono hsz); have HO1 := Lib.hid (Own.alloc (OwnW.below hown.out hx5) (fun _ h => h.1.2) (.cells #[.int .u64 (pairD y1 y2)] 77))) | (refine step_app1 (E := encU64) tyU64s rfl _ _ rfl rfl HO1.out (pairD y1 y2) [.int .u64 (pairD y1 y2)] rfl ⟨rfl, HRG.out⟩ (heap_alloc_new _ _) (fun _ h => by simp; have := h.1.2; omega) (by simp; omega) (by unfold maxLen; omega) (by omega) ?_; intro A' c5 w5 hown5 hg5 hat5; have hx7 : Below w.heap.size w w5 := (ext_alloc (o := .cells #[.int .u64 (pairD y1 y2)] 77) hx6).grown hg5 (by simp; omega) (fun g h => (hown.out.lt g h).1)))
          clear e0 e1 e2 hc0
          have hlt1 : ∀ g, (Value.slice B out.length vc).ownBlock = some g → g < wp.heap.size := fun g hg => Nat.lt_of_lt_of_le (hown.out.lt g hg).2 hs5
          have hok5 := Lib.hid (OwnW.app (hown5.more (S' := fun b => Nw w.heap.size (wp.alloc (.cells #[.int .u64 (pairD y1 y2)] 77)).heap.size b ∧ (Value.slice B out.length vc).ownBlock ≠ some b) (fun b hb => ⟨hb.1.mono (Nat.le_refl _) (by simp), hb.2⟩) (OwnW_new hown5 hat5 hlt1 (by simp))) hg5 hat5)
          clear hown5 hg5 hat5 hlt1 hbp hx5 hx6 hs5 g0 g1
          go_wp2
          go_roundw
          case rel => exact ⟨m + 1, A', c5, out ++ [pairD y1 y2], by omega, by rw [← hk]; go_num, by simp, hx7, by rw [Hid, hup.out, hout.out], by have := hok5.out; simpa [Hid] using this⟩
          case measure => simp [intOf]; omega
        · have hkl : 2 * m + 1 = l.length := by omega
          obtain ⟨b, off, rfl, hb, g0, q1, q2⟩ := (H1.out _ hB).u64 hlt
          have hup := Lib.hid (upL_one l m hkl)
          obtain ⟨y1, hy1⟩ : ∃ y, Hid (y = l[2 * m]'hlt) := ⟨_, Lib.hid rfl⟩
          rw [← hy1.out] at g0 q1 q2 hup
          rw [hk] at g0 hlt hkl ⊢
          have hnn : (0 : Int) ≤ k := by omega
          have hki : (k : Int) < l.length := by omega
          have hki2 : ((l.length : Nat) : Int) ≤ (k : Int) + 1 := by omega
          have hl2 : ((l.length : Nat) : Int) ≤ 9223372036854775000 := by omega
          have hsz := hB.size
          have HO1 := Lib.hid (Own.alloc hown.out (fun _ h => h.1.2) (.cells #[.int .u64 y1] 77))
          have HRD : Hid (encU64.rd (wo.alloc (.cells #[.int .u64 y1] 77)) (fun b => Nw w.heap.size wo.heap.size b ∧ (Value.slice B out.length vc).ownBlock ≠ some b) [.int .u64 y1] y1) := ⟨rfl, q1, q2⟩
          clear q1 q2
          go_wp2_with (at_builtin; refine Hid.out ?_)
          change wpList _ _ _ _ _ _
          refine wpList_app1 (E := encU64) tyU64s rfl _ _ rfl rfl HO1.out y1 _ rfl HRD.out (heap_alloc_new _ _) (fun _ h => by simp; have := h.1.2; omega) (by simp; omega) (by unfold maxLen; omega) (by omega) ?_
          intro A' c' w5 hown5 hg5 hat5
          have hlt1 : ∀ g, (Value.slice B out.length vc).ownBlock = some g → g < wo.heap.size := fun g hg => (hown.out.lt g hg).2
          have hok5 := Lib.hid (OwnW.app (hown5.more (S' := fun b => Nw w.heap.size (wo.alloc (.cells #[.int .u64 y1] 77)).heap.size b ∧ (Value.slice B out.length vc).ownBlock ≠ some b) (fun b hb => ⟨hb.1.mono (Nat.le_refl _) (by simp), hb.2⟩) (OwnW_new hown5 hat5 hlt1 (by simp))) hg5 hat5)
          have hB5 := Lib.hid ((ext_alloc (o := .cells #[.int .u64 y1] 77) hB).grown hg5 (by simp; omega) (fun g h => (hown.out.lt g h).1))
          clear hown5 hg5 hat5 hlt1 g0
          go_wp2
          go_roundw
          case rel => exact ⟨m + 1, A', c', out ++ [y1], by omega, by rw [← hk]; go_num, by simp, hB5.out, by rw [Hid, hout.out, ← hup.out, List.take_of_length_le (by omega)], by have := hok5.out; simpa [Hid] using this⟩
          case measure => simp [intOf]; omega
      · rw [hk] at hlt ⊢
        have hki : ¬ ((k : Int) < l.length) := by omega
        obtain ⟨_, p1, p2, p3⟩ := hown.out.parts
        have P3 := Lib.hid p3; clear p3
        have hout2 : Hid (out = upL l) := by rw [Hid, hout.out, List.take_of_length_le (by omega)]
        go_wp2
        go_ret
        rw [← hout2.out]
        exact ⟨B, vc, rfl, p1, p2, P3.out, hB⟩
set_option maxRecDepth 100000 in
set_option maxHeartbeats 4000000 in
theorem up_any (A : Option Addr) (c n : Nat) (l : List Int) (w : World) (hn : l.length = n) (h1 : SlAt encU64 w (Bl w.heap.size) A l) (hl : n ≤ 100000) :
    Calls Try.prog 86 #[.slice A n c, .func (.func 87) #[] #[]] w (RetSl encU64 (upL l) w) := by
    subst hn
    have H1 : Hid (∀ w', Below w.heap.size w w' → SlAt encU64 w' (Bl w.heap.size) A l) := fun w' hb => h1.below hb
    clear h1
    go_enter Try.func86, Try.ntmps86
    go_wp2
    go_loopw [5, 6] (fun v i wr => ∃ (m : Nat) (B : Option Addr) (vc : Nat) (out : List Int), 2 * m ≤ l.length + 1 ∧ i = .int .i64 ((2 * m : Nat) : Int) ∧ v = .slice B out.length vc ∧ Below w.heap.size w wr ∧ Hid (out = upL (l.take (2 * m))) ∧ Hid (OwnW encU64 wr w.heap.size w.heap.size 77 (.slice B out.length vc) out)) (fun _ i _ => l.length + 2 - (intOf i).toNat)
    case atStart => exact ⟨0, none, 0, [], by omega, rfl, rfl, Below.refl _ _, rfl, OwnW.nil_⟩
    case round =>
      obtain ⟨wo, rfl⟩ : ∃ wo : World, wo = wr := ⟨_, rfl⟩
      obtain ⟨m, B, vc, out, hm, rfl, rfl, hB, hout, hown⟩ := hrel
      have hol : out.length ≤ m := by rw [hout.out]; exact upL_take_len l m
      obtain ⟨k, hk⟩ : ∃ k, 2 * m = k := ⟨_, rfl⟩
      by_cases hlt : 2 * m < l.length
      · by_cases hlt2 : 2 * m + 1 < l.length
        · obtain ⟨b, off, rfl, hb, g0, q1, q2⟩ := (H1.out _ hB).u64 hlt
          obtain ⟨b', off', he, _, g1, r1, r2⟩ := (H1.out _ hB).u64 hlt2
          injection he with he
          injection he with he1 he2
          subst he1 he2
          have hup := Lib.hid (upL_two l m hlt2)
          obtain ⟨y1, hy1⟩ : ∃ y, Hid (y = l[2 * m]'hlt) := ⟨_, Lib.hid rfl⟩
          obtain ⟨y2, hy2⟩ : ∃ y, Hid (y = l[2 * m + 1]'hlt2) := ⟨_, Lib.hid rfl⟩
          rw [← hy1.out] at g0 q1 q2 hup
          rw [← hy2.out] at g1 r1 r2 hup
          rw [hk] at g0 g1 hlt hlt2 ⊢
          have hnn : (0 : Int) ≤ k := by omega
          have hki : (k : Int) < l.length := by omega
          have hki2 : (k : Int) + 1 < l.length := by omega
          have hl2 : ((l.length : Nat) : Int) ≤ 9223372036854775000 := by omega
          have HC := Lib.hid (fun w1 => pair_any y1 y2 w1 ⟨q1, q2⟩ ⟨r1, r2⟩)
          have HRG := Lib.hid (dig_range (le8 y1 ++ le8 y2))
          clear q1 q2 r1 r2
          have hsz := hB.size
          have hbw : b < wo.heap.size := Nat.lt_of_lt_of_le hb hsz
          have HCE : Hid (∀ w', Below w.heap.size w w' → w'.cell? ⟨b, off + k, none⟩ = some (.int .u64 y1) ∧ w'.cell? ⟨b, off + (k + 1), none⟩ = some (.int .u64 y2)) := fun w' hw => ⟨((hw.cell (p := ⟨b, _, none⟩) hb).trans (hB.cell (p := ⟨b, _, none⟩) hb).symm).trans g0, ((hw.cell (p := ⟨b, _, none⟩) hb).trans (hB.cell (p := ⟨b, _, none⟩) hb).symm).trans g1⟩
          have hc0 := HCE.out wo.drew hB.drew
          go_upto_region 6 with (fail)
          have e0 : IntKind.i64.wrap ((k : Int) + 1) = (k : Int) + 1 := IntWalk.i64_in _ (by omega)
          have e2 : (0 : Int) ≤ (k : Int) + 1 := by omega
          have e1 : ((k : Int) + 1).toNat = k + 1 := by omega
          go_region_held3 (fun w' => w'.cell? ⟨b, off + k, none⟩ = some (.int .u64 y1) ∧ w'.cell? ⟨b, off + (k + 1), none⟩ = some (.int .u64 y2)) (first | exact hc0 | exact HCE.out _ hx6 | exact HCE.out _ (ext_alloc hx6) | exact HCE.out _ hx7) (first | (go_at_call 87; refine (HC.out _).mono ?_; rintro e wp ⟨rfl, hbp⟩; have hx5 : Below wo.heap.size wo wp := bUn hbp; have hs5 := hx5.size; have hx6 : Below w.heap.size w wp := hB.trans (hx5.mono hsz); have HO1 := Lib.hid (Own.alloc (OwnW.below hown.out hx5) (fun _ h => h.1.2) (.cells #[.int .u64 (pairD y1 y2)] 77))) | (refine step_app1 (E := encU64) tyU64s rfl _ _ rfl rfl HO1.out (pairD y1 y2) [.int .u64 (pairD y1 y2)] rfl ⟨rfl, HRG.out⟩ (heap_alloc_new _ _) (fun _ h => by simp; have := h.1.2; omega) (by simp; omega) (by unfold maxLen; omega) (by omega) ?_; intro A' c5 w5 hown5 hg5 hat5; have hx7 : Below w.heap.size w w5 := (ext_alloc (o := .cells #[.int .u64 (pairD y1 y2)] 77) hx6).grown hg5 (by simp; omega) (fun g h => (hown.out.lt g h).1)))
          clear e0 e1 e2 hc0
          have hlt1 : ∀ g, (Value.slice B out.length vc).ownBlock = some g → g < wp.heap.size := fun g hg => Nat.lt_of_lt_of_le (hown.out.lt g hg).2 hs5
          have hok5 := Lib.hid (OwnW.app (hown5.more (S' := fun b => Nw w.heap.size (wp.alloc (.cells #[.int .u64 (pairD y1 y2)] 77)).heap.size b ∧ (Value.slice B out.length vc).ownBlock ≠ some b) (fun b hb => ⟨hb.1.mono (Nat.le_refl _) (by simp), hb.2⟩) (OwnW_new hown5 hat5 hlt1 (by simp))) hg5 hat5)
          clear hown5 hg5 hat5 hlt1 hbp hx5 hx6 hs5 g0 g1
          go_wp2
          go_roundw
          case rel => exact ⟨m + 1, A', c5, out ++ [pairD y1 y2], by omega, by rw [← hk]; go_num, by simp, hx7, by rw [Hid, hup.out, hout.out], by have := hok5.out; simpa [Hid] using this⟩
          case measure => simp [intOf]; omega
        · have hkl : 2 * m + 1 = l.length := by omega
          obtain ⟨b, off, rfl, hb, g0, q1, q2⟩ := (H1.out _ hB).u64 hlt
          have hup := Lib.hid (upL_one l m hkl)
          obtain ⟨y1, hy1⟩ : ∃ y, Hid (y = l[2 * m]'hlt) := ⟨_, Lib.hid rfl⟩
          rw [← hy1.out] at g0 q1 q2 hup
          rw [hk] at g0 hlt hkl ⊢
          have hnn : (0 : Int) ≤ k := by omega
          have hki : (k : Int) < l.length := by omega
          have hki2 : ((l.length : Nat) : Int) ≤ (k : Int) + 1 := by omega
          have hl2 : ((l.length : Nat) : Int) ≤ 9223372036854775000 := by omega
          have hsz := hB.size
          have HO1 := Lib.hid (Own.alloc hown.out (fun _ h => h.1.2) (.cells #[.int .u64 y1] 77))
          have HRD : Hid (encU64.rd (wo.alloc (.cells #[.int .u64 y1] 77)) (fun b => Nw w.heap.size wo.heap.size b ∧ (Value.slice B out.length vc).ownBlock ≠ some b) [.int .u64 y1] y1) := ⟨rfl, q1, q2⟩
          clear q1 q2
          go_wp2_with (at_builtin; refine Hid.out ?_)
          change wpList _ _ _ _ _ _
          refine wpList_app1 (E := encU64) tyU64s rfl _ _ rfl rfl HO1.out y1 _ rfl HRD.out (heap_alloc_new _ _) (fun _ h => by simp; have := h.1.2; omega) (by simp; omega) (by unfold maxLen; omega) (by omega) ?_
          intro A' c' w5 hown5 hg5 hat5
          have hlt1 : ∀ g, (Value.slice B out.length vc).ownBlock = some g → g < wo.heap.size := fun g hg => (hown.out.lt g hg).2
          have hok5 := Lib.hid (OwnW.app (hown5.more (S' := fun b => Nw w.heap.size (wo.alloc (.cells #[.int .u64 y1] 77)).heap.size b ∧ (Value.slice B out.length vc).ownBlock ≠ some b) (fun b hb => ⟨hb.1.mono (Nat.le_refl _) (by simp), hb.2⟩) (OwnW_new hown5 hat5 hlt1 (by simp))) hg5 hat5)
          have hB5 := Lib.hid ((ext_alloc (o := .cells #[.int .u64 y1] 77) hB).grown hg5 (by simp; omega) (fun g h => (hown.out.lt g h).1))
          clear hown5 hg5 hat5 hlt1 g0
          go_wp2
          go_roundw
          case rel => exact ⟨m + 1, A', c', out ++ [y1], by omega, by rw [← hk]; go_num, by simp, hB5.out, by rw [Hid, hout.out, ← hup.out, List.take_of_length_le (by omega)], by have := hok5.out; simpa [Hid] using this⟩
          case measure => simp [intOf]; omega
      · rw [hk] at hlt ⊢
        have hki : ¬ ((k : Int) < l.length) := by omega
        obtain ⟨_, p1, p2, p3⟩ := hown.out.parts
        have P3 := Lib.hid p3; clear p3
        have hout2 : Hid (out = upL l) := by rw [Hid, hout.out, List.take_of_length_le (by omega)]
        go_wp2
        go_ret
        rw [← hout2.out]
        exact ⟨B, vc, rfl, p1, p2, P3.out, hB⟩
end Go.Proofs.Ytjehedfdikdfpaa
namespace Go.Proofs.Ytjehedfdikdfpaa
open Go.RowKit Go.Shelf
attribute [local go_sem] Oper.semAt_some

theorem tyLvls : SliceTy Try.prog 22 72 1 24 := sliceTy_mk (z := .slice none 0 0) Try.underlying22 (by kernel_rfl) rfl (by decide)
/-- blocks of S0, or new ones -/
def LvT (S0 : Nat → Prop) (n₀ : Nat) (W : World) (g : Nat) : Prop := S0 g ∨ Nw n₀ W.heap.size g
theorem LvT.mono {S0 : Nat → Prop} {n₀ g : Nat} {W W' : World} (h : LvT S0 n₀ W g) (hs : W.heap.size ≤ W'.heap.size) : LvT S0 n₀ W' g := h.imp id (fun h => h.mono (Nat.le_refl _) hs)
/-- a tree in memory: all that it reads in blocks of S0, or in new ones -/
def TreeRetS (t : Tr) (S0 : Nat → Prop) (w : World) (e : Ending) (w' : World) : Prop :=
  ∃ A c, e = .returned (.agg #[.int .i64 t.1, .int .i64 t.2.1, .slice A t.2.2.length c]) ∧ t.2.2.length ≤ c ∧ c ≤ maxLen ∧ SlAt (encSl encU64) w' (LvT S0 w.heap.size w') A t.2.2 ∧ Below w.heap.size w w'
/-- a tree in memory: all that it reads in blocks from lo on -/
def TreeRet (t : Tr) (lo : Nat) (w : World) (e : Ending) (w' : World) : Prop :=
  ∃ A c, e = .returned (.agg #[.int .i64 t.1, .int .i64 t.2.1, .slice A t.2.2.length c]) ∧ t.2.2.length ≤ c ∧ c ≤ maxLen ∧ SlAt (encSl encU64) w' (Nw lo w'.heap.size) A t.2.2 ∧ Below w.heap.size w w'
theorem TreeRetS.lo {t : Tr} {lo : Nat} {w w' : World} {e : Ending} (h : TreeRetS t (Nw lo w.heap.size) w e w') (hlo : lo ≤ w.heap.size) : TreeRet t lo w e w' := by
  obtain ⟨A, c, h1, h2, h3, h4, h5⟩ := h
  exact ⟨A, c, h1, h2, h3, h4.more (fun g hg => hg.elim (fun h => h.mono (Nat.le_refl _) h5.size) (fun h => h.mono hlo (Nat.le_refl _))), h5⟩
theorem levF_len : ∀ n l, (levF n l).length ≤ n + 1
  | 0, l => by simp [levF]
  | n + 1, l => by
    show (if l.length ≤ 1 then [l] else l :: levF n (upL l)).length ≤ _
    split
    · simp
    · have := levF_len n (upL l); simp; omega
theorem levels_len (l : List Int) : (levels l).length ≤ l.length + 1 := levF_len _ _
def slLen : Value → Nat
  | .slice _ n _ => n
  | _ => 0
/-- where the levels lie: neither in the tree's variables, nor in the list's own block -/
def LvS (S0 : Nat → Prop) (n₀ b tb : Nat) (W : World) (v : Value) (g : Nat) : Prop := LvT S0 n₀ W g ∧ g ≠ b ∧ g ≠ tb ∧ v.ownBlock ≠ some g
/-- the state of a loop over levels: the result's variable, the tree's, the levels so far, the level at hand -/
def LvI (S0 : Nat → Prop) (n₀ b tb : Nat) (s lf : Int) (B : Option Addr) (vc : Nat) (app : List (List Int)) (A : Option Addr) (c : Nat) (cur : List Int) (wr : World) : Prop :=
  wr.heap[b]? = some (.cells #[.int .i64 0, .int .i64 0, .slice none 0 0] 24 (0, 0)) ∧ wr.heap[tb]? = some (.cells #[.int .i64 s, .int .i64 lf, .slice B app.length vc] 24 (0, 0)) ∧
  Own (encSl encU64) wr n₀ 72 (LvS S0 n₀ b tb wr (.slice B app.length vc)) (.slice B app.length vc) app ∧ SlAt encU64 wr (LvS S0 n₀ b tb wr (.slice B app.length vc)) A cur ∧ cur.length ≤ c ∧ c ≤ maxLen ∧
  (∀ g, (Value.slice B app.length vc).ownBlock = some g → g ≠ b ∧ g ≠ tb) ∧ b ≠ tb ∧ n₀ ≤ b ∧ n₀ ≤ tb ∧ (∀ g, S0 g → g < n₀)
theorem LvI.slt {S0 : Nat → Prop} {n₀ b tb : Nat} {s lf : Int} {B A : Option Addr} {vc c : Nat} {app : List (List Int)} {cur : List Int} {W : World} (h : LvI S0 n₀ b tb s lf B vc app A c cur W) {v : Value} {g : Nat} (hg : LvS S0 n₀ b tb W v g) : g < W.heap.size := by
  obtain ⟨k1, k2, k3, k4, k5, k6, k7, k8, k9, ka, kb⟩ := h
  have hb0 : b < W.heap.size := (Array.getElem?_eq_some_iff.1 k1).1
  exact hg.1.elim (fun h => by have := kb g h; omega) (fun h => h.2)
theorem LvI.app {S0 : Nat → Prop} {n₀ b tb : Nat} {s lf : Int} {B A A' : Option Addr} {vc c c5 : Nat} {app : List (List Int)} {cur : List Int} {W w5 : World} {o : Obj} (h : LvI S0 n₀ b tb s lf B vc app A c cur W)
    (hown5 : Own (encSl encU64) w5 n₀ 72 (LvS S0 n₀ b tb W (.slice B app.length vc)) (.slice A' (app.length + 1) c5) (app ++ [cur])) (hg5 : (W.alloc o).grownBy w5 (Value.slice B app.length vc).ownBlock)
    (hat5 : (Value.slice A' (app.length + 1) c5).ownBlock = (Value.slice B app.length vc).ownBlock ∨ (Value.slice A' (app.length + 1) c5).ownBlock = some (W.alloc o).heap.size) :
    LvI S0 n₀ b tb s lf A' c5 (app ++ [cur]) A c cur (w5.setCell ⟨tb, 2, none⟩ (.slice A' (app.length + 1) c5)) ∧ Below n₀ W (w5.setCell ⟨tb, 2, none⟩ (.slice A' (app.length + 1) c5)) := by
  have hslt : ∀ g, LvS S0 n₀ b tb W (.slice B app.length vc) g → g < W.heap.size := fun g hg => h.slt hg
  obtain ⟨k1, k2, k3, k4, k5, k6, k7, k8, k9, ka, kb⟩ := h
  have hb1 : tb < W.heap.size := (Array.getElem?_eq_some_iff.1 k2).1
  have hb0 : b < W.heap.size := (Array.getElem?_eq_some_iff.1 k1).1
  have hs1 := hg5.size
  rw [World.size_alloc] at hs1 hat5
  have hl := k3.lt
  have hblk : ∀ g, g < W.heap.size → (Value.slice B app.length vc).ownBlock ≠ some g → w5.heap[g]? = W.heap[g]? := fun g hg hne => (hg5.block g (by rw [World.size_alloc]; omega) (fun e => hne e.symm)).trans (Below.heap_alloc _ _ _ hg)
  have hset : ∀ g, g ≠ tb → (w5.setCell ⟨tb, 2, none⟩ (.slice A' (app.length + 1) c5)).heap[g]? = w5.heap[g]? := fun g hg => Below.heap_setCell _ _ _ _ hg
  have hsz : (w5.setCell ⟨tb, 2, none⟩ (.slice A' (app.length + 1) c5)).heap.size = w5.heap.size := by simp [World.setCell]
  have hal : (app ++ [cur]).length = app.length + 1 := by simp
  have hSS : ∀ g, LvS S0 n₀ b tb W (.slice B app.length vc) g → LvS S0 n₀ b tb (w5.setCell ⟨tb, 2, none⟩ (.slice A' (app.length + 1) c5)) (.slice A' (app.length + 1) c5) g := fun g hg => by
    have hgl := hslt g hg
    obtain ⟨h1, h2, h3, h4⟩ := hg
    refine ⟨h1.mono (by rw [hsz]; omega), h2, h3, fun e => ?_⟩
    rcases hat5 with e5 | e5
    · exact h4 (by rw [← e5]; exact e)
    · rw [e5] at e; injection e with e; omega
  have hnew : ∀ g, (Value.slice A' (app.length + 1) c5).ownBlock = some g → g ≠ b ∧ g ≠ tb := fun g e => by
    rcases hat5 with e5 | e5
    · exact k7 g (by rw [← e5]; exact e)
    · rw [e5] at e; injection e with e; omega
  refine ⟨⟨?_, ?_, ?_, ?_, k5, k6, by rw [hal]; exact hnew, k8, k9, ka, kb⟩, ?_⟩
  · exact (hset b k8).trans ((hblk b hb0 (fun e => (k7 b e).1 rfl)).trans k1)
  · rw [hal]; exact blk3_set ((hblk tb hb1 (fun e => (k7 tb e).2 rfl)).trans k2) _
  · rw [hal]
    have h5 := hown5.more hSS (fun g e hS => hS.2.2.2 e)
    refine h5.blk (fun g hg => hset g ?_)
    rcases hg with hg | hg
    · exact hg.2.2.1
    · exact (hnew g hg).2
  · rw [hal]
    exact (k4.blk (fun g hg => (hset g hg.2.2.1).trans (hblk g (hslt g hg) hg.2.2.2))).more hSS
  · exact (((Below.refl n₀ W).alloc (by omega) o).grown hg5 (by simp; omega) (fun g e => (hl g e).1)).setCell (p := ⟨tb, 2, none⟩) ka _
theorem LvI.next {S0 : Nat → Prop} {n₀ b tb : Nat} {s lf : Int} {B A A2 : Option Addr} {vc c c2 : Nat} {app : List (List Int)} {cur cur2 : List Int} {W W' : World} (h : LvI S0 n₀ b tb s lf B vc app A c cur W) (hb : Below W.heap.size W W')
    (h2 : SlAt encU64 W' (Nw W.heap.size W'.heap.size) A2 cur2) (h3 : cur2.length ≤ c2) (h4 : c2 ≤ maxLen) : LvI S0 n₀ b tb s lf B vc app A2 c2 cur2 W' := by
  have hslt : ∀ g, LvS S0 n₀ b tb W (.slice B app.length vc) g → g < W.heap.size := fun g hg => h.slt hg
  obtain ⟨k1, k2, k3, k4, k5, k6, k7, k8, k9, ka, kb⟩ := h
  have hb1 : tb < W.heap.size := (Array.getElem?_eq_some_iff.1 k2).1
  have hb0 : b < W.heap.size := (Array.getElem?_eq_some_iff.1 k1).1
  have hsz := hb.size
  have hl := k3.lt
  refine ⟨(hb.block b hb0).trans k1, (hb.block _ hb1).trans k2, ?_, h2.more (fun g hg => ⟨Or.inr ⟨by have := hg.1; omega, hg.2⟩, by have := hg.1; omega, by have := hg.1; omega, fun e => by have := (hl g e).2; have := hg.1; omega⟩), h3, h4, k7, k8, k9, ka, kb⟩
  exact (k3.below hb hslt).more (fun g hg => ⟨hg.1.mono hsz, hg.2⟩) (fun g e hS => hS.2.2.2 e)
theorem LvI.out_ {S0 : Nat → Prop} {n₀ b tb : Nat} {s lf : Int} {B A : Option Addr} {vc c : Nat} {app : List (List Int)} {cur : List Int} {W W' : World} (h : LvI S0 n₀ b tb s lf B vc app A c cur W) (hsz : W'.heap.size = W.heap.size) (hb : ∀ g, g ≠ b → W'.heap[g]? = W.heap[g]?) :
    app.length ≤ vc ∧ vc ≤ maxLen ∧ SlAt (encSl encU64) W' (LvT S0 n₀ W') B app := by
  obtain ⟨k1, k2, k3, k4, k5, k6, k7, k8, k9, ka, kb⟩ := h
  have hl := k3.lt
  obtain ⟨A1, c1, e, h1, h2, h3⟩ := k3.reads (S' := fun g => LvT S0 n₀ W g ∧ g ≠ b) (fun g hg => ⟨hg.1, hg.2.1⟩) (fun g e => ⟨Or.inr ⟨(hl g e).1, (hl g e).2⟩, (k7 g e).1⟩)
  simp only [List.cons.injEq, and_true] at e
  injection e with e1 e2 e3
  subst e1 e3
  exact ⟨h1, h2, (h3.blk (fun g hg => hb g hg.2)).more (fun g hg => hg.1.mono (by omega))⟩
theorem blk3_all {w : World} {b : Nat} {T : TypeId} {c0 c1 c2 : Value} (h : w.heap[b]? = some (.cells #[c0, c1, c2] T (0, 0))) (u v t : Value) : (((w.setCell ⟨b, 0, none⟩ u).setCell ⟨b, 1, none⟩ v).setCell ⟨b, 2, none⟩ t).heap[b]? = some (.cells #[u, v, t] T (0, 0)) := by
  simp [World.setCell, Array.getElem?_modify, h]
theorem blk3_other {w : World} {b g : Nat} (h : g ≠ b) (u v t : Value) : (((w.setCell ⟨b, 0, none⟩ u).setCell ⟨b, 1, none⟩ v).setCell ⟨b, 2, none⟩ t).heap[g]? = w.heap[g]? :=
  (Below.heap_setCell _ ⟨b, 2, none⟩ _ _ h).trans ((Below.heap_setCell _ ⟨b, 1, none⟩ _ _ h).trans (Below.heap_setCell _ ⟨b, 0, none⟩ _ _ h))
set_option maxHeartbeats 4000000 in
theorem above_anyS (A : Option Addr) (c n : Nat) (S0 : Nat → Prop) (s lf : Int) (l : List Int) (w : World) (hn : l.length = n) (h0 : 1 ≤ n) (hlo : ∀ g, S0 g → g < w.heap.size) (hc : n ≤ c ∧ c ≤ maxLen) (h1 : SlAt encU64 w S0 A l) (hl : n ≤ 100000) :
    Calls Try.prog 67 #[.int .i64 s, .int .i64 lf, .slice A n c] w (TreeRetS (s, lf, levels l) S0 w) := by
  subst hn
  have H1 : Hid (∀ w', Below w.heap.size w w' → SlAt encU64 w' S0 A l) := fun w' hb => h1.blk (fun b h => hb.block b (hlo b h))
  clear h1
  go_enter Try.func67, Try.ntmps67
  go_wp2
  go_step3
  go_wp2
  go_step3
  go_wp2
  go_loopw [2] (fun v wr => ∃ (A : Option Addr) (c : Nat) (cur : List Int) (B : Option Addr) (vc : Nat) (app : List (List Int)), v = .slice A cur.length c ∧ 1 ≤ cur.length ∧ cur.length ≤ l.length ∧ Hid (levels l = app ++ levels cur) ∧ Hid (LvI S0 w.heap.size w.heap.size (w.heap.size + 1) s lf B vc app A c cur wr) ∧ Below w.heap.size w wr) (fun v _ => slLen v)
  case atStart =>
    refine ⟨A, c, l, none, 0, [], rfl, h0, Nat.le_refl _, rfl, ?_, ext_alloc (ext_alloc (Below.refl _ _))⟩
    refine ⟨(Below.heap_alloc _ _ _ (by simp)).trans (heap_alloc_new _ _), by have := heap_alloc_new (w.alloc (.cells #[.int .i64 0, .int .i64 0, .slice none 0 0] 24)) (.cells #[.int .i64 s, .int .i64 lf, .slice none 0 0] 24); simpa using this, Own.nil_, ?_, hc.1, hc.2, by simp [Value.ownBlock], by omega, Nat.le_refl _, by omega, hlo⟩
    exact (H1.out _ (ext_alloc (ext_alloc (Below.refl _ _)))).more (fun g hg => ⟨Or.inl hg, by have := hlo g hg; omega, by have := hlo g hg; omega, by simp [Value.ownBlock]⟩)
  case round =>
    obtain ⟨wo, rfl⟩ : ∃ wo : World, wo = wr := ⟨_, rfl⟩
    obtain ⟨A, c, cur, B, vc, app, rfl, hc1, hcl, hlev, hI, hB⟩ := hrel
    have HSL : ∀ (v : Value) g, LvS S0 w.heap.size w.heap.size (w.heap.size + 1) wo v g → g < wo.heap.size := fun v g hg => hI.out.slt hg
    obtain ⟨k1, k2, k3, k4, k5, k6, k7, k8, k9, ka, kb⟩ := hI.out
    obtain ⟨r0, r1, r2, rf⟩ := blk3 k1
    obtain ⟨t0, t1, t2, tf⟩ := blk3 k2
    have hb1 : w.heap.size + 1 < wo.heap.size := (Array.getElem?_eq_some_iff.1 k2).1
    have hal : app.length ≤ 100001 := by
      have h5 := congrArg List.length hlev.out
      have h6 := levels_len l
      rw [List.length_append] at h5; omega
    have HO1 := Lib.hid (Own.alloc k3 (fun g hg => HSL _ g hg) (.cells #[.slice A cur.length c] 72))
    have HRD : Hid ((encSl encU64).rd (wo.alloc (.cells #[.slice A cur.length c] 72)) (LvS S0 w.heap.size w.heap.size (w.heap.size + 1) wo (.slice B app.length vc)) [.slice A cur.length c] cur) := ⟨A, c, rfl, k5, k6, k4.blk (fun g hg => Below.heap_alloc _ _ _ (HSL _ _ hg))⟩
    have hl := Lib.hid k7
    clear k3 k4 k5 k6 k7 k8 k9 ka kb r0 r1 r2 rf
    go_wp2_with (at_builtin; refine Hid.out ?_)
    change wpList _ _ _ _ _ _
    refine wpList_app1 (E := encSl encU64) tyLvls rfl _ _ rfl rfl HO1.out cur _ rfl HRD.out (heap_alloc_new _ _) (fun _ h => by simp; have := HSL _ _ h; omega) (by simp; omega) (by unfold maxLen; omega) (by omega) ?_
    intro A' c5 w5 hown5 hg5 hat5
    have HAPP := Lib.hid (hI.out.app hown5 hg5 hat5)
    have hk2 : w5.heap[w.heap.size + 1]? = some (.cells #[.int .i64 s, .int .i64 lf, .slice B app.length vc] 24 (0, 0)) := (hg5.block _ (by simp; omega) (fun e => (hl.out _ e.symm).2 rfl)).trans ((Below.heap_alloc _ _ _ hb1).trans k2)
    have hk1 : w5.heap[w.heap.size]? = some (.cells #[.int .i64 0, .int .i64 0, .slice none 0 0] 24 (0, 0)) := (hg5.block _ (by simp; omega) (fun e => (hl.out _ e.symm).1 rfl)).trans ((Below.heap_alloc _ _ _ (by omega)).trans k1)
    obtain ⟨u0, u1, u2, uf⟩ := blk3 hk2
    obtain ⟨r0, r1, r2, rf⟩ := blk3 hk1
    clear hown5 hg5 hat5 HRD HO1 k1 k2 t0 t1 t2 tf
    by_cases h1 : cur.length = 1
    · have h1' : ((cur.length : Int) == 1) = true := by simp [h1]
      go_wp2_with fail
      have hal1 : (app ++ [cur]).length = app.length + 1 := by simp
      obtain ⟨hI5, hB5⟩ := HAPP.out
      have hz := blk3_all hI5.1 (.int .i64 s) (.int .i64 lf) (.slice A' (app.length + 1) c5)
      obtain ⟨p1, p2, p3⟩ := hI5.out_ (W' := (((w5.setCell ⟨w.heap.size + 1, 2, none⟩ (.slice A' (app.length + 1) c5)).setCell ⟨w.heap.size, 0, none⟩ (.int .i64 s)).setCell ⟨w.heap.size, 1, none⟩ (.int .i64 lf)).setCell ⟨w.heap.size, 2, none⟩ (.slice A' (app.length + 1) c5)) (by simp [World.setCell]) (fun g hg => blk3_other hg _ _ _)
      have hB6 : Below w.heap.size w ((((w5.setCell ⟨w.heap.size + 1, 2, none⟩ (.slice A' (app.length + 1) c5)).setCell ⟨w.heap.size, 0, none⟩ (.int .i64 s)).setCell ⟨w.heap.size, 1, none⟩ (.int .i64 lf)).setCell ⟨w.heap.size, 2, none⟩ (.slice A' (app.length + 1) c5)) := (((hB.trans hB5).setCell (p := ⟨w.heap.size, 0, none⟩) (Nat.le_refl w.heap.size) _).setCell (p := ⟨w.heap.size, 1, none⟩) (Nat.le_refl w.heap.size) _).setCell (p := ⟨w.heap.size, 2, none⟩) (Nat.le_refl w.heap.size) _
      have hlv : levels l = app ++ [cur] := by rw [hlev.out, levels_one (by omega)]
      generalize ((((w5.setCell ⟨w.heap.size + 1, 2, none⟩ (.slice A' (app.length + 1) c5)).setCell ⟨w.heap.size, 0, none⟩ (.int .i64 s)).setCell ⟨w.heap.size, 1, none⟩ (.int .i64 lf)).setCell ⟨w.heap.size, 2, none⟩ (.slice A' (app.length + 1) c5)) = W3 at hz p3 hB6 ⊢
      obtain ⟨z0, z1, z2, _⟩ := blk3 hz
      refine bodyPost_ret (v := .agg #[.int .i64 s, .int .i64 lf, .slice A' (app.length + 1) c5]) ?_ rfl ?_
      · simp [results, Try.results67, Try.f67, go_sem, z0, z1, z2]
      · rw [hal1] at p1
        exact ⟨A', c5, by simp [hlv], by simp only [hlv, hal1]; exact p1, p2, by simp only [hlv]; exact p3, hB6⟩
    · have h1' : ((cur.length : Int) == 1) = false := by simp; omega
      obtain ⟨hI5, hB5⟩ := HAPP.out
      have HUP := Lib.hid (up_any A c cur.length cur _ rfl (hI5.2.2.2.1.more (fun g hg => hI5.slt hg)) (by omega))
      go_wp2_with fail
      refine HUP.out.mono ?_
      rintro e w6 ⟨A2, c2, rfl, q1, q2, q3, q4⟩
      have hI6 := Lib.hid (hI5.next q4 q3 q1 q2)
      have hB6 := Lib.hid ((hB.trans hB5).trans (q4.mono (hB.trans hB5).size))
      have hlv := Lib.hid (levels_up (l := cur) (by omega))
      have HUL := Lib.hid (upL_len cur)
      clear HUP q1 q2 q3 q4 hI5 hB5 hB u0 u1 u2 uf r0 r1 r2 rf hk1 hk2
      go_wp2
      go_roundw
      case rel => exact ⟨A2, c2, upL cur, A', c5, app ++ [cur], rfl, by rw [HUL.out]; omega, by rw [HUL.out]; omega, by rw [Hid, hlev.out, hlv.out]; simp, by simpa [Hid] using hI6.out, hB6.out⟩
      case measure => simp only [slLen]; rw [HUL.out]; omega
theorem above_any (A : Option Addr) (c n lo : Nat) (s lf : Int) (l : List Int) (w : World) (hn : l.length = n) (h0 : 1 ≤ n) (hlo : lo ≤ w.heap.size) (hc : n ≤ c ∧ c ≤ maxLen) (h1 : SlAt encU64 w (Nw lo w.heap.size) A l) (hl : n ≤ 100000) :
    Calls Try.prog 67 #[.int .i64 s, .int .i64 lf, .slice A n c] w (TreeRet (s, lf, levels l) lo w) :=
  (above_anyS A c n (Nw lo w.heap.size) s lf l w hn h0 (fun _ h => h.2) hc h1 hl).mono (fun _ _ h => h.lo hlo)
end Go.Proofs.Ytjehedfdikdfpaa
namespace Go.Proofs.Ytjehedfdikdfpaa
open Go.RowKit Go.Shelf
attribute [local go_sem] Oper.semAt_some

theorem Own.one_ {α : Type} {E : Enc α} {W : World} {base g : Nat} {e : TypeId} {S : Nat → Prop} {x : α} {cs : List Value} (hb : base ≤ g) (hg : W.heap[g]? = some (.cells cs.toArray e (0, 0))) (hx : E.rd W S cs x) (hsz : cs.length = E.size) (hS : ¬ S g) :
    Own E W base e S (.slice (some ⟨g, 0, none⟩) 1 1) [x] :=
  ⟨[cs], ⟨by simp [hsz], Or.inr ⟨g, 1, cs.toArray, rfl, hb, hg, Nat.le_refl _, by decide, by simp [hsz], by simp [← hsz]⟩⟩, ⟨hx, trivial⟩, fun g' e => by
    have : g = g' := by simpa [Value.ownBlock] using e
    subst this; exact hS⟩
set_option maxHeartbeats 4000000 in
theorem refTree_anyS (A : Option Addr) (c n : Nat) (S0 : Nat → Prop) (s lf : Int) (l : List Int) (w : World) (hn : l.length = n) (h0 : 1 ≤ n) (hlo : ∀ g, S0 g → g < w.heap.size) (hc : n ≤ c ∧ c ≤ maxLen) (h1 : SlAt encU64 w S0 A l) (hl : n ≤ 100000) :
    Calls Try.prog 64 #[.int .i64 s, .int .i64 lf, .slice A n c] w (TreeRetS (s, lf, levels l) S0 w) := by
  subst hn
  have H1 : Hid (∀ w', Below w.heap.size w w' → SlAt encU64 w' S0 A l) := fun w' hb => h1.blk (fun b h => hb.block b (hlo b h))
  clear h1
  go_enter Try.func64, Try.ntmps64
  go_wp2
  go_loopw [2] (fun v wr => ∃ (A : Option Addr) (c : Nat) (cur : List Int) (B : Option Addr) (vc : Nat) (app done : List (List Int)), v = .slice A cur.length c ∧ 1 ≤ cur.length ∧ cur.length ≤ l.length ∧ Hid (app = done ++ [cur]) ∧ Hid (levels l = done ++ levels cur) ∧ Hid (LvI S0 w.heap.size w.heap.size (w.heap.size + 1 + 1) s lf B vc app A c cur wr) ∧ Below w.heap.size w wr) (fun v _ => slLen v)
  case atStart =>
    refine ⟨A, c, l, some ⟨w.heap.size + 1, 0, none⟩, 1, [l], [], rfl, h0, Nat.le_refl _, rfl, rfl, ?_, ext_alloc (ext_alloc (ext_alloc (Below.refl _ _)))⟩
    have a1 := heap_alloc_new w (.cells #[.int .i64 0, .int .i64 0, .slice none 0 0] 24)
    have a2 := heap_alloc_new (w.alloc (.cells #[.int .i64 0, .int .i64 0, .slice none 0 0] 24)) (.cells #[.slice A l.length c] 72)
    have a3 := heap_alloc_new ((w.alloc (.cells #[.int .i64 0, .int .i64 0, .slice none 0 0] 24)).alloc (.cells #[.slice A l.length c] 72)) (.cells #[.int .i64 s, .int .i64 lf, .slice (some ⟨w.heap.size + 1, 0, none⟩) 1 1] 24)
    simp only [World.size_alloc] at a1 a2 a3
    have hat := (H1.out _ (ext_alloc (ext_alloc (ext_alloc (Below.refl _ _))) : Below w.heap.size w (((w.alloc (.cells #[.int .i64 0, .int .i64 0, .slice none 0 0] 24)).alloc (.cells #[.slice A l.length c] 72)).alloc (.cells #[.int .i64 s, .int .i64 lf, .slice (some ⟨w.heap.size + 1, 0, none⟩) 1 1] 24)))).more (S' := LvS S0 w.heap.size w.heap.size (w.heap.size + 1 + 1) (((w.alloc (.cells #[.int .i64 0, .int .i64 0, .slice none 0 0] 24)).alloc (.cells #[.slice A l.length c] 72)).alloc (.cells #[.int .i64 s, .int .i64 lf, .slice (some ⟨w.heap.size + 1, 0, none⟩) 1 1] 24)) (.slice (some ⟨w.heap.size + 1, 0, none⟩) 1 1)) (fun g hg => ⟨Or.inl hg, by have := hlo g hg; omega, by have := hlo g hg; omega, by have := hlo g hg; simp [Value.ownBlock]; omega⟩)
    refine ⟨(Below.heap_alloc _ _ _ (by simp; omega)).trans ((Below.heap_alloc _ _ _ (by simp)).trans a1), a3, ?_, hat, hc.1, hc.2, by simp [Value.ownBlock], by omega, Nat.le_refl _, by omega, hlo⟩
    exact Own.one_ (by omega) ((Below.heap_alloc _ _ _ (by simp)).trans a2) (cs := [.slice A l.length c]) ⟨A, c, rfl, hc.1, hc.2, hat⟩ rfl (fun hS => hS.2.2.2 (by simp [Value.ownBlock]))
  case round =>
    obtain ⟨wo, rfl⟩ : ∃ wo : World, wo = wr := ⟨_, rfl⟩
    obtain ⟨A, c, cur, B, vc, app, done, rfl, hc1, hcl, happ, hlev, hI, hB⟩ := hrel
    have hal : app.length ≤ 100001 := by
      have h5 := congrArg List.length hlev.out
      have h6 := levels_len l
      have h7 : 1 ≤ (levels cur).length := by
        by_cases hc2 : cur.length ≤ 1
        · rw [levels_one hc2]; simp
        · rw [levels_up hc2]; simp
      rw [happ.out, List.length_append] at *
      simp at h5 ⊢; omega
    by_cases h1 : cur.length ≤ 1
    · have h1' : ¬ ((1 : Int) < cur.length) := by omega
      obtain ⟨k1, k2, k3, k4, k5, k6, k7, k8, k9, ka, kb⟩ := hI.out
      obtain ⟨r0, r1, r2, rf⟩ := blk3 k1
      obtain ⟨t0, t1, t2, tf⟩ := blk3 k2
      clear k1 k2 k3 k4 k5 k6 k7 k8 k9 ka kb
      go_wp2_with fail
      have hz := blk3_all hI.out.1 (.int .i64 s) (.int .i64 lf) (.slice B app.length vc)
      obtain ⟨p1, p2, p3⟩ := hI.out.out_ (W' := ((wo.setCell ⟨w.heap.size, 0, none⟩ (.int .i64 s)).setCell ⟨w.heap.size, 1, none⟩ (.int .i64 lf)).setCell ⟨w.heap.size, 2, none⟩ (.slice B app.length vc)) (by simp [World.setCell]) (fun g hg => blk3_other hg _ _ _)
      have hB6 : Below w.heap.size w (((wo.setCell ⟨w.heap.size, 0, none⟩ (.int .i64 s)).setCell ⟨w.heap.size, 1, none⟩ (.int .i64 lf)).setCell ⟨w.heap.size, 2, none⟩ (.slice B app.length vc)) := ((hB.setCell (p := ⟨w.heap.size, 0, none⟩) (Nat.le_refl w.heap.size) _).setCell (p := ⟨w.heap.size, 1, none⟩) (Nat.le_refl w.heap.size) _).setCell (p := ⟨w.heap.size, 2, none⟩) (Nat.le_refl w.heap.size) _
      have hlv : levels l = app := by rw [hlev.out, levels_one h1, happ.out]
      generalize (((wo.setCell ⟨w.heap.size, 0, none⟩ (.int .i64 s)).setCell ⟨w.heap.size, 1, none⟩ (.int .i64 lf)).setCell ⟨w.heap.size, 2, none⟩ (.slice B app.length vc)) = W3 at hz p3 hB6 ⊢
      obtain ⟨z0, z1, z2, _⟩ := blk3 hz
      refine bodyPost_ret (v := .agg #[.int .i64 s, .int .i64 lf, .slice B app.length vc]) ?_ rfl ?_
      · simp [results, Try.results64, Try.f64, go_sem, z0, z1, z2]
      · exact ⟨B, vc, by simp [hlv], by simp only [hlv]; exact p1, p2, by simp only [hlv]; exact p3, hB6⟩
    · have h1' : ((1 : Int) < cur.length) := by omega
      have HUP := Lib.hid (refAbove_any A c cur.length cur wo rfl (hI.out.2.2.2.1.more (fun g hg => hI.out.slt hg)) (by omega))
      go_wp2_with fail
      refine HUP.out.mono ?_
      rintro e w6 ⟨A2, c2, rfl, q1, q2, q3, q4⟩
      have hI6 := Lib.hid (hI.out.next q4 q3 q1 q2)
      have hB6 := hB.trans (q4.mono hB.size)
      have hlv := Lib.hid (levels_up (l := cur) h1)
      have HUL := Lib.hid (upL_len cur)
      clear HUP q1 q2 q3 q4 hI hB
      generalize hcur2 : upL cur = cur2 at hI6 hlv HUL ⊢
      have HSL : ∀ (v : Value) g, LvS S0 w.heap.size w.heap.size (w.heap.size + 1 + 1) w6 v g → g < w6.heap.size := fun v g hg => hI6.out.slt hg
      obtain ⟨k1, k2, k3, k4, k5, k6, k7, k8, k9, ka, kb⟩ := hI6.out
      obtain ⟨t0, t1, t2, tf⟩ := blk3 k2
      have hb1 : w.heap.size + 1 + 1 < w6.heap.size := (Array.getElem?_eq_some_iff.1 k2).1
      have HO1 := Lib.hid (Own.alloc k3 (fun g hg => HSL _ g hg) (.cells #[.slice A2 cur2.length c2] 72))
      have HRD : Hid ((encSl encU64).rd (w6.alloc (.cells #[.slice A2 cur2.length c2] 72)) (LvS S0 w.heap.size w.heap.size (w.heap.size + 1 + 1) w6 (.slice B app.length vc)) [.slice A2 cur2.length c2] cur2) := ⟨A2, c2, rfl, k5, k6, k4.blk (fun g hg => Below.heap_alloc _ _ _ (HSL _ _ hg))⟩
      have hl := Lib.hid k7
      clear k1 k3 k4 k5 k6 k7 k8 k9 ka kb
      go_wp2_with (at_builtin; refine Hid.out ?_)
      change wpList _ _ _ _ _ _
      refine wpList_app1 (E := encSl encU64) tyLvls rfl _ _ rfl rfl HO1.out cur2 _ rfl HRD.out (heap_alloc_new _ _) (fun _ h => by simp; have := HSL _ _ h; omega) (by simp; omega) (by unfold maxLen; omega) (by omega) ?_
      intro A' c5 w5 hown5 hg5 hat5
      have HAPP := Lib.hid (hI6.out.app hown5 hg5 hat5)
      have hk2 : w5.heap[w.heap.size + 1 + 1]? = some (.cells #[.int .i64 s, .int .i64 lf, .slice B app.length vc] 24 (0, 0)) := (hg5.block _ (by simp; omega) (fun e => (hl.out _ e.symm).2 rfl)).trans ((Below.heap_alloc _ _ _ hb1).trans k2)
      obtain ⟨u0, u1, u2, uf⟩ := blk3 hk2
      clear hown5 hg5 hat5 HRD HO1 k2 t0 t1 t2 tf
      go_wp2
      go_roundw
      case rel => exact ⟨A2, c2, cur2, A', c5, app ++ [cur2], app, rfl, by rw [HUL.out]; omega, by rw [HUL.out]; omega, rfl, by rw [Hid, hlev.out, hlv.out, happ.out]; simp, by simpa [Hid] using HAPP.out.1, hB6.trans HAPP.out.2⟩
      case measure => simp only [slLen]; rw [HUL.out]; omega
theorem refTree_any (A : Option Addr) (c n lo : Nat) (s lf : Int) (l : List Int) (w : World) (hn : l.length = n) (h0 : 1 ≤ n) (hlo : lo ≤ w.heap.size) (hc : n ≤ c ∧ c ≤ maxLen) (h1 : SlAt encU64 w (Nw lo w.heap.size) A l) (hl : n ≤ 100000) :
    Calls Try.prog 64 #[.int .i64 s, .int .i64 lf, .slice A n c] w (TreeRet (s, lf, levels l) lo w) :=
  (refTree_anyS A c n (Nw lo w.heap.size) s lf l w hn h0 (fun _ h => h.2) hc h1 hl).mono (fun _ _ h => h.lo hlo)
end Go.Proofs.Ytjehedfdikdfpaa

/-
  The walks of the image package: sizes, Check, New, fits, Fits.
-/
import Derived.Test.YtfahbhjlkdcnpaaIa
set_option linter.unusedVariables false
set_option linter.unusedSimpArgs false
set_option linter.unusedSectionVars false
set_option linter.unnecessarySimpa false
namespace Go.Proofs.Ytfahbhjlkdcnpaa
open Go.RowKit

def lenI (v : List Sec) : Int := v.length
def lens (im : List (List Sec)) : List Int := im.map lenI
theorem sizes1_any (A : Option Addr) (n c : Nat) (w : World) (hn : n ≤ 9223372036854775807) : Calls Try.prog 96 #[.slice A n c] w fun e w' => e = .returned (.int .i64 n) ∧ Below w.heap.size w w' := by
  go_enter Try.func96, Try.ntmps96
  go_wp2
  go_ret
  exact ⟨rfl, Below.refl _ _⟩
set_option maxHeartbeats 2000000 in
theorem mappedLen_any (A : Option Addr) (c : Nat) (l : List _) (w : World) (h1 : SlAt (encSl encSec) w (Bl w.heap.size) A l) (hl : l.length ≤ 1000000) (htt : True) :
    Calls Try.prog 95 #[.slice A l.length c, .func (.func 96) #[] #[]] w (RetSl encInt (l.map lenI) w) := by
  have H1 : Hid (∀ w', Below w.heap.size w w' → SlAt (encSl encSec) w' (Bl w.heap.size) A l) := fun w' hb => h1.below hb
  clear h1
  obtain ⟨cur, hcs, hmk⟩ := makeOf tyInts l.length (by omega) (by omega) w
  have HCS := Lib.hid hcs; clear hcs
  have hO1 := Lib.hid (show OwnW encInt (w.alloc (.cells cur 3)) w.heap.size w.heap.size 3 (.slice (some ⟨w.heap.size, 0, none⟩) 0 l.length) [] from Own.make0 (cur := cur) (Nat.le_refl _) (by unfold maxLen; omega) HCS.out (fun h => h.2 rfl))
  go_enter Try.func95, Try.ntmps95
  go_wp2
  go_loopw [5, 13] (fun v i wr => ∃ (k : Nat) (B : Option Addr) (vc : Nat) (out : List _), k ≤ l.length ∧ i = .int .i64 k ∧ v = .slice B out.length vc ∧ Below w.heap.size w wr ∧ Hid (out = (l.take k).map lenI) ∧ Hid (OwnW encInt wr w.heap.size w.heap.size 3 (.slice B out.length vc) out)) (fun _ i _ => l.length - (intOf i).toNat)
  case atStart => exact ⟨0, some ⟨w.heap.size, 0, none⟩, l.length, [], by omega, rfl, rfl, ext_alloc (Below.refl _ _), by simp [Hid], hO1.out⟩
  case round =>
    clear hmk
    obtain ⟨k, B, vc, out, hk, rfl, rfl, hB, hout, hown⟩ := hrel
    by_cases hlt : k < l.length
    · have hnn : (0 : Int) ≤ k := by omega
      have hki : (k : Int) < l.length := by omega
      have hol : out.length ≤ k := by rw [hout.out]; simp; omega
      have hszr := hB.size
      obtain ⟨b, off, D, dc, rfl, hb, g0, hD, hn1, hn2⟩ := (H1.out wr hB).sl hlt; have hn3 := hn2; unfold maxLen at hn3; have hn4 : l[k].length ≤ 9223372036854775807 := by omega
      go_wp2_with fail
      refine (sizes1_any D l[k].length dc wr hn4).mono ?_
      rintro e w1 ⟨rfl, hb1⟩
      have hsz1 := hb1.size
      have hB1 : Below w.heap.size w w1 := ext_trans hB hb1
      have HO1 := Lib.hid (hown.out.below hb1)
      have hlt1 : ∀ g, (Value.slice B out.length vc).ownBlock = some g → g < wr.heap.size := fun g hg => (hown.out.lt g hg).2
      have HLT1 := Lib.hid hlt1; clear hlt1
      have HO2 := Lib.hid (Own.alloc HO1.out (fun _ h => h.1.2) (.cells #[.int .i64 (l[k].length : Nat)] 3))
      have HRD : Hid ((encInt).rd (w1.alloc (.cells #[.int .i64 (l[k].length : Nat)] 3)) (fun b => Nw w.heap.size w1.heap.size b ∧ (Value.slice B out.length vc).ownBlock ≠ some b) [.int .i64 (l[k].length : Nat)] (lenI l[k])) := ⟨rfl, by unfold lenI I64; omega⟩
      go_wp2_with (at_builtin; refine Hid.out ?_)
      change wpList _ _ _ _ _ _
      refine wpList_app1 (E := encInt) tyInts rfl _ _ rfl rfl HO2.out (lenI l[k]) [.int .i64 (l[k].length : Nat)] rfl HRD.out (heap_alloc_new _ _) (fun _ h => by simp; have := h.1.2; omega) (by simp; omega) (by unfold maxLen; omega) (by omega) ?_
      intro A' c' w5 hown5 hg5 hat5
      have hok5 := Lib.hid (OwnW.app (hown5.more (S' := fun b => Nw w.heap.size (w1.alloc (.cells #[.int .i64 (l[k].length : Nat)] 3)).heap.size b ∧ (Value.slice B out.length vc).ownBlock ≠ some b) (fun b hb => ⟨hb.1.mono (Nat.le_refl _) (by simp), hb.2⟩) (OwnW_new hown5 hat5 HLT1.out (by simp; omega))) hg5 hat5)
      have hB5 := Lib.hid ((ext_alloc (o := .cells #[.int .i64 (l[k].length : Nat)] 3) hB1).grown hg5 (by simp; omega) (fun g h => (hown.out.lt g h).1))
      clear hown5 hg5 hat5
      go_wp2
      go_roundw
      case rel =>
        refine ⟨k + 1, A', c', out ++ [lenI l[k]], hlt, by go_num, by simp, hB5.out, ?_, ?_⟩
        · rw [List.take_succ_eq_append_getElem hlt, List.map_append, ← hout.out]; exact rfl
        · have := hok5.out; simpa [Hid] using this
      case measure => simp [intOf]; omega
    · have hkk : k = l.length := by omega
      subst hkk
      go_wp2
      go_ret
      have e := hout.out
      rw [List.take_length] at e
      rw [← e]
      obtain ⟨_, p1, p2, p3⟩ := hown.out.parts
      exact ⟨B, vc, rfl, p1, p2, p3, hB⟩
theorem imgSizes_any (A : Option Addr) (c : Nat) (im : List (List Sec)) (w : World) (h1 : SlAt (encSl encSec) w (Bl w.heap.size) A im) (hl : im.length ≤ 1000000) :
    Calls Try.prog 84 #[.slice A im.length c] w (RetSl encInt (lens im) w) := by
  have hc := Lib.hid (mappedLen_any A c im w h1 hl trivial)
  clear h1
  obtain ⟨r, hr⟩ : ∃ r, Hid (lens im = r) := ⟨_, Lib.hid rfl⟩
  have hr2 : Hid (im.map lenI = r) := hr
  rw [hr2.out] at hc
  rw [hr.out]
  go_enter Try.func84, Try.ntmps84
  go_wp2_with fail
  refine hc.out.mono ?_
  rintro e w1 ⟨A1, c1, rfl, r1, r2, r3, hb1⟩
  have HR := Lib.hid (And.intro r1 (And.intro r2 r3)); clear r1 r2 r3
  go_wp2
  go_ret
  exact ⟨A1, c1, rfl, HR.out.1, HR.out.2.1, HR.out.2.2, hb1⟩
theorem badSz_any (n : Int) (w : World) (q : Bool) (hq : badSz n = q) : Calls Try.prog 92 #[.int .i64 n] w fun e w' => e = .returned (.bool q) ∧ Below w.heap.size w w' := by
  by_cases c1 : n < 1
  · have c1' : decide (n < 1) = true := by simp [c1]
    go_enter Try.func92, Try.ntmps92
    go_wp2
    go_ret
    exact ⟨ret_bool (by rw [← hq]; simp [badSz, c1]), Below.refl _ _⟩
  · have c1' : decide (n < 1) = false := by simp; omega
    by_cases c2 : 4096 < n
    · go_enter Try.func92, Try.ntmps92
      go_wp2
      go_ret
      exact ⟨ret_bool (by rw [← hq]; simp [badSz, c1, c2]), Below.refl _ _⟩
    · go_enter Try.func92, Try.ntmps92
      go_wp2
      go_ret
      exact ⟨ret_bool (by rw [← hq]; simp [badSz, c1, c2]), Below.refl _ _⟩
set_option maxHeartbeats 1000000 in
theorem indexBad_any (A : Option Addr) (c : Nat) (l : List _) (w : World) (h1 : SlAt encInt w (Bl w.heap.size) A l) (hl : l.length ≤ 9223372036854775807) (htt : True) :
    Calls Try.prog 108 #[.slice A l.length c, .func (.func 92) #[] #[]] w fun e w' => (∃ i : Int, e = .returned (.int .i64 i) ∧ (decide (0 ≤ i) = l.any badSz)) ∧ Below w.heap.size w w' := by
  have H1 : Hid (∀ w', Below w.heap.size w w' → SlAt encInt w' (Bl w.heap.size) A l) := fun w' hb => h1.below hb
  clear h1
  go_enter Try.func108, Try.ntmps108
  go_wp2
  go_loopw [8] (fun i wr => ∃ k : Nat, k ≤ l.length ∧ i = .int .i64 k ∧ Below w.heap.size w wr ∧ Hid (∀ y ∈ l.take k, badSz y = false)) (fun i _ => l.length - (intOf i).toNat)
  case atStart => exact ⟨0, by omega, rfl, Below.refl _ _, by simp [Hid]⟩
  case round =>
    obtain ⟨k, hk, rfl, hB, hz⟩ := hrel
    by_cases hlt : k < l.length
    · have hnn : (0 : Int) ≤ k := by omega
      have hki : (k : Int) < l.length := by omega
      have hszr := hB.size
      obtain ⟨b, off, rfl, hb, g0, hi1, hi2⟩ := (H1.out wr hB).int hlt
      obtain ⟨q, hq⟩ : ∃ q, Hid (badSz l[k] = q) := ⟨badSz l[k], Lib.hid rfl⟩
      go_wp2_with fail
      refine (badSz_any l[k] wr q hq.out).mono ?_
      rintro e w1 ⟨rfl, hb1⟩; clear g0
      have hB1 : Below w.heap.size w w1 := ext_trans hB hb1
      cases q with
      | true =>
        go_wp2
        go_ret
        refine ⟨⟨k, rfl, ?_⟩, hB1⟩
        rw [decide_eq_true hnn, eq_comm, List.any_eq_true]
        exact ⟨l[k], List.getElem_mem hlt, hq.out⟩
      | false =>
        go_wp2
        go_roundw
        case rel =>
          refine ⟨k + 1, hlt, by go_num, hB1, ?_⟩
          intro y hy
          rw [List.take_succ_eq_append_getElem hlt] at hy
          rcases List.mem_append.1 hy with hy | hy
          · exact hz.out y hy
          · rw [List.mem_singleton.1 hy]; exact hq.out
        case measure => simp [intOf]; omega
    · have hkk : k = l.length := by omega
      subst hkk
      go_wp2
      go_ret
      refine ⟨⟨-1, rfl, ?_⟩, hB⟩
      have := hz.out
      rw [List.take_length] at this
      rw [eq_comm]
      show l.any badSz = false
      rw [List.any_eq_false]
      intro y hy
      simp [this y hy]
theorem containsBad_any (A : Option Addr) (c : Nat) (l : List _) (w : World) (h1 : SlAt encInt w (Bl w.heap.size) A l) (hl : l.length ≤ 9223372036854775807) (htt : True) (q : Bool) (hq : l.any badSz = q) :
    Calls Try.prog 91 #[.slice A l.length c, .func (.func 92) #[] #[]] w fun e w' => e = .returned (.bool q) ∧ Below w.heap.size w w' := by
  have hc := Lib.hid (indexBad_any A c l w h1 hl trivial)
  clear h1
  rw [hq] at hc
  clear hq
  go_enter Try.func91, Try.ntmps91
  go_wp2_with fail
  refine hc.out.mono ?_
  rintro e w1 ⟨⟨i, rfl, hi⟩, hb1⟩
  go_wp2
  go_ret
  exact ⟨rfl, hb1⟩
theorem checkSizes_any (A : Option Addr) (c n : Nat) (sz : List Int) (w : World) (hsn : sz.length = n) (h1 : SlAt encInt w (Bl w.heap.size) A sz) (hl : n ≤ 9223372036854775807) (r : Int) (hr : sizesN sz = r) :
    Calls Try.prog 73 #[.slice A n c] w fun e w' => e = .returned (.int .i64 r) ∧ Below w.heap.size w w' := by
  subst hsn
  have HR := Lib.hid hr; clear hr
  obtain ⟨q, hq⟩ : ∃ q, Hid (sz.any badSz = q) := ⟨_, Lib.hid rfl⟩
  have hc := Lib.hid (containsBad_any A c sz w h1 hl trivial q hq.out)
  clear h1
  by_cases c1 : sz.length < 1
  · have c1' : decide ((sz.length : Int) < 1) = true := by simp; omega
    go_enter Try.func73, Try.ntmps73
    go_wp2
    go_ret
    exact ⟨ret_int (by rw [← HR.out]; exact (if_pos (Or.inl c1)).symm), Below.refl _ _⟩
  · by_cases c2 : 8 < sz.length
    · go_enter Try.func73, Try.ntmps73
      go_wp2
      go_ret
      exact ⟨ret_int (by rw [← HR.out]; exact (if_pos (Or.inr c2)).symm), Below.refl _ _⟩
    · go_enter Try.func73, Try.ntmps73
      go_wp2_with fail
      refine hc.out.mono ?_
      rintro e w1 ⟨rfl, hb1⟩
      cases q with
      | true =>
        go_wp2
        go_ret
        exact ⟨ret_int (by rw [← HR.out, sizesN, if_neg (by omega), if_pos hq.out]), hb1⟩
      | false =>
        go_wp2
        go_ret
        exact ⟨ret_int (by rw [← HR.out, sizesN, if_neg (by omega), if_neg (by rw [hq.out]; simp)]), hb1⟩
/-- what New returns -/
def newL (sz : List Int) : List (List Sec) := if sizesN sz = 0 then sz.map zimg else []
theorem sizes_range {sz : List Int} (h : sizesN sz = 0) : sz.length ≤ 8 ∧ ∀ x ∈ sz, 1 ≤ x ∧ x ≤ 4096 := by
  unfold sizesN at h
  split at h
  · cases h
  · split at h
    · cases h
    · rename_i h1 h2
      refine ⟨by omega, fun x hx => ?_⟩
      have hb : badSz x = false := by
        cases hq : badSz x with
        | false => rfl
        | true => exact absurd (List.any_eq_true.2 ⟨x, hx, hq⟩) h2
      simp only [badSz, Bool.or_eq_false_iff, decide_eq_false_iff_not] at hb
      omega
theorem imgNew_any (A : Option Addr) (c : Nat) (sz : List Int) (w : World) (h1 : SlAt encInt w (Bl w.heap.size) A sz) (hl : sz.length ≤ 9223372036854775807) (en : Int) (hen : sizesN sz = en) (im : List (List Sec)) (him : newL sz = im) :
    Calls Try.prog 46 #[.slice A sz.length c] w (RetSlN (encSl encSec) im en w) := by
  have HEN := Lib.hid hen; clear hen
  have HIM := Lib.hid him; clear him
  have hc := Lib.hid (checkSizes_any A c sz.length sz w rfl h1 hl en HEN.out)
  by_cases he : en = 0
  · have he1 : (en != 0) = false := by simp [he]
    have HE := Lib.hid he; clear he
    obtain ⟨z1, z2⟩ := sizes_range (HEN.out.trans HE.out)
    have HZ2 := Lib.hid z2; clear z2
    have HI2 : Hid (sz.map zimg = im) := by rw [Hid, ← HIM.out, newL, if_pos (HEN.out.trans HE.out)]
    have H1 := Lib.hid h1; clear h1
    go_enter Try.func46, Try.ntmps46
    go_wp2_with fail
    refine hc.out.mono ?_
    rintro e w1 ⟨rfl, hb1⟩
    have hm := Lib.hid (mappedNew_any A c sz w1 (H1.out.fwd hb1) (by omega) (fun x hx => by have := HZ2.out x hx; omega))
    rw [HI2.out] at hm
    go_wp2_with fail
    refine hm.out.mono ?_
    rintro e w2 ⟨A2, c2, rfl, r1, r2, r3, hb2⟩
    have HR := Lib.hid (And.intro r1 (And.intro r2 r3)); clear r1 r2 r3
    have hs1 := hb1.size
    go_wp2
    go_ret2
    rw [HE.out]
    exact ⟨A2, c2, rfl, HR.out.1, HR.out.2.1, HR.out.2.2.more (fun g hg => hg.mono hs1 (Nat.le_refl _)), ext_trans hb1 hb2⟩
  · have he1 : (en != 0) = true := by simp [he]
    have HE := Lib.hid he; clear he
    clear h1
    go_enter Try.func46, Try.ntmps46
    go_wp2_with fail
    refine hc.out.mono ?_
    rintro e w1 ⟨rfl, hb1⟩
    go_wp2
    go_ret2
    rw [← HIM.out, newL, if_neg (by rw [HEN.out]; exact HE.out)]
    exact ⟨none, 0, rfl, by simp, by simp, SlAt.nil_, hb1⟩
theorem imgCheck_any (A : Option Addr) (c n : Nat) (im : List (List Sec)) (w : World) (hn : im.length = n) (h1 : SlAt (encSl encSec) w (Bl w.heap.size) A im) (hl : n ≤ 1000000) (r : Int) (hr : sizesN (lens im) = r) :
    Calls Try.prog 63 #[.slice A n c] w fun e w' => e = .returned (.int .i64 r) ∧ Below w.heap.size w w' := by
  subst hn
  have hc := Lib.hid (imgSizes_any A c im w h1 hl)
  have HR := Lib.hid hr; clear hr h1
  obtain ⟨sz, hsz⟩ : ∃ sz, Hid (lens im = sz) := ⟨_, Lib.hid rfl⟩
  have hlz : sz.length = im.length := by rw [← hsz.out, lens, List.length_map]
  have HLZ := Lib.hid hlz
  have hlz2 : sz.length ≤ 1000000 := by omega
  rw [hsz.out] at hc HR
  clear hlz
  go_enter Try.func63, Try.ntmps63
  go_wp2_with fail
  refine hc.out.mono ?_
  rintro e w1 ⟨A1, c1, rfl, r1, r2, r3, hb1⟩
  have HR3 := Lib.hid (r3.more (fun _ h => h.2)); clear r1 r2 r3
  go_wp2_with fail
  refine (checkSizes_any A1 c1 _ sz w1 rfl HR3.out (by omega) r HR.out).mono ?_
  rintro e w2 ⟨rfl, hb2⟩
  go_wp2
  go_ret
  exact ⟨rfl, ext_trans hb1 hb2⟩
end Go.Proofs.Ytfahbhjlkdcnpaa

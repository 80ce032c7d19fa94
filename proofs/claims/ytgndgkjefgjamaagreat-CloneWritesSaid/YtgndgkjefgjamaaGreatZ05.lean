/-
  The walks of the laws CoalesceFolds and CoalesceMerges.; The walks of Clone, Equal at sectors, of EqualFunc and Same at images, copied, and of the reference's Few and Same.; Images that a call owns: Clone of a row, copied.
-/
import Derived.Laws.MakeOwn
import Derived.BigQuiet
import Derived.RegionTactic
import Derived.BigRegion
import Derived.Deep.RegionLaw
import Derived.Test.YtgndgkjefgjamaaGreatZ01
import Derived.Test.YtgndgkjefgjamaaGreatZ02
import Derived.Test.YtgndgkjefgjamaaGreatZ03
import Derived.Test.YtgndgkjefgjamaaGreatZ04
set_option linter.unusedVariables false
set_option linter.unusedSimpArgs false
set_option linter.unusedSectionVars false
set_option linter.unnecessarySimpa false
namespace Go.Proofs.YtgndgkjefgjamaaGreat
open Go.RowKit Go.ChangeMaps

end Go.Proofs.YtgndgkjefgjamaaGreat

namespace Go.Proofs.YtgndgkjefgjamaaGreat
open Go.RowKit Go.ChangeMaps

end Go.Proofs.YtgndgkjefgjamaaGreat

namespace Go.Proofs.YtgndgkjefgjamaaGreat
open Go.RowKit

theorem makeOf {t e : TypeId} {size bytes : Nat} (hT : SliceTy Tryz.prog t e size bytes) (n : Nat) (hn : n * bytes ≤ 281474976710656) (h63 : n ≤ 1000000000000) (w : World) : ∃ cur : Array Value, cur.size = n * size ∧ (Instr.makeSlice t (.int .i64 0) (.int .i64 n)).run Tryz.prog w = .ok (.slice (some ⟨w.heap.size, 0, none⟩) 0 n) (w.alloc (.cells cur e)) := by
  obtain ⟨i, z, hi, hz, hsz, hby, hzs⟩ := hT.info
  have hbi : ((i.bytes : Int)) * (n : Int) ≤ 281474976710656 := by
    have h : ((i.bytes * n : Nat) : Int) ≤ 281474976710656 := by rw [hby, Nat.mul_comm]; omega
    rwa [Int.natCast_mul] at h
  have hr := run_make (P := Tryz.prog) w t e i z hT.und hi hz .i64 .i64 0 n (by omega) (by omega) hbi (by omega)
  simp only [Int.toNat_natCast, Int.toNat_zero] at hr
  exact ⟨_, by rw [size_madeCells, hsz], hr⟩
theorem tySecss : SliceTy Tryz.prog 22 43 1 24 := sliceTy_mk (z := .slice none 0 0) Tryz.underlying22 (by kernel_rfl) rfl (by decide)
/-- make([]api.Sector, n) -/
theorem makeSecs (n : Nat) (hn : n ≤ 1000000) (w : World) : ∃ cur : Array Value, cur.size = n * 8 ∧ (∀ j, j < n * 8 → cur[j]? = some (.int .u8 0)) ∧ (Instr.makeSlice 43 (.int .i64 n) (.int .i64 n)).run Tryz.prog w = .ok (.slice (some ⟨w.heap.size, 0, none⟩) n n) (w.alloc (.cells cur 95)) := by
  have hinfo : (Tryz.prog.info? 95).map (fun i => (i.zero, i.size, i.bytes)) = some (some (.agg #[.int .u8 0, .int .u8 0, .int .u8 0, .int .u8 0, .int .u8 0, .int .u8 0, .int .u8 0, .int .u8 0]), 8, 8) := by kernel_rfl
  obtain ⟨i, hi, hz, hsz, hby⟩ := info_parts hinfo
  have hbi : ((i.bytes : Int)) * (n : Int) ≤ 281474976710656 := by rw [hby]; omega
  have hr := run_make (P := Tryz.prog) w 43 95 i _ Tryz.underlying43 hi hz .i64 .i64 n n (by omega) (by omega) hbi (by omega)
  simp only [Int.toNat_natCast] at hr
  refine ⟨_, by rw [size_madeCells, hsz], fun j hj => ?_, hr⟩
  have hz8 : ∀ m, m < 8 → (#[Value.int .u8 0, .int .u8 0, .int .u8 0, .int .u8 0, .int .u8 0, .int .u8 0, .int .u8 0, .int .u8 0] : Array Value)[m]! = .int .u8 0 := by
    intro m hm
    match m, hm with
    | 0, _ => rfl
    | 1, _ => rfl
    | 2, _ => rfl
    | 3, _ => rfl
    | 4, _ => rfl
    | 5, _ => rfl
    | 6, _ => rfl
    | 7, _ => rfl
  simp only [madeCells, Value.cells, hsz]
  rw [Array.getElem?_map, Array.getElem?_range, if_pos (by omega)]
  simp only [Option.map_some, Option.some.injEq]
  exact hz8 _ (Nat.mod_lt _ (by decide))
theorem zsec_rd {w : World} {S : Nat → Prop} : encSec.rd w S (List.replicate 8 (.int .u8 0)) zsec := ⟨rfl, zsec_ok⟩
theorem zsecs_at {w : World} {S : Nat → Prop} {b n : Nat} {cur : Array Value} {T : TypeId} (hb : w.heap[b]? = some (.cells cur T (0, 0))) (hS : S b) (hc : ∀ j, j < n * 8 → cur[j]? = some (.int .u8 0)) : SlAt encSec w S (some ⟨b, 0, none⟩) (List.replicate n zsec) := by
  refine fun _ => ⟨b, 0, rfl, hS, fun i x hx => ?_⟩
  have hi : i < n := by have := (List.getElem?_eq_some_iff.1 hx).1; simpa using this
  have hx' : x = zsec := by
    have := (List.getElem?_eq_some_iff.1 hx).2
    simpa using this.symm
  subst hx'
  refine ⟨List.replicate 8 (.int .u8 0), fun j v hv => ?_, zsec_rd⟩
  have hj : j < 8 := by have := (List.getElem?_eq_some_iff.1 hv).1; simpa using this
  have hv' : v = .int .u8 0 := by
    have := List.mem_of_getElem? hv
    exact (List.mem_replicate.1 this).2
  subst hv'
  rw [cell_of_row w b _ _ T _ hb]
  have h8 : encSec.size = 8 := rfl
  rw [h8]
  exact hc _ (by omega)
theorem new1_any (n : Nat) (w : World) (hn : n ≤ 1000000) : Calls Tryz.prog 147 #[.int .i64 n] w (RetSl encSec (List.replicate n zsec) w) := by
  obtain ⟨cur, hcs, hcz, hmk⟩ := makeSecs n hn w
  have HCZ := Lib.hid hcz; clear hcz hcs
  go_enter Tryz.func147, Tryz.ntmps147
  go_wp2
  go_ret
  refine ⟨some ⟨w.heap.size, 0, none⟩, n, by rw [List.length_replicate]; rfl, by simp, by unfold maxLen; omega, ?_, ext_alloc (Below.refl _ _)⟩
  exact zsecs_at (heap_alloc_new _ _) ⟨Nat.le_refl _, by simp⟩ HCZ.out
theorem new1X (n : Int) (h0 : 0 ≤ n) (hn : n ≤ 1000000) (w : World) : Calls Tryz.prog 147 #[.int .i64 n] w fun e w' => ∃ A c, e = .returned (.slice A n.toNat c) ∧ n.toNat ≤ c ∧ c ≤ maxLen ∧ SlAt encSec w' (Nw w.heap.size w'.heap.size) A (List.replicate n.toNat zsec) ∧ Below w.heap.size w w' := by
  obtain ⟨k, rfl⟩ := Int.eq_ofNat_of_zero_le h0
  refine (new1_any k w (by omega)).mono fun e w' h => ?_
  obtain ⟨A, c, he, h1, h2, h3, h4⟩ := h
  rw [List.length_replicate] at he h1
  exact ⟨A, c, he, by simpa using h1, h2, by simpa using h3, h4⟩
def zimg (n : Int) : List Sec := List.replicate n.toNat zsec
theorem zimg_len (n : Int) : (zimg n).length = n.toNat := List.length_replicate ..
set_option maxHeartbeats 2000000 in
theorem mappedNew_any (A : Option Addr) (c : Nat) (l : List _) (w : World) (h1 : SlAt encInt w (Bl w.heap.size) A l) (hl : l.length ≤ 1000000) (hsz : ∀ x ∈ l, 0 ≤ x ∧ x ≤ 1000000) :
    Calls Tryz.prog 146 #[.slice A l.length c, .func (.func 147) #[] #[]] w (RetSl (encSl encSec) (l.map zimg) w) := by
  have H1 : Hid (∀ w', Below w.heap.size w w' → SlAt encInt w' (Bl w.heap.size) A l) := fun w' hb => h1.below hb
  clear h1
  obtain ⟨cur, hcs, hmk⟩ := makeOf tySecss l.length (by omega) (by omega) w
  have HCS := Lib.hid hcs; clear hcs
  have hO1 := Lib.hid (show OwnW (encSl encSec) (w.alloc (.cells cur 43)) w.heap.size w.heap.size 43 (.slice (some ⟨w.heap.size, 0, none⟩) 0 l.length) [] from Own.make0 (cur := cur) (Nat.le_refl _) (by unfold maxLen; omega) HCS.out (fun h => h.2 rfl))
  go_enter Tryz.func146, Tryz.ntmps146
  go_wp2
  go_loopw [5, 13] (fun v i wr => ∃ (k : Nat) (B : Option Addr) (vc : Nat) (out : List _), k ≤ l.length ∧ i = .int .i64 k ∧ v = .slice B out.length vc ∧ Below w.heap.size w wr ∧ Hid (out = (l.take k).map zimg) ∧ Hid (OwnW (encSl encSec) wr w.heap.size w.heap.size 43 (.slice B out.length vc) out)) (fun _ i _ => l.length - (intOf i).toNat)
  case atStart => exact ⟨0, some ⟨w.heap.size, 0, none⟩, l.length, [], by omega, rfl, rfl, ext_alloc (Below.refl _ _), by simp [Hid], hO1.out⟩
  case round =>
    clear hmk
    obtain ⟨k, B, vc, out, hk, rfl, rfl, hB, hout, hown⟩ := hrel
    by_cases hlt : k < l.length
    · have hnn : (0 : Int) ≤ k := by omega
      have hki : (k : Int) < l.length := by omega
      have hol : out.length ≤ k := by rw [hout.out]; simp; omega
      have hszr := hB.size
      obtain ⟨b, off, rfl, hb, g0, hi1, hi2⟩ := (H1.out wr hB).int hlt; obtain ⟨hx0, hx1⟩ := hsz _ (List.getElem_mem hlt)
      go_wp2_with fail
      refine (new1X l[k] hx0 hx1 wr).mono ?_
      rintro e w1 ⟨D, dc, rfl, r1, r2, r3, hb1⟩
      have hsz1 := hb1.size
      have hB1 : Below w.heap.size w w1 := ext_trans hB hb1
      have HO1 := Lib.hid (hown.out.below hb1)
      have hlt1 : ∀ g, (Value.slice B out.length vc).ownBlock = some g → g < wr.heap.size := fun g hg => (hown.out.lt g hg).2
      have HLT1 := Lib.hid hlt1; clear hlt1
      have HO2 := Lib.hid (Own.alloc HO1.out (fun _ h => h.1.2) (.cells #[.slice D l[k].toNat dc] 43))
      have HRD : Hid (((encSl encSec)).rd (w1.alloc (.cells #[.slice D l[k].toNat dc] 43)) (fun b => Nw w.heap.size w1.heap.size b ∧ (Value.slice B out.length vc).ownBlock ≠ some b) [.slice D l[k].toNat dc] (zimg l[k])) := ⟨D, dc, by rw [zimg_len], by rw [zimg_len]; exact r1, r2, SlAt.blk (OwnW.since (v := .slice B out.length vc) (lo := w.heap.size) r3 hszr (HLT1.out)) (fun g hg => Below.heap_alloc _ _ _ hg.1.2)⟩
      go_wp2_with (at_builtin; refine Hid.out ?_)
      change wpList _ _ _ _ _ _
      refine wpList_app1 (E := (encSl encSec)) tySecss rfl _ _ rfl rfl HO2.out (zimg l[k]) [.slice D l[k].toNat dc] rfl HRD.out (heap_alloc_new _ _) (fun _ h => by simp; have := h.1.2; omega) (by simp; omega) (by unfold maxLen; omega) (by omega) ?_
      intro A' c' w5 hown5 hg5 hat5
      have hok5 := Lib.hid (OwnW.app (hown5.more (S' := fun b => Nw w.heap.size (w1.alloc (.cells #[.slice D l[k].toNat dc] 43)).heap.size b ∧ (Value.slice B out.length vc).ownBlock ≠ some b) (fun b hb => ⟨hb.1.mono (Nat.le_refl _) (by simp), hb.2⟩) (OwnW_new hown5 hat5 HLT1.out (by simp; omega))) hg5 hat5)
      have hB5 := Lib.hid ((ext_alloc (o := .cells #[.slice D l[k].toNat dc] 43) hB1).grown hg5 (by simp; omega) (fun g h => (hown.out.lt g h).1))
      clear hown5 hg5 hat5
      go_wp2
      go_roundw
      case rel =>
        refine ⟨k + 1, A', c', out ++ [zimg l[k]], hlt, by go_num, by simp, hB5.out, ?_, ?_⟩
        · rw [List.take_succ_eq_append_getElem hlt, List.map_append, ← hout.out]; exact rfl
        · have := hok5.out; simpa [Hid] using this
      case measure => simp [intOf]; omega
    · have hkk : k = l.length := by omega
      subst hkk
      go_wp2
      go_ret
      have e := hout.out
      rw [List.take_length] at e
      rw [← e]
      obtain ⟨_, p1, p2, p3⟩ := hown.out.parts
      exact ⟨B, vc, rfl, p1, p2, p3, hB⟩
end Go.Proofs.YtgndgkjefgjamaaGreat

namespace Go.Proofs.YtgndgkjefgjamaaGreat
open Go.RowKit

def lenI (v : List Sec) : Int := v.length
def lens (im : List (List Sec)) : List Int := im.map lenI
theorem sizes1_any (A : Option Addr) (n c : Nat) (w : World) (hn : n ≤ 9223372036854775807) : Calls Tryz.prog 167 #[.slice A n c] w fun e w' => e = .returned (.int .i64 n) ∧ Below w.heap.size w w' := by
  go_enter Tryz.func167, Tryz.ntmps167
  go_wp2
  go_ret
  exact ⟨rfl, Below.refl _ _⟩
set_option maxHeartbeats 2000000 in
theorem mappedLen_any (A : Option Addr) (c : Nat) (l : List _) (w : World) (h1 : SlAt (encSl encSec) w (Bl w.heap.size) A l) (hl : l.length ≤ 1000000) (htt : True) :
    Calls Tryz.prog 166 #[.slice A l.length c, .func (.func 167) #[] #[]] w (RetSl encInt (l.map lenI) w) := by
  have H1 : Hid (∀ w', Below w.heap.size w w' → SlAt (encSl encSec) w' (Bl w.heap.size) A l) := fun w' hb => h1.below hb
  clear h1
  obtain ⟨cur, hcs, hmk⟩ := makeOf tyInts l.length (by omega) (by omega) w
  have HCS := Lib.hid hcs; clear hcs
  have hO1 := Lib.hid (show OwnW encInt (w.alloc (.cells cur 3)) w.heap.size w.heap.size 3 (.slice (some ⟨w.heap.size, 0, none⟩) 0 l.length) [] from Own.make0 (cur := cur) (Nat.le_refl _) (by unfold maxLen; omega) HCS.out (fun h => h.2 rfl))
  go_enter Tryz.func166, Tryz.ntmps166
  go_wp2
  go_loopw [5, 13] (fun v i wr => ∃ (k : Nat) (B : Option Addr) (vc : Nat) (out : List _), k ≤ l.length ∧ i = .int .i64 k ∧ v = .slice B out.length vc ∧ Below w.heap.size w wr ∧ Hid (out = (l.take k).map lenI) ∧ Hid (OwnW encInt wr w.heap.size w.heap.size 3 (.slice B out.length vc) out)) (fun _ i _ => l.length - (intOf i).toNat)
  case atStart => exact ⟨0, some ⟨w.heap.size, 0, none⟩, l.length, [], by omega, rfl, rfl, ext_alloc (Below.refl _ _), by simp [Hid], hO1.out⟩
  case round =>
    clear hmk
    obtain ⟨k, B, vc, out, hk, rfl, rfl, hB, hout, hown⟩ := hrel
    by_cases hlt : k < l.length
    · have hnn : (0 : Int) ≤ k := by omega
      have hki : (k : Int) < l.length := by omega
      have hol : out.length ≤ k := by rw [hout.out]; simp; omega
      have hszr := hB.size
      obtain ⟨b, off, D, dc, rfl, hb, g0, hD, hn1, hn2⟩ := (H1.out wr hB).sl hlt; have hn3 := hn2; unfold maxLen at hn3; have hn4 : l[k].length ≤ 9223372036854775807 := by omega
      go_wp2_with fail
      refine (sizes1_any D l[k].length dc wr hn4).mono ?_
      rintro e w1 ⟨rfl, hb1⟩
      have hsz1 := hb1.size
      have hB1 : Below w.heap.size w w1 := ext_trans hB hb1
      have HO1 := Lib.hid (hown.out.below hb1)
      have hlt1 : ∀ g, (Value.slice B out.length vc).ownBlock = some g → g < wr.heap.size := fun g hg => (hown.out.lt g hg).2
      have HLT1 := Lib.hid hlt1; clear hlt1
      have HO2 := Lib.hid (Own.alloc HO1.out (fun _ h => h.1.2) (.cells #[.int .i64 (l[k].length : Nat)] 3))
      have HRD : Hid ((encInt).rd (w1.alloc (.cells #[.int .i64 (l[k].length : Nat)] 3)) (fun b => Nw w.heap.size w1.heap.size b ∧ (Value.slice B out.length vc).ownBlock ≠ some b) [.int .i64 (l[k].length : Nat)] (lenI l[k])) := ⟨rfl, by unfold lenI I64; omega⟩
      go_wp2_with (at_builtin; refine Hid.out ?_)
      change wpList _ _ _ _ _ _
      refine wpList_app1 (E := encInt) tyInts rfl _ _ rfl rfl HO2.out (lenI l[k]) [.int .i64 (l[k].length : Nat)] rfl HRD.out (heap_alloc_new _ _) (fun _ h => by simp; have := h.1.2; omega) (by simp; omega) (by unfold maxLen; omega) (by omega) ?_
      intro A' c' w5 hown5 hg5 hat5
      have hok5 := Lib.hid (OwnW.app (hown5.more (S' := fun b => Nw w.heap.size (w1.alloc (.cells #[.int .i64 (l[k].length : Nat)] 3)).heap.size b ∧ (Value.slice B out.length vc).ownBlock ≠ some b) (fun b hb => ⟨hb.1.mono (Nat.le_refl _) (by simp), hb.2⟩) (OwnW_new hown5 hat5 HLT1.out (by simp; omega))) hg5 hat5)
      have hB5 := Lib.hid ((ext_alloc (o := .cells #[.int .i64 (l[k].length : Nat)] 3) hB1).grown hg5 (by simp; omega) (fun g h => (hown.out.lt g h).1))
      clear hown5 hg5 hat5
      go_wp2
      go_roundw
      case rel =>
        refine ⟨k + 1, A', c', out ++ [lenI l[k]], hlt, by go_num, by simp, hB5.out, ?_, ?_⟩
        · rw [List.take_succ_eq_append_getElem hlt, List.map_append, ← hout.out]; exact rfl
        · have := hok5.out; simpa [Hid] using this
      case measure => simp [intOf]; omega
    · have hkk : k = l.length := by omega
      subst hkk
      go_wp2
      go_ret
      have e := hout.out
      rw [List.take_length] at e
      rw [← e]
      obtain ⟨_, p1, p2, p3⟩ := hown.out.parts
      exact ⟨B, vc, rfl, p1, p2, p3, hB⟩
theorem imgSizes_any (A : Option Addr) (c : Nat) (im : List (List Sec)) (w : World) (h1 : SlAt (encSl encSec) w (Bl w.heap.size) A im) (hl : im.length ≤ 1000000) :
    Calls Tryz.prog 144 #[.slice A im.length c] w (RetSl encInt (lens im) w) := by
  have hc := Lib.hid (mappedLen_any A c im w h1 hl trivial)
  clear h1
  obtain ⟨r, hr⟩ : ∃ r, Hid (lens im = r) := ⟨_, Lib.hid rfl⟩
  have hr2 : Hid (im.map lenI = r) := hr
  rw [hr2.out] at hc
  rw [hr.out]
  go_enter Tryz.func144, Tryz.ntmps144
  go_wp2_with fail
  refine hc.out.mono ?_
  rintro e w1 ⟨A1, c1, rfl, r1, r2, r3, hb1⟩
  have HR := Lib.hid (And.intro r1 (And.intro r2 r3)); clear r1 r2 r3
  go_wp2
  go_ret
  exact ⟨A1, c1, rfl, HR.out.1, HR.out.2.1, HR.out.2.2, hb1⟩
theorem badSz_any (n : Int) (w : World) (q : Bool) (hq : badSz n = q) : Calls Tryz.prog 165 #[.int .i64 n] w fun e w' => e = .returned (.bool q) ∧ Below w.heap.size w w' := by
  by_cases c1 : n < 1
  · have c1' : decide (n < 1) = true := by simp [c1]
    go_enter Tryz.func165, Tryz.ntmps165
    go_wp2
    go_ret
    exact ⟨ret_bool (by rw [← hq]; simp [badSz, c1]), Below.refl _ _⟩
  · have c1' : decide (n < 1) = false := by simp; omega
    by_cases c2 : 4096 < n
    · go_enter Tryz.func165, Tryz.ntmps165
      go_wp2
      go_ret
      exact ⟨ret_bool (by rw [← hq]; simp [badSz, c1, c2]), Below.refl _ _⟩
    · go_enter Tryz.func165, Tryz.ntmps165
      go_wp2
      go_ret
      exact ⟨ret_bool (by rw [← hq]; simp [badSz, c1, c2]), Below.refl _ _⟩
set_option maxHeartbeats 1000000 in
theorem indexBad_any (A : Option Addr) (c : Nat) (l : List _) (w : World) (h1 : SlAt encInt w (Bl w.heap.size) A l) (hl : l.length ≤ 9223372036854775807) (htt : True) :
    Calls Tryz.prog 178 #[.slice A l.length c, .func (.func 165) #[] #[]] w fun e w' => (∃ i : Int, e = .returned (.int .i64 i) ∧ (decide (0 ≤ i) = l.any badSz)) ∧ Below w.heap.size w w' := by
  have H1 : Hid (∀ w', Below w.heap.size w w' → SlAt encInt w' (Bl w.heap.size) A l) := fun w' hb => h1.below hb
  clear h1
  go_enter Tryz.func178, Tryz.ntmps178
  go_wp2
  go_loopw [8] (fun i wr => ∃ k : Nat, k ≤ l.length ∧ i = .int .i64 k ∧ Below w.heap.size w wr ∧ Hid (∀ y ∈ l.take k, badSz y = false)) (fun i _ => l.length - (intOf i).toNat)
  case atStart => exact ⟨0, by omega, rfl, Below.refl _ _, by simp [Hid]⟩
  case round =>
    obtain ⟨k, hk, rfl, hB, hz⟩ := hrel
    by_cases hlt : k < l.length
    · have hnn : (0 : Int) ≤ k := by omega
      have hki : (k : Int) < l.length := by omega
      have hszr := hB.size
      obtain ⟨b, off, rfl, hb, g0, hi1, hi2⟩ := (H1.out wr hB).int hlt
      obtain ⟨q, hq⟩ : ∃ q, Hid (badSz l[k] = q) := ⟨badSz l[k], Lib.hid rfl⟩
      go_wp2_with fail
      refine (badSz_any l[k] wr q hq.out).mono ?_
      rintro e w1 ⟨rfl, hb1⟩; clear g0
      have hB1 : Below w.heap.size w w1 := ext_trans hB hb1
      cases q with
      | true =>
        go_wp2
        go_ret
        refine ⟨⟨k, rfl, ?_⟩, hB1⟩
        rw [decide_eq_true hnn, eq_comm, List.any_eq_true]
        exact ⟨l[k], List.getElem_mem hlt, hq.out⟩
      | false =>
        go_wp2
        go_roundw
        case rel =>
          refine ⟨k + 1, hlt, by go_num, hB1, ?_⟩
          intro y hy
          rw [List.take_succ_eq_append_getElem hlt] at hy
          rcases List.mem_append.1 hy with hy | hy
          · exact hz.out y hy
          · rw [List.mem_singleton.1 hy]; exact hq.out
        case measure => simp [intOf]; omega
    · have hkk : k = l.length := by omega
      subst hkk
      go_wp2
      go_ret
      refine ⟨⟨-1, rfl, ?_⟩, hB⟩
      have := hz.out
      rw [List.take_length] at this
      rw [eq_comm]
      show l.any badSz = false
      rw [List.any_eq_false]
      intro y hy
      simp [this y hy]
theorem containsBad_any (A : Option Addr) (c : Nat) (l : List _) (w : World) (h1 : SlAt encInt w (Bl w.heap.size) A l) (hl : l.length ≤ 9223372036854775807) (htt : True) (q : Bool) (hq : l.any badSz = q) :
    Calls Tryz.prog 164 #[.slice A l.length c, .func (.func 165) #[] #[]] w fun e w' => e = .returned (.bool q) ∧ Below w.heap.size w w' := by
  have hc := Lib.hid (indexBad_any A c l w h1 hl trivial)
  clear h1
  rw [hq] at hc
  clear hq
  go_enter Tryz.func164, Tryz.ntmps164
  go_wp2_with fail
  refine hc.out.mono ?_
  rintro e w1 ⟨⟨i, rfl, hi⟩, hb1⟩
  go_wp2
  go_ret
  exact ⟨rfl, hb1⟩
theorem checkSizes_any (A : Option Addr) (c n : Nat) (sz : List Int) (w : World) (hsn : sz.length = n) (h1 : SlAt encInt w (Bl w.heap.size) A sz) (hl : n ≤ 9223372036854775807) (r : Int) (hr : sizesN sz = r) :
    Calls Tryz.prog 143 #[.slice A n c] w fun e w' => e = .returned (.int .i64 r) ∧ Below w.heap.size w w' := by
  subst hsn
  have HR := Lib.hid hr; clear hr
  obtain ⟨q, hq⟩ : ∃ q, Hid (sz.any badSz = q) := ⟨_, Lib.hid rfl⟩
  have hc := Lib.hid (containsBad_any A c sz w h1 hl trivial q hq.out)
  clear h1
  by_cases c1 : sz.length < 1
  · have c1' : decide ((sz.length : Int) < 1) = true := by simp; omega
    go_enter Tryz.func143, Tryz.ntmps143
    go_wp2
    go_ret
    exact ⟨ret_int (by rw [← HR.out]; exact (if_pos (Or.inl c1)).symm), Below.refl _ _⟩
  · by_cases c2 : 8 < sz.length
    · go_enter Tryz.func143, Tryz.ntmps143
      go_wp2
      go_ret
      exact ⟨ret_int (by rw [← HR.out]; exact (if_pos (Or.inr c2)).symm), Below.refl _ _⟩
    · go_enter Tryz.func143, Tryz.ntmps143
      go_wp2_with fail
      refine hc.out.mono ?_
      rintro e w1 ⟨rfl, hb1⟩
      cases q with
      | true =>
        go_wp2
        go_ret
        exact ⟨ret_int (by rw [← HR.out, sizesN, if_neg (by omega), if_pos hq.out]), hb1⟩
      | false =>
        go_wp2
        go_ret
        exact ⟨ret_int (by rw [← HR.out, sizesN, if_neg (by omega), if_neg (by rw [hq.out]; simp)]), hb1⟩
/-- what New returns -/
def newL (sz : List Int) : List (List Sec) := if sizesN sz = 0 then sz.map zimg else []
theorem sizes_range {sz : List Int} (h : sizesN sz = 0) : sz.length ≤ 8 ∧ ∀ x ∈ sz, 1 ≤ x ∧ x ≤ 4096 := by
  unfold sizesN at h
  split at h
  · cases h
  · split at h
    · cases h
    · rename_i h1 h2
      refine ⟨by omega, fun x hx => ?_⟩
      have hb : badSz x = false := by
        cases hq : badSz x with
        | false => rfl
        | true => exact absurd (List.any_eq_true.2 ⟨x, hx, hq⟩) h2
      simp only [badSz, Bool.or_eq_false_iff, decide_eq_false_iff_not] at hb
      omega
theorem imgNew_any (A : Option Addr) (c : Nat) (sz : List Int) (w : World) (h1 : SlAt encInt w (Bl w.heap.size) A sz) (hl : sz.length ≤ 9223372036854775807) (en : Int) (hen : sizesN sz = en) (im : List (List Sec)) (him : newL sz = im) :
    Calls Tryz.prog 112 #[.slice A sz.length c] w (RetSlN (encSl encSec) im en w) := by
  have HEN := Lib.hid hen; clear hen
  have HIM := Lib.hid him; clear him
  have hc := Lib.hid (checkSizes_any A c sz.length sz w rfl h1 hl en HEN.out)
  by_cases he : en = 0
  · have he1 : (en != 0) = false := by simp [he]
    have HE := Lib.hid he; clear he
    obtain ⟨z1, z2⟩ := sizes_range (HEN.out.trans HE.out)
    have HZ2 := Lib.hid z2; clear z2
    have HI2 : Hid (sz.map zimg = im) := by rw [Hid, ← HIM.out, newL, if_pos (HEN.out.trans HE.out)]
    have H1 := Lib.hid h1; clear h1
    go_enter Tryz.func112, Tryz.ntmps112
    go_wp2_with fail
    refine hc.out.mono ?_
    rintro e w1 ⟨rfl, hb1⟩
    have hm := Lib.hid (mappedNew_any A c sz w1 (H1.out.fwd hb1) (by omega) (fun x hx => by have := HZ2.out x hx; omega))
    rw [HI2.out] at hm
    go_wp2_with fail
    refine hm.out.mono ?_
    rintro e w2 ⟨A2, c2, rfl, r1, r2, r3, hb2⟩
    have HR := Lib.hid (And.intro r1 (And.intro r2 r3)); clear r1 r2 r3
    have hs1 := hb1.size
    go_wp2
    go_ret2
    rw [HE.out]
    exact ⟨A2, c2, rfl, HR.out.1, HR.out.2.1, HR.out.2.2.more (fun g hg => hg.mono hs1 (Nat.le_refl _)), ext_trans hb1 hb2⟩
  · have he1 : (en != 0) = true := by simp [he]
    have HE := Lib.hid he; clear he
    clear h1
    go_enter Tryz.func112, Tryz.ntmps112
    go_wp2_with fail
    refine hc.out.mono ?_
    rintro e w1 ⟨rfl, hb1⟩
    go_wp2
    go_ret2
    rw [← HIM.out, newL, if_neg (by rw [HEN.out]; exact HE.out)]
    exact ⟨none, 0, rfl, by simp, by simp, SlAt.nil_, hb1⟩
theorem imgCheck_any (A : Option Addr) (c n : Nat) (im : List (List Sec)) (w : World) (hn : im.length = n) (h1 : SlAt (encSl encSec) w (Bl w.heap.size) A im) (hl : n ≤ 1000000) (r : Int) (hr : sizesN (lens im) = r) :
    Calls Tryz.prog 107 #[.slice A n c] w fun e w' => e = .returned (.int .i64 r) ∧ Below w.heap.size w w' := by
  subst hn
  have hc := Lib.hid (imgSizes_any A c im w h1 hl)
  have HR := Lib.hid hr; clear hr h1
  obtain ⟨sz, hsz⟩ : ∃ sz, Hid (lens im = sz) := ⟨_, Lib.hid rfl⟩
  have hlz : sz.length = im.length := by rw [← hsz.out, lens, List.length_map]
  have HLZ := Lib.hid hlz
  have hlz2 : sz.length ≤ 1000000 := by omega
  rw [hsz.out] at hc HR
  clear hlz
  go_enter Tryz.func107, Tryz.ntmps107
  go_wp2_with fail
  refine hc.out.mono ?_
  rintro e w1 ⟨A1, c1, rfl, r1, r2, r3, hb1⟩
  have HR3 := Lib.hid (r3.more (fun _ h => h.2)); clear r1 r2 r3
  go_wp2_with fail
  refine (checkSizes_any A1 c1 _ sz w1 rfl HR3.out (by omega) r HR.out).mono ?_
  rintro e w2 ⟨rfl, hb2⟩
  go_wp2
  go_ret
  exact ⟨rfl, ext_trans hb1 hb2⟩
end Go.Proofs.YtgndgkjefgjamaaGreat

namespace Go.Proofs.YtgndgkjefgjamaaGreat
open Go.RowKit

theorem lens_len (im : List (List Sec)) : (lens im).length = im.length := List.length_map _
theorem lens_at {im : List (List Sec)} {k : Nat} (hk : k < im.length) : (lens im)[k]'(by rw [lens_len]; exact hk) = (im[k].length : Int) := by simp [lens, lenI]
set_option maxHeartbeats 2000000 in
theorem imgFits1_any (A : Option Addr) (c : Nat) (im : List (List Sec)) (v s : Int) (D : Option Addr) (dc : Nat) (data : List Sec) (w : World) (h1 : SlAt (encSl encSec) w (Bl w.heap.size) A im) (hl : im.length ≤ 1000000) (hn : data.length ≤ 9223372036854775807) (hv : I64 v) (hs2 : I64 s) :
    Calls Tryz.prog 117 #[.slice A im.length c, .agg #[.int .i64 v, .int .i64 s, .slice D data.length dc]] w fun e w' => e = .returned (.int .i64 (fitsN (lens im) (v, s, data))) ∧ Below w.heap.size w w' := by
  obtain ⟨hv1, hv2⟩ := hv
  obtain ⟨hs1, hs2⟩ := hs2
  by_cases c1 : v < 0 ∨ im.length ≤ v
  · have hr : Hid (fitsN (lens im) (v, s, data) = 7) := fitsN_7 (by rw [lens_len]; exact c1)
    rw [hr.out]
    go_enter Tryz.func117, Tryz.ntmps117
    rcases c1 with c1 | c1
    · have c1' : decide (v < 0) = true := by simp [c1]
      go_wp2
      go_ret
      exact ⟨rfl, ext_alloc (Below.refl _ _)⟩
    · have c0 : decide (v < 0) = false := by simp; omega
      go_wp2
      go_ret
      exact ⟨rfl, ext_alloc (Below.refl _ _)⟩
  · have c2 : 0 ≤ v := by omega
    have c3 : v < im.length := by omega
    obtain ⟨k, rfl⟩ := Int.eq_ofNat_of_zero_le c2
    have hk : k < im.length := by omega
    have hkz : k < (lens im).length := by rw [lens_len]; exact hk
    have hat := lens_at hk
    have HAT := Lib.hid hat; clear hat
    obtain ⟨b, off, E, ec, rfl, hb, hcell, hsl, hm1, hm2⟩ := h1.sl hk
    have hlt : b < w.heap.size := hb
    unfold maxLen at hm2
    have d0 : decide ((k : Int) < 0) = false := by simp
    have d0' : decide ((im.length : Int) ≤ (k : Int)) = false := by simp; omega
    clear c1
    by_cases c4 : data.length = 0
    · have hr : Hid (fitsN (lens im) ((k : Int), s, data) = 1) := fitsN_1 hkz c4
      rw [hr.out]
      have c4' : ((data.length : Int) == 0) = true := by simp [c4]
      have C4 := Lib.hid c4; clear c4
      go_enter Tryz.func117, Tryz.ntmps117
      go_wp2
      go_ret
      exact ⟨rfl, ext_alloc (Below.refl _ _)⟩
    · have c4' : ((data.length : Int) == 0) = false := by rw [beq_eq_false_iff_ne]; omega
      have c5 : 0 < data.length := by omega
      have C4 := Lib.hid c4; clear c4
      by_cases d1 : s < 0
      · have hr : Hid (fitsN (lens im) ((k : Int), s, data) = 2) := fitsN_2 hkz C4.out (Or.inl d1)
        rw [hr.out]
        have d1' : decide (s < 0) = true := by simp [d1]
        go_enter Tryz.func117, Tryz.ntmps117
        go_wp2
        go_quiet (fail)
        go_wp2
        go_ret
        exact ⟨rfl, bDrew (ext_alloc (Below.refl _ _)) _⟩
      · have d1' : decide (s < 0) = false := by simp; omega
        by_cases d2 : (im[k].length : Int) - data.length < s
        · have hr : Hid (fitsN (lens im) ((k : Int), s, data) = 2) := fitsN_2 hkz C4.out (by rw [HAT.out]; omega)
          rw [hr.out]
          have d2' : decide ((im[k].length : Int) - (data.length : Int) < s) = true := by simp [d2]
          go_enter Tryz.func117, Tryz.ntmps117
          go_wp2
          go_quiet (fail)
          go_wp2
          go_ret
          exact ⟨rfl, bDrew (ext_alloc (Below.refl _ _)) _⟩
        · have hr : Hid (fitsN (lens im) ((k : Int), s, data) = 0) := fitsN_0 hkz C4.out (by rw [HAT.out]; omega)
          rw [hr.out]
          have d2' : decide ((im[k].length : Int) - (data.length : Int) < s) = false := by simp; omega
          go_enter Tryz.func117, Tryz.ntmps117
          go_wp2
          go_quiet (fail)
          go_wp2
          go_ret
          exact ⟨rfl, bDrew (ext_alloc (Below.refl _ _)) _⟩
/-- Fits of a correct image -/
theorem imgFits_any (A : Option Addr) (c n : Nat) (im : List (List Sec)) (v s : Int) (D : Option Addr) (dc m : Nat) (data : List Sec) (w : World) (hn : im.length = n) (hm : data.length = m) (h1 : SlAt (encSl encSec) w (Bl w.heap.size) A im) (hl : n ≤ 1000000) (hz : sizesN (lens im) = 0) (hd : m ≤ 9223372036854775807) (hv : I64 v) (hs2 : I64 s) (pn : Int) (hp : fitsN (lens im) (v, s, data) = pn) :
    Calls Tryz.prog 62 #[.slice A n c, .agg #[.int .i64 v, .int .i64 s, .slice D m dc]] w fun e w' => e = .returned (.int .i64 pn) ∧ Below w.heap.size w w' := by
  subst hn hm
  have H1 := Lib.hid h1; clear h1
  have hc := Lib.hid (imgCheck_any A c im.length im (w.alloc (.cells #[.int .i64 v, .int .i64 s, .slice D data.length dc] 45)) rfl (H1.out.fwd (ext_alloc (Below.refl _ _))) hl 0 hz)
  have HP := Lib.hid hp; have HV := Lib.hid hv; have HS := Lib.hid hs2
  clear hp hz hv hs2
  go_enter Tryz.func62, Tryz.ntmps62
  go_wp2_with fail
  refine hc.out.mono ?_
  rintro e w1 ⟨rfl, hb1⟩
  have hB1 : Below w.heap.size w w1 := (by repeat (first | exact Below.refl _ _ | assumption | refine ext_alloc ?_ | refine ext_drew ?_ | refine ext_trans ?_ (by assumption)))
  have hbox := boxAft hb1
  obtain ⟨t0, t1, t2, tf⟩ := blk3 hbox
  have hf := imgFits1_any A c im v s D dc data w1 (H1.out.fwd hB1) hl hd HV.out HS.out
  rw [HP.out] at hf
  have HF := Lib.hid hf; clear hf hbox
  go_wp2_with fail
  refine HF.out.mono ?_
  rintro e w2 ⟨rfl, hb2⟩
  have hB2 : Below w.heap.size w w2 := (by repeat (first | exact Below.refl _ _ | assumption | refine ext_alloc ?_ | refine ext_drew ?_ | refine ext_trans ?_ (by assumption)))
  clear t0 t1 t2 tf
  go_wp2
  go_ret
  exact ⟨rfl, hB2⟩
theorem one_box {w : World} {b : Nat} {T : TypeId} {c0 : Value} (h : w.heap[b]? = some (.cells #[c0] T (0, 0))) : w.cell? ⟨b, 0, none⟩ = some c0 ∧ ∀ j, w.frozen? ⟨b, j, none⟩ = false :=
  ⟨cell_of_row w b 0 _ T _ h, fun j => by simp [World.frozen?, h]⟩
theorem checkI1 (v s : Int) (m : Nat) (D : Option Addr) (dc : Nat) (w : World) (hd : m ≤ 9223372036854775807) (data : List Sec) (hm : data.length = m) (A : Option Addr) (c bx : Nat) (im : List (List Sec)) (hbx : w.heap[bx]? = some (.cells #[.slice A im.length c] 23 (0, 0))) (h1 : SlAt (encSl encSec) w (Bl w.heap.size) A im) (hz : sizesN (lens im) = 0) (hv : I64 v) (hs2 : I64 s) (pn : Int) (hp : fitsN (lens im) (v, s, data) = pn) :
    Calls Tryz.prog 114 #[.agg #[.int .i64 v, .int .i64 s, .slice D m dc], .pointer (some ⟨bx, 0, none⟩)] w fun e w' => e = .returned (.int .i64 pn) ∧ Below w.heap.size w w' := by
  have hl := (sizes_range hz).1
  rw [lens_len] at hl
  have hbl := (Array.getElem?_eq_some_iff.1 hbx).1
  have hc := Lib.hid (imgFits_any A c im.length im v s D dc m data (w.alloc (.cells #[.int .i64 v, .int .i64 s, .slice D m dc] 45)) rfl hm (h1.fwd (ext_alloc (Below.refl _ _))) (by omega) hz hd hv hs2 pn hp)
  obtain ⟨t0, tf⟩ := one_box hbx
  clear hp hz hv hs2 h1 hbx hm
  go_enter Tryz.func114, Tryz.ntmps114
  go_wp2_with fail
  refine hc.out.mono ?_
  rintro e w1 ⟨rfl, hb1⟩
  have hB1 : Below w.heap.size w w1 := (by repeat (first | exact Below.refl _ _ | assumption | refine ext_alloc ?_ | refine ext_drew ?_ | refine ext_trans ?_ (by assumption)))
  clear t0 tf
  go_wp2
  go_ret
  exact ⟨rfl, hB1⟩
set_option maxHeartbeats 4000000 in
theorem checkI_any (A : Option Addr) (c : Nat) (l : List Wr) (w : World) (h1 : SlAt encWr w (Bl w.heap.size) A l) (hs : l.length ≤ 9223372036854775807) (IA : Option Addr) (ic bx : Nat) (im : List (List Sec)) (hbx : w.heap[bx]? = some (.cells #[.slice IA im.length ic] 23 (0, 0))) (h2 : SlAt (encSl encSec) w (Bl w.heap.size) IA im) (hz0 : sizesN (lens im) = 0) (f : Wr → Int) (hf : fitsN (lens im) = f) :
    Calls Tryz.prog 113 #[.slice A l.length c, .func (.func 114) #[] #[.pointer (some ⟨bx, 0, none⟩)]] w fun e w' => e = .returned (.int .i64 (chkN f l)) ∧ Below w.heap.size w w' := by
  have H2 : Hid (∀ w', Below w.heap.size w w' → SlAt encWr w' (Bl w.heap.size) A l) := fun w' hb => h1.below hb
  have HI : Hid (∀ w', Below w.heap.size w w' → SlAt (encSl encSec) w' (Bl w'.heap.size) IA im) := fun w' hb => h2.fwd hb
  have hbl := (Array.getElem?_eq_some_iff.1 hbx).1
  have HBX : Hid (∀ w', Below w.heap.size w w' → w'.heap[bx]? = some (.cells #[.slice IA im.length ic] 23 (0, 0))) := fun w' hb => (hb.block _ hbl).trans hbx
  have HOK : Hid (∀ x, f x = 0 → 0 ≤ x.1 ∧ x.1 < 8 ∧ 0 < x.2.2.length ∧ 0 ≤ x.2.1 ∧ x.2.1 + x.2.2.length ≤ 4096) := fun x h => fits_ok hz0 (by rw [hf]; exact h)
  have HF := Lib.hid hf; have HZ0 := Lib.hid hz0
  clear h1 h2 hbx hf hz0
  go_enter Tryz.func113, Tryz.ntmps113
  go_wp2
  go_loopw [11] (fun i wr => ∃ k : Nat, k ≤ l.length ∧ i = .int .i64 k ∧ Below w.heap.size w wr ∧ Hid (∀ x ∈ (withPrev l).take k, stepErr f x = 0)) (fun i _ => l.length - (intOf i).toNat)
  case atStart => exact ⟨0, by omega, rfl, Below.refl _ _, by simp [Hid]⟩
  case round =>
    obtain ⟨k, hk, rfl, hB, hz⟩ := hrel
    by_cases hlt : k < l.length
    · obtain ⟨b, off, D, dc, rfl, hb, g0, g1, g2, hD, hn1, hn2, hi1, hi2⟩ := (H2.out wr hB).wr hlt
      have hbl : b < w.heap.size := hb
      have hnn : (0 : Int) ≤ k := by omega
      have hki : (k : Int) < l.length := by omega
      unfold maxLen at hn2
      have hn3 : l[k].2.2.length ≤ 9223372036854775807 := by omega
      have hsz := hB.size
      obtain ⟨pn, hpn⟩ : ∃ pn, Hid (f l[k] = pn) := ⟨f l[k], Lib.hid rfl⟩
      obtain ⟨x, hx⟩ : ∃ x, Hid (x = l[k]) := ⟨_, Lib.hid rfl⟩
      rw [← hx.out] at g0 g1 g2 hn1 hi1 hi2 hn3 hpn
      obtain ⟨v, s, data⟩ := x
      simp only at g0 g1 g2 hn1 hi1 hi2 hn3 hpn
      have hcall := fun W (hW : Below w.heap.size w W) => checkI1 v s data.length D dc W hn3 data rfl IA ic bx im (HBX.out W hW) (HI.out W hW) HZ0.out hi1 hi2 pn (by rw [HF.out]; exact hpn.out)
      have HCALL := Lib.hid hcall; clear hcall
      by_cases hp0 : pn = 0
      · have hp1 : (pn != 0) = false := by simp [hp0]
        have HP := Lib.hid hp0; clear hp0
        cases k with
        | zero =>
          have hpr : Hid ((withPrev l)[0]'(by rw [withPrev_len]; exact hlt) = (none, (v, s, data))) := by rw [withPrev_zero hlt, ← hx.out]; exact rfl
          simp only [Nat.zero_mul, Nat.add_zero] at g0 g1 g2
          go_wp2_with fail
          refine (HCALL.out _ (hB.alloc hsz _)).mono ?_
          rintro e w1 ⟨rfl, hb1⟩
          have HB1 := Lib.hid ((hB.alloc hsz _).trans (hb1.mono (by simp; omega)))
          clear g0 g1 g2
          go_wp2
          go_roundw
          case rel => exact ⟨1, hlt, by go_num, HB1.out, takeSnoc hlt _ hpr.out hz.out (by simp [stepErr, hpn.out, HP.out])⟩
          case measure => simp [intOf]; omega
        | succ k =>
          have hlt1 : k < l.length := by omega
          have hpr : Hid ((withPrev l)[k + 1]'(by rw [withPrev_len]; exact hlt) = (some l[k], (v, s, data))) := by rw [withPrev_succ hlt, ← hx.out]; exact rfl
          have hpok := HOK.out _ (takePrev hlt1 hz.out)
          obtain ⟨b', off', D', dc', he, hb', f0, f1, f2, hD', hm1, hm2, hj1, hj2⟩ := (H2.out wr hB).wr hlt1
          injection he with he
          injection he with he1 he2
          subst he1 he2
          obtain ⟨y, hy⟩ : ∃ y, Hid (y = l[k]) := ⟨_, Lib.hid rfl⟩
          rw [← hy.out] at f0 f1 f2 hm1 hj1 hj2 hpok hpr
          obtain ⟨v', s', data'⟩ := y
          simp only at f0 f1 f2 hm1 hj1 hj2 hpok
          obtain ⟨o1, o2, o3, o4, o5⟩ := hpok
          have e5 : ((k + 1 : Nat) : Int) = (k : Int) + 1 := by omega
          rw [e5] at hki ⊢
          have hk1 : (((k : Int) + 1) == 0) = false := by rw [beq_eq_false_iff_ne]; omega
          clear hD hD' hn1 hm1 hm2 hn2
          by_cases d1 : v < v'
          · have hst : Hid (stepErr f (some (v', s', data'), (v, s, data)) = 3) := by
              unfold stepErr
              rw [if_neg (by rw [hpn.out, HP.out]; simp)]
              exact if_pos (Or.inl d1)
            go_wp2_with fail
            refine (HCALL.out _ (hB.alloc hsz _)).mono ?_
            rintro e w1 ⟨rfl, hb1⟩
            have hB1 : Below w.heap.size w w1 := (hB.alloc hsz _).trans (hb1.mono (by simp; omega))
            have r0 := cellAft hb1 f0
            have r1 := cellAft hb1 f1
            have r2 := cellAft hb1 f2
            obtain ⟨t0, t1, t2, tf⟩ := blk3 (boxAft hb1)
            have hsz1 := hb1.size
            simp only [World.size_alloc] at hsz1
            have hwl : wr.heap.size < w1.heap.size := by omega
            have hbw : b < w1.heap.size := by omega
            have HB1 := Lib.hid hB1; clear hB1 hb1 f0 f1 f2 g0 g1 g2
            go_wp2
            go_ret
            refine ⟨ret_int ?_, HB1.out.alloc (by omega) _⟩
            have e := chk_at hlt _ hpr.out hz.out (by rw [hst.out]; decide)
            rw [e, hst.out]
          · by_cases d2 : v = v'
            · have d2' : (v == v') = true := by simp [d2]
              have HD2 := Lib.hid d2; clear d2
              by_cases d3 : s ≤ s' + data'.length
              · have hst : Hid (stepErr f (some (v', s', data'), (v, s, data)) = 3) := by
                  unfold stepErr
                  rw [if_neg (by rw [hpn.out, HP.out]; simp)]
                  exact if_pos (Or.inr ⟨HD2.out, d3⟩)
                go_wp2_with fail
                refine (HCALL.out _ (hB.alloc hsz _)).mono ?_
                rintro e w1 ⟨rfl, hb1⟩
                have hB1 : Below w.heap.size w w1 := (hB.alloc hsz _).trans (hb1.mono (by simp; omega))
                have r0 := cellAft hb1 f0
                have r1 := cellAft hb1 f1
                have r2 := cellAft hb1 f2
                obtain ⟨t0, t1, t2, tf⟩ := blk3 (boxAft hb1)
                have hsz1 := hb1.size
                simp only [World.size_alloc] at hsz1
                have hwl : wr.heap.size < w1.heap.size := by omega
                have hbw : b < w1.heap.size := by omega
                have HB1 := Lib.hid hB1; clear hB1 hb1 f0 f1 f2 g0 g1 g2
                go_wp2
                go_ret
                refine ⟨ret_int ?_, HB1.out.alloc (by omega) _⟩
                have e := chk_at hlt _ hpr.out hz.out (by rw [hst.out]; decide)
                rw [e, hst.out]
              · have hst : Hid (stepErr f (some (v', s', data'), (v, s, data)) = 0) := by
                  unfold stepErr
                  rw [if_neg (by rw [hpn.out, HP.out]; simp)]
                  exact if_neg (fun h => by have := HD2.out; simp only at h; omega)
                go_wp2_with fail
                refine (HCALL.out _ (hB.alloc hsz _)).mono ?_
                rintro e w1 ⟨rfl, hb1⟩
                have hB1 : Below w.heap.size w w1 := (hB.alloc hsz _).trans (hb1.mono (by simp; omega))
                have r0 := cellAft hb1 f0
                have r1 := cellAft hb1 f1
                have r2 := cellAft hb1 f2
                obtain ⟨t0, t1, t2, tf⟩ := blk3 (boxAft hb1)
                have hsz1 := hb1.size
                simp only [World.size_alloc] at hsz1
                have hwl : wr.heap.size < w1.heap.size := by omega
                have hbw : b < w1.heap.size := by omega
                have HB1 := Lib.hid hB1; clear hB1 hb1 f0 f1 f2 g0 g1 g2
                go_wp2
                go_roundw
                case rel => exact ⟨k + 1 + 1, hlt, by go_num, HB1.out.alloc (by omega) _, takeSnoc hlt _ hpr.out hz.out hst.out⟩
                case measure => simp [intOf]; omega
            · have d2' : (v == v') = false := by simp [d2]
              have HD2 := Lib.hid d2; clear d2
              have hst : Hid (stepErr f (some (v', s', data'), (v, s, data)) = 0) := by
                unfold stepErr
                rw [if_neg (by rw [hpn.out, HP.out]; simp)]
                exact if_neg (fun h => by have := HD2.out; simp only at h; omega)
              go_wp2_with fail
              refine (HCALL.out _ (hB.alloc hsz _)).mono ?_
              rintro e w1 ⟨rfl, hb1⟩
              have hB1 : Below w.heap.size w w1 := (hB.alloc hsz _).trans (hb1.mono (by simp; omega))
              have r0 := cellAft hb1 f0
              have r1 := cellAft hb1 f1
              have r2 := cellAft hb1 f2
              obtain ⟨t0, t1, t2, tf⟩ := blk3 (boxAft hb1)
              have hsz1 := hb1.size
              simp only [World.size_alloc] at hsz1
              have hwl : wr.heap.size < w1.heap.size := by omega
              have hbw : b < w1.heap.size := by omega
              have HB1 := Lib.hid hB1; clear hB1 hb1 f0 f1 f2 g0 g1 g2
              go_wp2
              go_roundw
              case rel => exact ⟨k + 1 + 1, hlt, by go_num, HB1.out.alloc (by omega) _, takeSnoc hlt _ hpr.out hz.out hst.out⟩
              case measure => simp [intOf]; omega
      · have hp1 : (pn != 0) = true := by simp [hp0]
        have HP := Lib.hid hp0; clear hp0
        have hst : Hid (∀ o : Option Wr, stepErr f (o, (v, s, data)) = pn) := fun o => by
          unfold stepErr
          rw [if_pos (by rw [hpn.out]; exact HP.out)]
          exact hpn.out
        go_wp2_with fail
        refine (HCALL.out _ (hB.alloc hsz _)).mono ?_
        rintro e w1 ⟨rfl, hb1⟩
        have HB1 := Lib.hid ((hB.alloc hsz _).trans (hb1.mono (by simp; omega)))
        clear g0 g1 g2
        go_wp2
        go_ret
        refine ⟨ret_int ?_, HB1.out⟩
        cases k with
        | zero =>
          have e := chk_at hlt _ ((withPrev_zero hlt).trans (by rw [← hx.out])) hz.out (by rw [hst.out]; exact HP.out)
          rw [e, hst.out]
        | succ k =>
          have e := chk_at hlt _ ((withPrev_succ hlt).trans (by rw [← hx.out])) hz.out (by rw [hst.out]; exact HP.out)
          rw [e, hst.out]
    · have hkk : k = l.length := by omega
      subst hkk
      go_wp2
      go_ret
      exact ⟨ret_int (chk_zero hz.out).symm, hB⟩
end Go.Proofs.YtgndgkjefgjamaaGreat

namespace Go.Proofs.YtgndgkjefgjamaaGreat
open Go.RowKit

set_option maxHeartbeats 2000000 in
theorem coCheck_any (A Z : Option Addr) (c zc : Nat) (l : List Wr) (sz : List Int) (w : World) (h1 : SlAt encWr w (Bl w.heap.size) A l) (hs : l.length ≤ 9223372036854775807) (h2 : SlAt encInt w (Bl w.heap.size) Z sz) (hzl : sz.length ≤ 9223372036854775807) (r : Int) (hr : chkS l sz = r) :
    Calls Tryz.prog 57 #[.slice A l.length c, .slice Z sz.length zc] w fun e w' => e = .returned (.int .i64 r) ∧ Below w.heap.size w w' := by
  have HR := Lib.hid hr; clear hr
  have H1 := Lib.hid h1; clear h1
  obtain ⟨en, hen⟩ : ∃ en, Hid (sizesN sz = en) := ⟨_, Lib.hid rfl⟩
  obtain ⟨im, him⟩ : ∃ im, Hid (newL sz = im) := ⟨_, Lib.hid rfl⟩
  have hc := Lib.hid (imgNew_any Z zc sz w h2 hzl en hen.out im him.out)
  clear h2
  go_enter Tryz.func57, Tryz.ntmps57
  go_wp2_with fail
  refine hc.out.mono ?_
  rintro e w1 ⟨A1, c1, rfl, r1, r2, r3, hb1⟩
  have HS3 := Lib.hid (r3.more (fun _ h => h.2)); clear r1 r2 r3
  by_cases he : en = 0
  · have he1 : (en != 0) = false := by simp [he]
    have HE := Lib.hid he; clear he
    have hlens : lens im = sz := by
      rw [← him.out, newL, if_pos (hen.out.trans HE.out), lens, List.map_map]
      have hp := (sizes_range (hen.out.trans HE.out)).2
      have : ∀ x ∈ sz, (lenI ∘ zimg) x = x := fun x hx => by
        have := hp x hx
        simp only [Function.comp, lenI, zimg_len]; omega
      calc sz.map (lenI ∘ zimg) = sz.map id := List.map_congr_left this
        _ = sz := List.map_id _
    have HL := Lib.hid hlens; clear hlens
    have hB2 : Below w.heap.size w (w1.alloc (.cells #[.slice A1 im.length c1] 23)) := (by repeat (first | exact Below.refl _ _ | assumption | refine ext_alloc ?_ | refine ext_drew ?_ | refine ext_trans ?_ (by assumption)))
    have hk := Lib.hid (checkI_any A c l (w1.alloc (.cells #[.slice A1 im.length c1] 23)) (H1.out.fwd hB2) hs A1 c1 w1.heap.size im (heap_alloc_new _ _) (HS3.out.fwd (ext_alloc (Below.refl _ _))) (by rw [HL.out]; exact hen.out.trans HE.out) _ rfl)
    obtain ⟨k, hkk⟩ : ∃ k, Hid (chkN (fitsN (lens im)) l = k) := ⟨_, Lib.hid rfl⟩
    rw [hkk.out] at hk
    go_wp2_with fail
    refine hk.out.mono ?_
    rintro e w2 ⟨rfl, hb2⟩
    have hB3 : Below w.heap.size w w2 := (by repeat (first | exact Below.refl _ _ | assumption | refine ext_alloc ?_ | refine ext_drew ?_ | refine ext_trans ?_ (by assumption)))
    go_wp2
    go_ret
    refine ⟨ret_int ?_, hB3⟩
    rw [← HR.out, chkS, if_neg (by rw [hen.out, HE.out]; simp), ← hkk.out, HL.out]
  · have he1 : (en != 0) = true := by simp [he]
    have HE := Lib.hid he; clear he
    have hB2 : Below w.heap.size w (w1.alloc (.cells #[.slice A1 im.length c1] 23)) := (by repeat (first | exact Below.refl _ _ | assumption | refine ext_alloc ?_ | refine ext_drew ?_ | refine ext_trans ?_ (by assumption)))
    go_wp2
    go_ret
    refine ⟨ret_int ?_, hB2⟩
    rw [← HR.out, chkS, if_pos (by rw [hen.out]; exact HE.out), hen.out]
end Go.Proofs.YtgndgkjefgjamaaGreat
namespace Go.Proofs.YtgndgkjefgjamaaGreat
open Go.RowKit

theorem cloneSecs_any (A : Option Addr) (c n : Nat) (l : List _) (w : World) (hn : l.length = n) (h1 : SlAt encSec w (Bl w.heap.size) A l) (hl : n ≤ 1000000) :
    Calls Tryz.prog 105 #[.slice A n c] w fun e w' => ∃ A' c', e = .returned (.slice A' n c') ∧ n ≤ c' ∧ c' ≤ maxLen ∧ SlAt encSec w' (Nw w.heap.size w'.heap.size) A' l ∧ Below w.heap.size w w' := by
  cases A with
  | none =>
    have h0 : l = [] := by
      rcases Decidable.em (l.length = 0) with h | h
      · exact List.eq_nil_of_length_eq_zero h
      · obtain ⟨b, off, he, _⟩ := h1 (by intro e; rw [e] at h; exact h rfl)
        cases he
    subst h0
    subst hn
    have hE := fun W => Lib.run_eql_slice_nil (P := Tryz.prog) W 43 95 none 0 c 0 0 Tryz.underlying43
    go_enter Tryz.func105, Tryz.ntmps105
    go_wp2
    go_ret
    exact ⟨none, 0, rfl, by simp, by simp, SlAt.nil_, Below.refl _ _⟩
  | some ad =>
    have hO := Lib.hid (show Own encSec (w.alloc (.cells #[] 95)) w.heap.size 95 (Bl w.heap.size) (.slice (some ⟨w.heap.size, 0, none⟩) 0 0) [] from Own.make0 (cur := #[]) (Nat.le_refl _) (by unfold maxLen; omega) rfl (fun h => Nat.lt_irrefl _ h))
    have hsrc := Lib.hid (show SlAt encSec (w.alloc (.cells #[] 95)) (Bl w.heap.size) (some ad) l from h1.below (ext_alloc (Below.refl _ _)))
    clear h1
    have hE := fun W => Lib.run_eql_slice_nil (P := Tryz.prog) W 43 95 (some ad) n c 0 0 Tryz.underlying43
    go_enter Tryz.func105, Tryz.ntmps105
    go_wp2_with (at_builtin; refine Hid.out ?_)
    change wpList _ _ _ _ _ _
    refine wpList_appAll (E := encSec) tySecs rfl _ _ rfl rfl hO.out rfl hn.symm hsrc.out (fun g hg => by simp; have : g < w.heap.size := hg; omega) (by simp) (by unfold maxLen; simp; omega) (by simp; omega) ?_
    intro A5 c5 w5 hown5 hg5 hat5
    simp only [List.length_nil, Nat.zero_add, List.nil_append] at hown5
    have hB5 : Below w.heap.size w w5 := (ext_alloc (o := .cells #[] 95) (Below.refl w.heap.size w)).grown hg5 (by simp) (fun g hg => (hO.out.lt g hg).1)
    have hfin : Hid (n ≤ c5 ∧ c5 ≤ maxLen ∧ SlAt encSec w5 (Nw w.heap.size w5.heap.size) A5 l) := by
      obtain ⟨A', c', he, k1, k2, k3⟩ := (Own.flat hown5 (fun h => h)).rd (fun _ h => h.elim)
      simp only [List.cons.injEq, Value.slice.injEq, and_true] at he
      obtain ⟨rfl, e2, rfl⟩ := he
      exact ⟨by omega, k2, k3⟩
    clear hown5 hg5 hat5
    go_wp2
    go_ret
    exact ⟨A5, c5, rfl, hfin.out.1, hfin.out.2.1, hfin.out.2.2, hB5⟩
def fewI (im : List (List Sec)) : Bool := im.length ≤ 9 && (im.all fun v => v.length ≤ 24)
theorem fewImg_any (A : Option Addr) (c : Nat) (im : List (List Sec)) (w : World) (h1 : SlAt (encSl encSec) w (Bl w.heap.size) A im) (hs : im.length ≤ 9223372036854775807) :
    Calls Tryz.prog 97 #[.slice A im.length c] w fun e w' => e = .returned (.bool (fewI im)) ∧ w' = w := by
  by_cases c1 : 9 < im.length
  · go_enter Tryz.func97, Tryz.ntmps97
    go_wp2
    go_ret
    exact ⟨ret_bool (by rw [fewI, decide_eq_false (by omega)]; rfl), rfl⟩
  · go_enter Tryz.func97, Tryz.ntmps97
    go_wp2
    go_loopw [3] (fun i wr => wr = w ∧ ∃ k : Nat, k ≤ im.length ∧ i = .int .i64 k ∧ Hid (∀ x ∈ im.take k, x.length ≤ 24)) (fun i _ => im.length - (intOf i).toNat)
    case atStart => exact ⟨rfl, 0, by omega, rfl, by simp [Hid]⟩
    case round =>
      obtain ⟨rfl, k, hk, rfl, hp⟩ := hrel
      by_cases hlt : k < im.length
      · obtain ⟨b, off, D, dc, rfl, hb, g0, hD, hn1, hn2⟩ := h1.sl hlt
        have hnn : (0 : Int) ≤ k := by omega
        have hki : (k : Int) < im.length := by omega
        unfold maxLen at hn2
        by_cases d : 24 < im[k].length
        · have hd' : ((24 : Int) < (im[k].length : Int)) = True := by simp; omega
          have HDD := Lib.hid d; clear d
          go_wp2
          go_ret
          refine ⟨ret_bool ?_, rfl⟩
          rw [eq_comm, fewI, Bool.and_eq_false_iff]
          right
          rw [List.all_eq_false]
          exact ⟨im[k], List.getElem_mem hlt, by have := HDD.out; simpa using this⟩
        · have hd' : ((24 : Int) < (im[k].length : Int)) = False := by simp; omega
          have HDD := Lib.hid d; clear d
          go_wp2
          go_roundw
          case rel =>
            refine ⟨by trivial, k + 1, hlt, by go_num, ?_⟩
            intro x hx
            rw [List.take_succ_eq_append_getElem hlt] at hx
            rcases List.mem_append.1 hx with hx | hx
            · exact hp.out x hx
            · rw [List.mem_singleton.1 hx]; have := HDD.out; omega
          case measure => simp [intOf]; omega
      · have hkk : k = im.length := by omega
        have HK := Lib.hid hkk; clear hkk
        have hki : ¬ ((k : Int) < im.length) := by omega
        go_wp2
        go_ret
        refine ⟨ret_bool ?_, rfl⟩
        have h3 := hp.out
        rw [HK.out, List.take_length] at h3
        rw [fewI, decide_eq_true (by omega), List.all_eq_true.2 (fun x hx => by simpa using h3 x hx)]
        rfl
end Go.Proofs.YtgndgkjefgjamaaGreat
namespace Go.Proofs.YtgndgkjefgjamaaGreat
open Go.RowKit

/-- the slice of a row, as a datum: its block, its length, its capacity -/
def encBlk : Enc (Nat × Nat × Nat) where
  size := 1
  rd _ _ cs x := cs = [.slice (some ⟨x.1, 0, none⟩) x.2.1 x.2.2] ∧ x.2.1 ≤ x.2.2 ∧ x.2.2 ≤ maxLen
  len h := by rw [h.1]; rfl
  one h := by rw [h.1]; simp [Value.oneCell']
  keep h _ _ := h
def RowOf (w : World) (lo : Nat) (x : Nat × Nat × Nat) (row : List Sec) : Prop := Own encSec w lo 95 (fun _ => False) (.slice (some ⟨x.1, 0, none⟩) x.2.1 x.2.2) row
theorem RowOf.ty {w : World} {lo : Nat} {x : Nat × Nat × Nat} {row : List Sec} (h : RowOf w lo x row) : lo ≤ x.1 ∧ x.1 < w.heap.size ∧ x.2.1 = row.length ∧ row.length ≤ x.2.2 ∧ x.2.2 ≤ maxLen ∧ ∃ cs, w.heap[x.1]? = some (.cells cs 95 (0, 0)) := by
  obtain ⟨css, h1, _⟩ := h
  rcases h1.2 with ⟨he, _⟩ | ⟨g, cap, cur, he, hb, hh, hnc, hcm, _⟩
  · cases he
  · injection he with e1 e2 e3
    injection e1 with e1
    injection e1 with e1
    exact ⟨by omega, by rw [e1]; exact (Array.getElem?_eq_some_iff.1 hh).1, e2, by omega, by omega, cur, by rw [e1]; exact hh⟩
theorem RowOf.blk {w w' : World} {lo : Nat} {x : Nat × Nat × Nat} {row : List Sec} (h : RowOf w lo x row) (hk : w'.heap[x.1]? = w.heap[x.1]?) : RowOf w' lo x row :=
  Own.blk h (fun b hb => by
    rcases hb with hb | hb
    · exact hb.elim
    · have : x.1 = b := by simpa [Value.ownBlock] using hb
      rw [← this]; exact hk)
theorem RowOf.base {w : World} {lo lo' : Nat} {x : Nat × Nat × Nat} {row : List Sec} (h : RowOf w lo x row) (hl : lo' ≤ lo) : RowOf w lo' x row := by
  obtain ⟨css, ⟨h1, h2⟩, h3, h4⟩ := h
  refine ⟨css, ⟨h1, ?_⟩, h3, h4⟩
  rcases h2 with h2 | ⟨g, cap, cur, he, hb, r⟩
  · exact Or.inl h2
  · exact Or.inr ⟨g, cap, cur, he, Nat.le_trans hl hb, r⟩
theorem RowOf.rd {w : World} {lo : Nat} {x : Nat × Nat × Nat} {row : List Sec} (h : RowOf w lo x row) : SlAt encSec w (Nw lo w.heap.size) (some ⟨x.1, 0, none⟩) row := by
  obtain ⟨A', c', he, _, _, h3⟩ := Own.rd h (fun _ h => h.elim)
  simp only [List.cons.injEq, Value.slice.injEq, and_true] at he
  obtain ⟨rfl, _, _⟩ := he
  exact h3
/-- an image that a call owns -/
structure ImgOwn (w : World) (lo : Nat) (A : Option Addr) (c : Nat) (xs : List (Nat × Nat × Nat)) (im : List (List Sec)) : Prop where
  outer : Own encBlk w lo 43 (fun _ => False) (.slice A xs.length c) xs
  len : xs.length = im.length
  rows : ∀ (k : Nat) (h1 : k < xs.length) (h2 : k < im.length), RowOf w lo xs[k] im[k]
  apart : (xs.map (·.1)).Nodup
section
variable {w w' : World} {lo : Nat} {A : Option Addr} {c : Nat} {xs : List (Nat × Nat × Nat)} {im : List (List Sec)}
theorem ImgOwn.nil_ {cur : Array Value} {cap : Nat} (hb : lo ≤ w.heap.size) (hm : cap ≤ maxLen) (hs : cur.size = cap) : ImgOwn (w.alloc (.cells cur 43)) lo (some ⟨w.heap.size, 0, none⟩) cap [] [] :=
  ⟨Own.make0 hb hm (by simpa [encBlk] using hs) (fun h => h), rfl, fun _ h => by simp at h, List.nodup_nil⟩
theorem ImgOwn.below (h : ImgOwn w lo A c xs im) (hb : Below w.heap.size w w') : ImgOwn w' lo A c xs im :=
  ⟨Own.below h.outer hb (fun _ h => h.elim), h.len, fun k h1 h2 => (h.rows k h1 h2).blk (hb.block _ (h.rows k h1 h2).ty.2.1), h.apart⟩
theorem ImgOwn.reads (h : ImgOwn w lo A c xs im) : SlAt (encSl encSec) w (Nw lo w.heap.size) A im := fun hn => by
  obtain ⟨A', c', he, _, _, h3⟩ := Own.rd h.outer (fun _ h => h.elim)
  simp only [List.cons.injEq, Value.slice.injEq, and_true] at he
  obtain ⟨rfl, _, _⟩ := he
  have hx : xs ≠ [] := fun e => hn (List.eq_nil_of_length_eq_zero (by rw [← h.len, e]; rfl))
  obtain ⟨b, off, e, hb, hc⟩ := h3 hx
  refine ⟨b, off, e, hb, fun i row hi => ?_⟩
  have hi2 := (List.getElem?_eq_some_iff.1 hi).1
  have hi1 : i < xs.length := by rw [h.len]; exact hi2
  obtain ⟨cs, k1, rfl, k3, k4⟩ := hc i xs[i] (List.getElem?_eq_getElem hi1)
  have hr := h.rows i hi1 hi2
  have hrow : im[i] = row := (List.getElem?_eq_some_iff.1 hi).2
  rw [hrow] at hr
  refine ⟨_, k1, some ⟨xs[i].1, 0, none⟩, xs[i].2.2, ?_, hr.ty.2.2.2.1, k4, hr.rd⟩
  rw [hr.ty.2.2.1]
theorem ImgOwn.parts (h : ImgOwn w lo A c xs im) : im.length ≤ c ∧ c ≤ maxLen := by
  obtain ⟨A', c', he, h1, h2, _⟩ := Own.rd h.outer (fun _ h => h.elim)
  simp only [List.cons.injEq, Value.slice.injEq, and_true] at he
  obtain ⟨_, _, rfl⟩ := he
  rw [← h.len]
  exact ⟨h1, h2⟩
/-- behind an append of a row that was just made -/
theorem ImgOwn.snoc {A' : Option Addr} {c' : Nat} {x : Nat × Nat × Nat} {row : List Sec} {w1 : World} (h : ImgOwn w lo A c xs im) (hr : RowOf w lo x row) (hnew : ∀ y ∈ xs, y.1 < x.1)
    (hn : Own encBlk w1 lo 43 (fun _ => False) (.slice A' (xs.length + 1) c') (xs ++ [x])) (hg : w.grownBy w1 (Value.slice A xs.length c).ownBlock) : ImgOwn w1 lo A' c' (xs ++ [x]) (im ++ [row]) := by
  have key : ∀ y row, RowOf w lo y row → RowOf w1 lo y row := fun y row hy => hy.blk (hg.block _ hy.ty.2.1 (fun e => by
    obtain ⟨_, cs, fr, h1⟩ := h.outer.cellsOf y.1 e.symm
    obtain ⟨cs', h2⟩ := hy.ty.2.2.2.2.2
    rw [h1] at h2
    injection h2 with h2
    injection h2 with _ h2 _
    exact absurd h2 (by decide)))
  refine ⟨by simpa using hn, by simp [h.len], fun k h1 h2 => ?_, ?_⟩
  · by_cases hk : k < xs.length
    · rw [List.getElem_append_left hk, List.getElem_append_left (by rw [← h.len]; exact hk)]
      exact key _ _ (h.rows k hk (by rw [← h.len]; exact hk))
    · have hke : k = xs.length := by simp at h1; omega
      subst hke
      rw [List.getElem_append_right (Nat.le_refl _), List.getElem_append_right (by rw [h.len]; exact Nat.le_refl _)]
      simp only [Nat.sub_self, List.getElem_cons_zero, h.len]
      exact key _ _ hr
  · rw [List.map_append, List.nodup_append]
    refine ⟨h.apart, by simp, fun a ha b hb e => ?_⟩
    obtain ⟨y, hy, rfl⟩ := List.mem_map.1 ha
    simp only [List.map_cons, List.map_nil, List.mem_singleton] at hb
    subst hb
    have := hnew y hy
    omega
/-- behind a copy into one row -/
theorem ImgOwn.put {w1 : World} {k : Nat} {row : List Sec} (h : ImgOwn w lo A c xs im) (hk : k < xs.length) (hr : RowOf w1 lo xs[k] row) (hg : w.grownBy w1 (some xs[k].1)) : ImgOwn w1 lo A c xs (im.set k row) := by
  refine ⟨Own.blk h.outer (fun b hb => ?_), by simp [h.len], fun j h1 h2 => ?_, h.apart⟩
  · rcases hb with hb | hb
    · exact hb.elim
    · refine hg.block b (h.outer.lt b hb).2 (fun e => ?_)
      injection e with e
      obtain ⟨_, cs, fr, h1⟩ := h.outer.cellsOf b hb
      obtain ⟨cs', h2⟩ := (h.rows k hk (by rw [← h.len]; exact hk)).ty.2.2.2.2.2
      rw [← e, h1] at h2
      injection h2 with h2
      injection h2 with _ h2 _
      exact absurd h2 (by decide)
  · rw [List.getElem_set]
    split
    · rename_i e
      subst e
      exact hr
    · rename_i e
      have h2' : j < im.length := by simpa using h2
      refine (h.rows j h1 h2').blk (hg.block _ (h.rows j h1 h2').ty.2.1 (fun e' => e ?_))
      injection e' with e'
      have := (List.getElem_inj (i := k) (j := j) (h₀ := by simpa using hk) (h₁ := by simpa using h1) h.apart).1 (by simpa using e'.symm)
      exact this
end
theorem tySec8 : SliceTy Tryz.prog 43 95 8 8 := sliceTy_mk (z := .agg #[.int .u8 0, .int .u8 0, .int .u8 0, .int .u8 0, .int .u8 0, .int .u8 0, .int .u8 0, .int .u8 0]) Tryz.underlying43 (by kernel_rfl) rfl (by decide)
set_option maxHeartbeats 1000000 in
theorem cloneRow_any (A : Option Addr) (c n : Nat) (l : List Sec) (w : World) (hn : l.length = n) (hpos : 0 < n) (h1 : SlAt encSec w (Bl w.heap.size) A l) (hl : n ≤ 1000000) :
    Calls Tryz.prog 105 #[.slice A n c] w fun e w' => ∃ g c', e = .returned (.slice (some ⟨g, 0, none⟩) n c') ∧ RowOf w' w.heap.size (g, n, c') l ∧ Below w.heap.size w w' := by
  obtain ⟨b, off, rfl, _⟩ := h1.some_ (by intro e; subst e; simp at hn; omega)
  have hO := Lib.hid (show Own encSec (w.alloc (.cells #[] 95)) w.heap.size 95 (Bl w.heap.size) (.slice (some ⟨w.heap.size, 0, none⟩) 0 0) [] from Own.make0 (cur := #[]) (Nat.le_refl _) (by unfold maxLen; omega) rfl (fun h => Nat.lt_irrefl _ h))
  have hsrc := Lib.hid (show SlAt encSec (w.alloc (.cells #[] 95)) (Bl w.heap.size) (some ⟨b, off, none⟩) l from h1.below (ext_alloc (Below.refl _ _)))
  clear h1
  have hE := fun W => Lib.run_eql_slice_nil (P := Tryz.prog) W 43 95 (some ⟨b, off, none⟩) n c 0 0 Tryz.underlying43
  go_enter Tryz.func105, Tryz.ntmps105
  go_wp2_with (at_builtin; refine Hid.out ?_)
  change wpList _ _ _ _ _ _
  refine wpList_appAll (E := encSec) tySec8 rfl _ _ rfl rfl hO.out rfl hn.symm hsrc.out (fun g hg => by simp; have : g < w.heap.size := hg; omega) (by simp) (by unfold maxLen; simp; omega) (by simp; omega) ?_
  intro A5 c5 w5 hown5 hg5 hat5
  simp only [List.length_nil, Nat.zero_add, List.nil_append] at hown5
  have hB5 : Below w.heap.size w w5 := (ext_alloc (o := .cells #[] 95) (Below.refl w.heap.size w)).grown hg5 (by simp) (fun g hg => (hO.out.lt g hg).1)
  have hfl := Own.flat hown5 (fun h => h)
  obtain ⟨g, _, rfl, _⟩ := hfl.elem (i := 0) (by omega)
  have hfin : Hid (RowOf w5 w.heap.size (g, n, c5) l) := hfl
  clear hown5 hg5 hat5 hfl
  go_wp2
  go_ret
  exact ⟨g, c5, rfl, hfin.out, hB5⟩
end Go.Proofs.YtgndgkjefgjamaaGreat

namespace Go.Proofs.YtgndgkjefgjamaaGreat
open Go.RowKit

theorem tyImgI : SliceTy Tryz.prog 22 43 encBlk.size 24 := sliceTy_mk (z := .slice none 0 0) Tryz.underlying22 (by kernel_rfl) rfl (by decide)
set_option maxHeartbeats 2000000 in
theorem mappedRows_any (A : Option Addr) (c : Nat) (im : List (List Sec)) (w : World) (h1 : SlAt (encSl encSec) w (Bl w.heap.size) A im) (hl : im.length ≤ 1000) (hne : ∀ r ∈ im, 0 < r.length ∧ r.length ≤ 1000000) :
    Calls Tryz.prog 152 #[.slice A im.length c, .func (.func 105) #[] #[]] w fun e w' => ∃ B vc xs, e = .returned (.slice B im.length vc) ∧ ImgOwn w' w.heap.size B vc xs im ∧ Below w.heap.size w w' := by
  have H1 : Hid (∀ w', Below w.heap.size w w' → SlAt (encSl encSec) w' (Bl w'.heap.size) A im) := fun w' hb => h1.fwd hb
  have HNE := Lib.hid hne
  clear h1 hne
  obtain ⟨cur, hcs, hmk⟩ := makeOf tyImgI im.length (by omega) (by omega) w
  have HCS := Lib.hid hcs; clear hcs
  have hO1 := Lib.hid (ImgOwn.nil_ (w := w) (lo := w.heap.size) (cur := cur) (cap := im.length) (Nat.le_refl _) (by unfold maxLen; omega) (by have := HCS.out; simpa [encBlk] using this))
  go_enter Tryz.func152, Tryz.ntmps152
  go_wp2
  go_loopw [5, 13] (fun v i wr => ∃ (k : Nat) (B : Option Addr) (vc : Nat) (xs : List (Nat × Nat × Nat)), k ≤ im.length ∧ i = .int .i64 k ∧ v = .slice B xs.length vc ∧ Below w.heap.size w wr ∧ Hid (xs.length = k) ∧ Hid (ImgOwn wr w.heap.size B vc xs (im.take k))) (fun _ i _ => im.length - (intOf i).toNat)
  case atStart => exact ⟨0, some ⟨w.heap.size, 0, none⟩, im.length, [], by omega, rfl, rfl, ext_alloc (Below.refl _ _), rfl, hO1.out⟩
  case round =>
    clear hmk
    obtain ⟨k, B, vc, xs, hk, rfl, rfl, hB, hxl, hown⟩ := hrel
    by_cases hlt : k < im.length
    · have hnn : (0 : Int) ≤ k := by omega
      have hki : (k : Int) < im.length := by omega
      have hol : xs.length ≤ 1000 := by rw [hxl.out]; omega
      have hszr := hB.size
      obtain ⟨b, off, D, dc, rfl, hb, g0, hD, hn1, hn2⟩ := (H1.out wr hB).sl hlt
      obtain ⟨p1, p2⟩ := HNE.out im[k] (List.getElem_mem hlt)
      obtain ⟨row, hrow⟩ : ∃ r, Hid (r = im[k]'hlt) := ⟨_, Lib.hid rfl⟩
      rw [← hrow.out] at g0 hD hn1 p1 p2
      go_wp2_with fail
      refine (cloneRow_any D dc _ row wr rfl p1 hD p2).mono ?_
      rintro e w1 ⟨g, c', rfl, hr, hb1⟩
      have HR := Lib.hid hr; clear hr
      have hB1 : Below w.heap.size w w1 := ext_trans hB hb1
      have hsz1 := hb1.size
      have HO1 := Lib.hid (hown.out.below hb1)
      have HO2 := Lib.hid (HO1.out.below ((Below.refl _ _).alloc (Nat.le_refl _) (.cells #[.slice (some ⟨g, 0, none⟩) row.length c'] 43)))
      have HRD : Hid (encBlk.rd (w1.alloc (.cells #[.slice (some ⟨g, 0, none⟩) row.length c'] 43)) (fun _ => False) [.slice (some ⟨g, 0, none⟩) row.length c'] (g, row.length, c')) := ⟨rfl, HR.out.ty.2.2.2.1, HR.out.ty.2.2.2.2.1⟩
      have hgn := HR.out.ty.1
      clear g0 hD
      go_wp2_with (at_builtin; refine Hid.out ?_)
      change wpList _ _ _ _ _ _
      refine wpList_app1 (E := encBlk) tyImgI rfl _ _ rfl rfl HO2.out.outer (g, row.length, c') _ rfl HRD.out (heap_alloc_new _ _) (fun _ h => h.elim) (by simp; omega) (by unfold maxLen; omega) (by omega) ?_
      intro A' c5 w5 hown5 hg5 hat5
      have hfin : Hid (ImgOwn w5 w.heap.size A' c5 (xs ++ [(g, row.length, c')]) (im.take (k + 1))) := by
        rw [Hid, List.take_succ_eq_append_getElem hlt, ← hrow.out]
        refine HO2.out.snoc (x := (g, row.length, c')) ((HR.out.base hszr).blk ((Below.heap_alloc _ _ _ HR.out.ty.2.1))) (fun y hy => ?_) hown5 hg5
        obtain ⟨j, hj, rfl⟩ := List.mem_iff_getElem.1 hy
        have := (hown.out.rows j hj (by rw [← hown.out.len]; exact hj)).ty.2.1
        simp only at hgn ⊢
        omega
      have hB5 := Lib.hid ((ext_alloc (o := .cells #[.slice (some ⟨g, 0, none⟩) row.length c'] 43) hB1).grown hg5 (by simp; omega) (fun g h => (hown.out.outer.lt g h).1))
      clear hown5 hg5 hat5
      go_wp2
      go_roundw
      case rel => exact ⟨k + 1, A', c5, xs ++ [(g, row.length, c')], hlt, by go_num, by simp, hB5.out, by rw [Hid, List.length_append, hxl.out]; rfl, hfin.out⟩
      case measure => simp [intOf]; omega
    · have hkk : k = im.length := by omega
      subst hkk
      have ho := hown.out
      rw [List.take_length] at ho
      have HO := Lib.hid ho
      have HXL := hxl; clear ho
      go_wp2
      go_ret
      refine ⟨B, vc, xs, ?_, HO.out, hB⟩
      have hxi := hxl.out
      show Ending.returned (.slice B xs.length vc) = _
      rw [hxi]
theorem copied_any (A : Option Addr) (c n : Nat) (im : List (List Sec)) (w : World) (hn : im.length = n) (h1 : SlAt (encSl encSec) w (Bl w.heap.size) A im) (hl : n ≤ 1000) (hne : ∀ r ∈ im, 0 < r.length ∧ r.length ≤ 1000000) :
    Calls Tryz.prog 123 #[.slice A n c] w fun e w' => ∃ B vc xs, e = .returned (.slice B n vc) ∧ ImgOwn w' w.heap.size B vc xs im ∧ Below w.heap.size w w' := by
  subst hn
  have hc := Lib.hid (mappedRows_any A c im w h1 hl hne)
  clear h1 hne
  go_enter Tryz.func123, Tryz.ntmps123
  go_wp2_with fail
  refine hc.out.mono ?_
  rintro e w1 ⟨B, vc, xs, rfl, ho, hb1⟩
  have HO := Lib.hid ho; clear ho
  go_wp2
  go_ret
  exact ⟨B, vc, xs, rfl, HO.out, hb1⟩
/-- an image behind a write -/
def putW (im : List (List Sec)) (x : Wr) : List (List Sec) := im.set x.1.toNat (over (im.getD x.1.toNat []) x.2.1.toNat x.2.2)
def putAll (im : List (List Sec)) (l : List Wr) : List (List Sec) := l.foldl putW im
theorem putAll_snoc (im : List (List Sec)) (l : List Wr) (x : Wr) : putAll im (l ++ [x]) = putW (putAll im l) x := by simp [putAll]
theorem fits_img {im : List (List Sec)} {x : Wr} (h : fitsN (lens im) x = 0) : ∃ (k s : Nat), x.1 = k ∧ x.2.1 = s ∧ k < im.length ∧ 0 < x.2.2.length ∧ s + x.2.2.length ≤ (im.getD k []).length := by
  unfold fitsN at h
  split at h
  · cases h
  · rename_i c1
    split at h
    · cases h
    · rename_i c2
      split at h
      · cases h
      · rename_i c3
        rw [lens_len] at c1
        have hk : x.1.toNat < im.length := by omega
        have e1 : (lens im).getD x.1.toNat 0 = ((im.getD x.1.toNat []).length : Int) := by
          rw [List.getD_eq_getElem?_getD, List.getD_eq_getElem?_getD, List.getElem?_eq_getElem (by rw [lens_len]; exact hk), List.getElem?_eq_getElem hk]
          exact lens_at hk
        rw [e1] at c3
        refine ⟨x.1.toNat, x.2.1.toNat, by omega, by omega, hk, by omega, by omega⟩
theorem putW_lens {im : List (List Sec)} {x : Wr} (h : fitsN (lens im) x = 0) : lens (putW im x) = lens im := by
  obtain ⟨k, s, e1, e2, hk, _, hs⟩ := fits_img h
  unfold putW lens
  rw [e1, e2, Int.toNat_natCast, Int.toNat_natCast]
  refine List.ext_getElem (by simp) fun i h1 h2 => ?_
  simp only [List.getElem_map, List.getElem_set]
  split
  · rename_i e
    subst e
    unfold lenI
    rw [over_len hs, List.getD_eq_getElem?_getD, List.getElem?_eq_getElem hk]
    rfl
  · rfl
theorem putAll_lens {im : List (List Sec)} {l : List Wr} (h : ∀ x ∈ l, fitsN (lens im) x = 0) : lens (putAll im l) = lens im := by
  induction l using snocRec with
  | h0 => rfl
  | h1 l x ih =>
    have ih := ih (fun y hy => h y (by simp [hy]))
    rw [putAll_snoc, putW_lens (by rw [ih]; exact h x (by simp)), ih]
/-- what Apply returns -/
def applyErr (im : List (List Sec)) (l : List Wr) : Int := if sizesN (lens im) ≠ 0 then sizesN (lens im) else errOf (fitsN (lens im)) l
def applyL (im : List (List Sec)) (l : List Wr) : List (List Sec) := if applyErr im l = 0 then putAll im l else []
def ApplyRet (r : List (List Sec)) (en : Int) (w : World) (e : Ending) (w' : World) : Prop :=
  ∃ A c i, e = .returned (.tuple #[.slice A r.length c, .int .i64 i, .int .i64 en]) ∧ r.length ≤ c ∧ c ≤ maxLen ∧ SlAt (encSl encSec) w' (Nw w.heap.size w'.heap.size) A r ∧ Below w.heap.size w w'
theorem ApplyRet.no {en : Int} {w w' : World} {i : Int} (h : Below w.heap.size w w') : ApplyRet [] en w (.returned (.tuple #[.slice none 0 0, .int .i64 i, .int .i64 en])) w' := ⟨none, 0, i, rfl, by simp, by simp, SlAt.nil_, h⟩
theorem putAll_length (im : List (List Sec)) (l : List Wr) : (putAll im l).length = im.length := by
  induction l using snocRec with
  | h0 => rfl
  | h1 l x ih => rw [putAll_snoc, putW, List.length_set, ih]
theorem imgFits1X (A : Option Addr) (c n m : Nat) (im : List (List Sec)) (v s : Int) (D : Option Addr) (dc : Nat) (data : List Sec) (w : World) (hn' : im.length = n) (hm : data.length = m) (h1 : SlAt (encSl encSec) w (Bl w.heap.size) A im) (hl : n ≤ 1000000) (hn : m ≤ 9223372036854775807) (hv : I64 v) (hs2 : I64 s) (pn : Int) (hp : fitsN (lens im) (v, s, data) = pn) :
    Calls Tryz.prog 117 #[.slice A n c, .agg #[.int .i64 v, .int .i64 s, .slice D m dc]] w fun e w' => e = .returned (.int .i64 pn) ∧ Below w.heap.size w w' := by
  subst hn' hm hp
  exact imgFits1_any A c im v s D dc data w h1 hl hn hv hs2
set_option maxHeartbeats 4000000 in
theorem apply_any (A A2 : Option Addr) (c c2 : Nat) (im : List (List Sec)) (l : List Wr) (w : World) (h1 : SlAt (encSl encSec) w (Bl w.heap.size) A im) (hl : im.length ≤ 1000000) (h2 : SlAt encWr w (Bl w.heap.size) A2 l) (hl2 : l.length ≤ 9223372036854775807) :
    Calls Tryz.prog 68 #[.slice A im.length c, .slice A2 l.length c2] w (ApplyRet (applyL im l) (applyErr im l) w) := by
  have H1 := Lib.hid h1
  have H2 : Hid (∀ w', Below w.heap.size w w' → SlAt encWr w' (Bl w.heap.size) A2 l) := fun w' hb => h2.below hb
  clear h1 h2
  obtain ⟨es, hes⟩ : ∃ es, Hid (sizesN (lens im) = es) := ⟨_, Lib.hid rfl⟩
  have HC := Lib.hid (imgCheck_any A c im.length im w rfl H1.out hl es hes.out)
  go_enter Tryz.func68, Tryz.ntmps68
  go_wp2_with fail
  refine HC.out.mono ?_
  rintro e w1 ⟨rfl, hb1⟩
  clear HC
  by_cases he : es = 0
  · have he1 : (es != 0) = false := by simp [he]
    have HE := Lib.hid he; clear he
    have hrg := Lib.hid (sizes_range (hes.out.trans HE.out))
    have hne : Hid (∀ r ∈ im, 0 < r.length ∧ r.length ≤ 1000000) := fun r hr => by
      have := hrg.out.2 (lenI r) (List.mem_map.2 ⟨r, hr, rfl⟩)
      unfold lenI at this
      omega
    have hl8 : im.length ≤ 8 := by have := hrg.out.1; rwa [lens_len] at this
    have hcp := Lib.hid (copied_any A c im.length im w1 rfl (H1.out.fwd hb1) (by omega) hne.out)
    go_wp2_with fail
    refine hcp.out.mono ?_
    rintro e w2 ⟨B, vc, xs, rfl, ho2, hb2⟩
    have HO2 := Lib.hid ho2; clear ho2 hcp
    have hB2 : Below w.heap.size w w2 := ext_trans hb1 hb2
    have hsz1 := hb1.size
    have hxl : Hid (xs.length = im.length) := HO2.out.len
    go_wp2_with fail
    go_loopw [21] (fun i wr => ∃ k : Nat, k ≤ l.length ∧ i = .int .i64 k ∧ Below w.heap.size w wr ∧ Hid (∀ x ∈ l.take k, fitsN (lens im) x = 0) ∧ Hid (ImgOwn wr w.heap.size B vc xs (putAll im (l.take k)))) (fun i _ => l.length - (intOf i).toNat)
    case atStart =>
      refine ⟨0, by omega, rfl, hB2, by simp [Hid], ?_⟩
      have h := HO2.out
      exact ⟨by obtain ⟨css, ⟨a1, a2⟩, a3, a4⟩ := h.outer; exact ⟨css, ⟨a1, by
        rcases a2 with a2 | ⟨g, cap, cur, b1, b2, b3⟩
        · exact Or.inl a2
        · exact Or.inr ⟨g, cap, cur, b1, by omega, b3⟩⟩, a3, a4⟩, h.len, fun k h1 h2 => (h.rows k h1 h2).base hsz1, h.apart⟩
    case round =>
      obtain ⟨k, hk, rfl, hB, hz, hown⟩ := hrel
      obtain ⟨jm, hjm⟩ : ∃ jm, Hid (jm = putAll im (l.take k)) := ⟨_, Lib.hid rfl⟩
      rw [← hjm.out] at hown
      have hjl : Hid (jm.length = im.length) := by rw [Hid, hjm.out]; exact putAll_length _ _
      have hjn : Hid (lens jm = lens im) := by rw [Hid, hjm.out]; exact putAll_lens hz.out
      by_cases hlt : k < l.length
      · obtain ⟨b, off, D, dc, rfl, hb, e0, e1, e2, hD, hn1, hn2, hi1, hi2⟩ := (H2.out wr hB).wr hlt
        have hbl : b < w.heap.size := hb
        have hnn : (0 : Int) ≤ k := by omega
        have hki : (k : Int) < l.length := by omega
        have hsz := hB.size
        unfold maxLen at hn2
        obtain ⟨y, hy⟩ : ∃ y, Hid (y = l[k]'hlt) := ⟨_, Lib.hid rfl⟩
        rw [← hy.out] at e0 e1 e2 hn1 hi1 hi2 hD
        obtain ⟨v, s, data⟩ := y
        simp only at e0 e1 e2 hn1 hi1 hi2 hD
        have HD := Lib.hid hD; clear hD
        obtain ⟨pn, hpn⟩ : ∃ pn, Hid (fitsN (lens jm) (v, s, data) = pn) := ⟨_, Lib.hid rfl⟩
        have hbx : Below wr.heap.size wr (wr.alloc (.cells #[.int .i64 v, .int .i64 s, .slice D data.length dc] 45)) := ext_alloc (Below.refl _ _)
        have hfx := Lib.hid (imgFits1X B vc im.length data.length jm v s D dc data _ hjl.out rfl ((hown.out.reads.more (fun _ h => h.2) : SlAt (encSl encSec) wr (Bl wr.heap.size) B jm).fwd hbx) hl (by omega) hi1 hi2 pn hpn.out)
        go_wp2_with fail
        refine hfx.out.mono ?_
        rintro e w3 ⟨rfl, hb3⟩
        have hw3 : Below wr.heap.size wr w3 := ext_trans hbx hb3
        have hB3 : Below w.heap.size w w3 := ext_trans hB hw3
        have hx3 : w3.heap[wr.heap.size]? = some (.cells #[.int .i64 v, .int .i64 s, .slice D data.length dc] 45 (0, 0)) := (hb3.block _ (by simp)).trans (heap_alloc_new _ _)
        have hz3 := (Array.getElem?_eq_some_iff.1 hx3).1
        clear e0 e1 e2 hfx
        by_cases hp0 : pn = 0
        · have hp1 : (pn != 0) = false := by simp [hp0]
          have HP := Lib.hid hp0; clear hp0
          have hfit := hpn.out.trans HP.out
          have hzs : Hid (∀ x ∈ l.take (k + 1), fitsN (lens im) x = 0) := by
            intro x hx
            rw [List.take_succ_eq_append_getElem hlt] at hx
            rcases List.mem_append.1 hx with hx | hx
            · exact hz.out x hx
            · rw [List.mem_singleton.1 hx, ← hy.out, ← hjn.out]; exact hfit
          obtain ⟨kv, sv, ev, es2, hkv, hdp, hsv⟩ := fits_img hfit
          simp only at ev es2 hdp hsv
          subst ev es2
          have HO3 := Lib.hid (hown.out.below hw3)
          have hxk : kv < xs.length := by rw [HO3.out.len]; exact hkv
          have hrow0 := HO3.out.rows kv hxk hkv
          obtain ⟨x, hx⟩ : ∃ x, Hid (x = xs[kv]'hxk) := ⟨_, Lib.hid rfl⟩
          obtain ⟨row, hrow⟩ : ∃ r, Hid (r = jm[kv]'hkv) := ⟨_, Lib.hid rfl⟩
          have hgd : jm.getD kv [] = row := by rw [hrow.out, List.getD_eq_getElem?_getD, List.getElem?_eq_getElem hkv]; rfl
          rw [hgd] at hsv
          have HGD := Lib.hid hgd; clear hgd
          rw [← hx.out, ← hrow.out] at hrow0
          obtain ⟨rb, rn, rc⟩ := x
          obtain ⟨y1, y2, y3, y4, y5, _⟩ := hrow0.ty
          simp only at y1 y2 y3 y4 y5
          subst y3
          have HROW := Lib.hid hrow0; clear hrow0
          obtain ⟨g, cs, hBg, _, hgl, _, hcell, _, hrd⟩ := HO3.out.outer.elem hxk
          subst hBg
          rw [← hx.out] at hrd
          obtain ⟨rfl, _, _⟩ := hrd
          have hc0 := hcell 0 _ rfl
          simp only [encBlk, Nat.mul_one, Nat.add_zero] at hc0
          have hxln : xs.length = im.length := hxl.out
          have hkvi : (kv : Int) < im.length := by omega
          have hkv0 : (0 : Int) ≤ kv := by omega
          have hsv0 : (0 : Int) ≤ sv := by omega
          have hsvi : (sv : Int) ≤ row.length := by omega
          have hsvl : sv < row.length := by omega
          have hsvc : sv < rc := by omega
          have t0 := cell_of_row _ _ 0 _ _ _ hx3
          have t1 := cell_of_row _ _ 1 _ _ _ hx3
          have t2 := cell_of_row _ _ 2 _ _ _ hx3
          have HD3 := Lib.hid (HD.out.below (hw3.mono hsz))
          unfold maxLen at y5
          clear hcell hx3 hxln
          have hne : ¬ rc = sv := by omega
          go_wp2_with fail
          go_region_law (refine step_copyE (E := encSec) tySec8 rfl _ _ rfl (s := sv) rfl rfl (HROW.out.blk rfl) rfl hsv (HD3.out.drew ⟨1, rfl⟩) (fun h => h) ?_; intro w4 hown4 hg4)
          all_goals
            have hput : Hid (ImgOwn w4 w.heap.size (some ⟨g, 0, none⟩) vc xs (putAll im (l.take (k + 1)))) := by
              have h3 : ImgOwn w3.drew w.heap.size (some ⟨g, 0, none⟩) vc xs jm := HO3.out.below (Below.refl _ _).drew
              have h4 := h3.put (w1 := w4) (row := over row sv data) hxk (by rw [← hx.out]; exact hown4) (by rw [← hx.out]; exact hg4)
              rw [Hid, List.take_succ_eq_append_getElem hlt, putAll_snoc, ← hjm.out, ← hy.out]
              unfold putW
              simp only [Int.toNat_natCast]
              rw [HGD.out]
              exact h4
            have hB4 : Below w.heap.size w w4 := hB3.drew.grown hg4 hB3.size (fun j e => by cases e; exact y1)
            clear hown4 hg4
            go_wp2
            go_roundw
            case rel => exact ⟨k + 1, hlt, by go_num, hB4, hzs.out, hput.out⟩
            case measure => simp [intOf]; omega
        · have hp1 : (pn != 0) = true := by simp [hp0]
          have HP := Lib.hid hp0; clear hp0
          have herr : Hid (errOf (fitsN (lens im)) l = pn) := by
            rw [Hid, ← hpn.out, hjn.out]
            have h2 := errOf_at hlt hz.out (by rw [← hy.out, ← hjn.out, hpn.out]; exact HP.out)
            rw [h2, ← hy.out]
          have hap : Hid (applyErr im l = pn ∧ applyL im l = []) := by
            have e1 : applyErr im l = pn := by unfold applyErr; rw [if_neg (by rw [hes.out, HE.out]; simp), herr.out]
            exact ⟨e1, by unfold applyL; rw [e1, if_neg HP.out]⟩
          go_wp2
          go_ret3
          rw [hap.out.1, hap.out.2]
          exact ApplyRet.no hB3
      · have hkk : k = l.length := by omega
        subst hkk
        have hz0 := hz.out
        rw [List.take_length] at hz0
        have hap : Hid (applyErr im l = 0 ∧ applyL im l = jm) := by
          have e1 : applyErr im l = 0 := by unfold applyErr; rw [if_neg (by rw [hes.out, HE.out]; simp), errOf_zero hz0]
          exact ⟨e1, by unfold applyL; rw [e1, if_pos rfl, hjm.out, List.take_length]⟩
        obtain ⟨p1, p2⟩ := hown.out.parts
        have HRD := Lib.hid hown.out.reads
        clear hz0
        go_wp2
        go_ret3
        rw [hap.out.1, hap.out.2]
        refine ⟨B, vc, 0, ?_, p1, p2, HRD.out, hB⟩
        show Ending.returned (.tuple #[.slice B im.length vc, .int .i64 0, .int .i64 0]) = _
        rw [hjl.out]
  · have he1 : (es != 0) = true := by simp [he]
    have HE := Lib.hid he; clear he
    have hap : Hid (applyErr im l = es ∧ applyL im l = []) := by
      have e1 : applyErr im l = es := by unfold applyErr; rw [if_pos (by rw [hes.out]; exact HE.out), hes.out]
      exact ⟨e1, by unfold applyL; rw [e1, if_neg HE.out]⟩
    go_wp2
    go_ret3
    rw [hap.out.1, hap.out.2]
    exact ApplyRet.no hb1
end Go.Proofs.YtgndgkjefgjamaaGreat

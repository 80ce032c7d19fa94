/-
  The walks of the laws CoalesceFolds and CoalesceMerges.
  The walk of the law CoalesceAssociates.
  The walks of the image package: sizes, zero images, what fits.
  The walks of the image package: sizes, Check, New, fits, Fits.
  The walks of image.fits, image.Fits and of Check with its closure.
  The walk of Check (the program), and of the law CoalesceChecks.
-/
import Derived.Test.YtnkmklnlaepdeaaGreatSq
import Derived.Test.YtnkmklnlaepdeaaGreatTa
import Derived.Test.YtnkmklnlaepdeaaGreatPl
import Derived.Test.YtnkmklnlaepdeaaGreatLaws
import Derived.Laws.MakeOwn
set_option linter.unusedVariables false
set_option linter.unusedSimpArgs false
set_option linter.unusedSectionVars false
set_option linter.unnecessarySimpa false
namespace Go.Proofs.YtnkmklnlaepdeaaGreat
open Go.RowKit Go.ChangeMaps

theorem fewX (A : Option Addr) (c : Nat) (l : List Wr) (w : World) (q : Bool) (hq : fewL l = q) (h1 : SlAt encWr w (Bl w.heap.size) A l) (hs : l.length ≤ 9223372036854775807) :
    Calls Tryz.prog 10 #[.slice A l.length c] w fun e w' => e = .returned (.bool q) ∧ w' = w := by
  subst hq
  exact few_any A c _ l w h1 hs
theorem few_len {l : List Wr} (h : fewL l = true) : l.length ≤ 40 := by
  simp [fewL] at h; exact h.1
theorem max_len {n c : Nat} (h1 : n ≤ c) (h2 : c ≤ maxLen) : n ≤ 9223372036854775807 := by unfold maxLen at h2; omega
end Go.Proofs.YtnkmklnlaepdeaaGreat

namespace Go.Proofs.YtnkmklnlaepdeaaGreat
open Go.RowKit Go.ChangeMaps

theorem errOf_conv2 {α : Type} {f : α → Int} {l : List α} (h : errOf f l = 0) : ∀ x ∈ l, f x = 0 := by
  intro p hp
  rcases Decidable.em (f p = 0) with h0 | h0
  · exact h0
  · exfalso
    unfold errOf at h
    cases hf : l.find? (fun x => f x != 0) with
    | none => have := List.find?_eq_none.1 hf p hp; simp at this; exact h0 this
    | some q =>
      rw [hf] at h
      have h1 := List.find?_some hf
      simp only [Option.map_some, Option.getD_some] at h
      rw [h] at h1
      simp at h1
theorem plOf_len (l : List Wr) : (plOf l).length ≤ 32768 := by
  unfold plOf
  rw [List.length_flatMap]
  have h : ∀ ns : List Nat, (ns.map fun (v : Nat) => ((secsOf l v).map fun s => ((v : Int), s)).length).sum ≤ ns.length * 4096 := by
    intro ns
    induction ns with
    | nil => simp
    | cons n ns ih =>
      have := secsOf_len l n
      simp only [List.map_cons, List.sum_cons, List.length_map, List.length_cons] at ih ⊢
      omega
  have := h (List.range 8)
  rw [List.length_range] at this
  omega
theorem foldS_len (l : List Wr) : (foldS l).length ≤ 32768 := by
  have h1 := (canonL_len (assoc l)).1
  have h2 : (assoc l).length = (plOf l).length := by rw [← assoc_places, List.length_map]
  have := plOf_len l
  unfold foldS
  omega
theorem mergeErr_folds (a b : List Wr) : mergeErr (foldS a) (foldS b) = 0 := by rw [mergeErr, chk_fold, if_neg (by simp), chk_fold]
theorem mergeL_folds {a b : List Wr} (ha : ∀ x ∈ a, placedN x = 0) (hb : ∀ x ∈ b, placedN x = 0) : mergeL (foldS a) (foldS b) = foldS (a ++ b) := by
  rw [mergeL, mergeErr_folds, if_pos rfl, fold_append ha hb]

end Go.Proofs.YtnkmklnlaepdeaaGreat

namespace Go.Proofs.YtnkmklnlaepdeaaGreat
open Go.RowKit

theorem makeOf {t e : TypeId} {size bytes : Nat} (hT : SliceTy Tryz.prog t e size bytes) (n : Nat) (hn : n * bytes ≤ 281474976710656) (h63 : n ≤ 1000000000000) (w : World) : ∃ cur : Array Value, cur.size = n * size ∧ (Instr.makeSlice t (.int .i64 0) (.int .i64 n)).run Tryz.prog w = .ok (.slice (some ⟨w.heap.size, 0, none⟩) 0 n) (w.alloc (.cells cur e)) := by
  obtain ⟨i, z, hi, hz, hsz, hby, hzs⟩ := hT.info
  have hbi : ((i.bytes : Int)) * (n : Int) ≤ 281474976710656 := by
    have h : ((i.bytes * n : Nat) : Int) ≤ 281474976710656 := by rw [hby, Nat.mul_comm]; omega
    rwa [Int.natCast_mul] at h
  have hr := run_make (P := Tryz.prog) w t e i z hT.und hi hz .i64 .i64 0 n (by omega) (by omega) hbi (by omega)
  simp only [Int.toNat_natCast, Int.toNat_zero] at hr
  exact ⟨_, by rw [size_madeCells, hsz], hr⟩
theorem tySecss : SliceTy Tryz.prog 25 55 1 24 := sliceTy_mk (z := .slice none 0 0) Tryz.underlying25 (by kernel_rfl) rfl (by decide)
/-- make([]api.Sector, n) -/
theorem makeSecs (n : Nat) (hn : n ≤ 1000000) (w : World) : ∃ cur : Array Value, cur.size = n * 8 ∧ (∀ j, j < n * 8 → cur[j]? = some (.int .u8 0)) ∧ (Instr.makeSlice 55 (.int .i64 n) (.int .i64 n)).run Tryz.prog w = .ok (.slice (some ⟨w.heap.size, 0, none⟩) n n) (w.alloc (.cells cur 54)) := by
  have hinfo : (Tryz.prog.info? 54).map (fun i => (i.zero, i.size, i.bytes)) = some (some (.agg #[.int .u8 0, .int .u8 0, .int .u8 0, .int .u8 0, .int .u8 0, .int .u8 0, .int .u8 0, .int .u8 0]), 8, 8) := by kernel_rfl
  obtain ⟨i, hi, hz, hsz, hby⟩ := info_parts hinfo
  have hbi : ((i.bytes : Int)) * (n : Int) ≤ 281474976710656 := by rw [hby]; omega
  have hr := run_make (P := Tryz.prog) w 55 54 i _ Tryz.underlying55 hi hz .i64 .i64 n n (by omega) (by omega) hbi (by omega)
  simp only [Int.toNat_natCast] at hr
  refine ⟨_, by rw [size_madeCells, hsz], fun j hj => ?_, hr⟩
  have hz8 : ∀ m, m < 8 → (#[Value.int .u8 0, .int .u8 0, .int .u8 0, .int .u8 0, .int .u8 0, .int .u8 0, .int .u8 0, .int .u8 0] : Array Value)[m]! = .int .u8 0 := by
    intro m hm
    match m, hm with
    | 0, _ => rfl
    | 1, _ => rfl
    | 2, _ => rfl
    | 3, _ => rfl
    | 4, _ => rfl
    | 5, _ => rfl
    | 6, _ => rfl
    | 7, _ => rfl
  simp only [madeCells, Value.cells, hsz]
  rw [Array.getElem?_map, Array.getElem?_range, if_pos (by omega)]
  simp only [Option.map_some, Option.some.injEq]
  exact hz8 _ (Nat.mod_lt _ (by decide))
theorem zsec_rd {w : World} {S : Nat → Prop} : encSec.rd w S (List.replicate 8 (.int .u8 0)) zsec := ⟨rfl, zsec_ok⟩
theorem zsecs_at {w : World} {S : Nat → Prop} {b n : Nat} {cur : Array Value} {T : TypeId} (hb : w.heap[b]? = some (.cells cur T (0, 0))) (hS : S b) (hc : ∀ j, j < n * 8 → cur[j]? = some (.int .u8 0)) : SlAt encSec w S (some ⟨b, 0, none⟩) (List.replicate n zsec) := by
  refine fun _ => ⟨b, 0, rfl, hS, fun i x hx => ?_⟩
  have hi : i < n := by have := (List.getElem?_eq_some_iff.1 hx).1; simpa using this
  have hx' : x = zsec := by
    have := (List.getElem?_eq_some_iff.1 hx).2
    simpa using this.symm
  subst hx'
  refine ⟨List.replicate 8 (.int .u8 0), fun j v hv => ?_, zsec_rd⟩
  have hj : j < 8 := by have := (List.getElem?_eq_some_iff.1 hv).1; simpa using this
  have hv' : v = .int .u8 0 := by
    have := List.mem_of_getElem? hv
    exact (List.mem_replicate.1 this).2
  subst hv'
  rw [cell_of_row w b _ _ T _ hb]
  have h8 : encSec.size = 8 := rfl
  rw [h8]
  exact hc _ (by omega)
theorem new1_any (n : Nat) (w : World) (hn : n ≤ 1000000) : Calls Tryz.prog 84 #[.int .i64 n] w (RetSl encSec (List.replicate n zsec) w) := by
  obtain ⟨cur, hcs, hcz, hmk⟩ := makeSecs n hn w
  have HCZ := Lib.hid hcz; clear hcz hcs
  go_enter Tryz.func84, Tryz.ntmps84
  go_wp2
  go_ret
  refine ⟨some ⟨w.heap.size, 0, none⟩, n, by rw [List.length_replicate]; rfl, by simp, by unfold maxLen; omega, ?_, ext_alloc (Below.refl _ _)⟩
  exact zsecs_at (heap_alloc_new _ _) ⟨Nat.le_refl _, by simp⟩ HCZ.out
theorem new1X (n : Int) (h0 : 0 ≤ n) (hn : n ≤ 1000000) (w : World) : Calls Tryz.prog 84 #[.int .i64 n] w fun e w' => ∃ A c, e = .returned (.slice A n.toNat c) ∧ n.toNat ≤ c ∧ c ≤ maxLen ∧ SlAt encSec w' (Nw w.heap.size w'.heap.size) A (List.replicate n.toNat zsec) ∧ Below w.heap.size w w' := by
  obtain ⟨k, rfl⟩ := Int.eq_ofNat_of_zero_le h0
  refine (new1_any k w (by omega)).mono fun e w' h => ?_
  obtain ⟨A, c, he, h1, h2, h3, h4⟩ := h
  rw [List.length_replicate] at he h1
  exact ⟨A, c, he, by simpa using h1, h2, by simpa using h3, h4⟩
def zimg (n : Int) : List Sec := List.replicate n.toNat zsec
theorem zimg_len (n : Int) : (zimg n).length = n.toNat := List.length_replicate ..
set_option maxHeartbeats 2000000 in
theorem mappedNew_any (A : Option Addr) (c : Nat) (l : List _) (w : World) (h1 : SlAt encInt w (Bl w.heap.size) A l) (hl : l.length ≤ 1000000) (hsz : ∀ x ∈ l, 0 ≤ x ∧ x ≤ 1000000) :
    Calls Tryz.prog 83 #[.slice A l.length c, .func (.func 84) #[] #[]] w (RetSl (encSl encSec) (l.map zimg) w) := by
  have H1 : Hid (∀ w', Below w.heap.size w w' → SlAt encInt w' (Bl w.heap.size) A l) := fun w' hb => h1.below hb
  clear h1
  obtain ⟨cur, hcs, hmk⟩ := makeOf tySecss l.length (by omega) (by omega) w
  have HCS := Lib.hid hcs; clear hcs
  have hO1 := Lib.hid (show OwnW (encSl encSec) (w.alloc (.cells cur 55)) w.heap.size w.heap.size 55 (.slice (some ⟨w.heap.size, 0, none⟩) 0 l.length) [] from Own.make0 (cur := cur) (Nat.le_refl _) (by unfold maxLen; omega) HCS.out (fun h => h.2 rfl))
  go_enter Tryz.func83, Tryz.ntmps83
  go_wp2
  go_loopw [5, 13] (fun v i wr => ∃ (k : Nat) (B : Option Addr) (vc : Nat) (out : List _), k ≤ l.length ∧ i = .int .i64 k ∧ v = .slice B out.length vc ∧ Below w.heap.size w wr ∧ Hid (out = (l.take k).map zimg) ∧ Hid (OwnW (encSl encSec) wr w.heap.size w.heap.size 55 (.slice B out.length vc) out)) (fun _ i _ => l.length - (intOf i).toNat)
  case atStart => exact ⟨0, some ⟨w.heap.size, 0, none⟩, l.length, [], by omega, rfl, rfl, ext_alloc (Below.refl _ _), by simp [Hid], hO1.out⟩
  case round =>
    clear hmk
    obtain ⟨k, B, vc, out, hk, rfl, rfl, hB, hout, hown⟩ := hrel
    by_cases hlt : k < l.length
    · have hnn : (0 : Int) ≤ k := by omega
      have hki : (k : Int) < l.length := by omega
      have hol : out.length ≤ k := by rw [hout.out]; simp; omega
      have hszr := hB.size
      obtain ⟨b, off, rfl, hb, g0, hi1, hi2⟩ := (H1.out wr hB).int hlt; obtain ⟨hx0, hx1⟩ := hsz _ (List.getElem_mem hlt)
      go_wp2_with fail
      refine (new1X l[k] hx0 hx1 wr).mono ?_
      rintro e w1 ⟨D, dc, rfl, r1, r2, r3, hb1⟩
      have hsz1 := hb1.size
      have hB1 : Below w.heap.size w w1 := ext_trans hB hb1
      have HO1 := Lib.hid (hown.out.below hb1)
      have hlt1 : ∀ g, (Value.slice B out.length vc).ownBlock = some g → g < wr.heap.size := fun g hg => (hown.out.lt g hg).2
      have HLT1 := Lib.hid hlt1; clear hlt1
      have HO2 := Lib.hid (Own.alloc HO1.out (fun _ h => h.1.2) (.cells #[.slice D l[k].toNat dc] 55))
      have HRD : Hid (((encSl encSec)).rd (w1.alloc (.cells #[.slice D l[k].toNat dc] 55)) (fun b => Nw w.heap.size w1.heap.size b ∧ (Value.slice B out.length vc).ownBlock ≠ some b) [.slice D l[k].toNat dc] (zimg l[k])) := ⟨D, dc, by rw [zimg_len], by rw [zimg_len]; exact r1, r2, SlAt.blk (OwnW.since (v := .slice B out.length vc) (lo := w.heap.size) r3 hszr (HLT1.out)) (fun g hg => Below.heap_alloc _ _ _ hg.1.2)⟩
      go_wp2_with (at_builtin; refine Hid.out ?_)
      change wpList _ _ _ _ _ _
      refine wpList_app1 (E := (encSl encSec)) tySecss rfl _ _ rfl rfl HO2.out (zimg l[k]) [.slice D l[k].toNat dc] rfl HRD.out (heap_alloc_new _ _) (fun _ h => by simp; have := h.1.2; omega) (by simp; omega) (by unfold maxLen; omega) (by omega) ?_
      intro A' c' w5 hown5 hg5 hat5
      have hok5 := Lib.hid (OwnW.app (hown5.more (S' := fun b => Nw w.heap.size (w1.alloc (.cells #[.slice D l[k].toNat dc] 55)).heap.size b ∧ (Value.slice B out.length vc).ownBlock ≠ some b) (fun b hb => ⟨hb.1.mono (Nat.le_refl _) (by simp), hb.2⟩) (OwnW_new hown5 hat5 HLT1.out (by simp; omega))) hg5 hat5)
      have hB5 := Lib.hid ((ext_alloc (o := .cells #[.slice D l[k].toNat dc] 55) hB1).grown hg5 (by simp; omega) (fun g h => (hown.out.lt g h).1))
      clear hown5 hg5 hat5
      go_wp2
      go_roundw
      case rel =>
        refine ⟨k + 1, A', c', out ++ [zimg l[k]], hlt, by go_num, by simp, hB5.out, ?_, ?_⟩
        · rw [List.take_succ_eq_append_getElem hlt, List.map_append, ← hout.out]; exact rfl
        · have := hok5.out; simpa [Hid] using this
      case measure => simp [intOf]; omega
    · have hkk : k = l.length := by omega
      subst hkk
      go_wp2
      go_ret
      have e := hout.out
      rw [List.take_length] at e
      rw [← e]
      obtain ⟨_, p1, p2, p3⟩ := hown.out.parts
      exact ⟨B, vc, rfl, p1, p2, p3, hB⟩
end Go.Proofs.YtnkmklnlaepdeaaGreat

namespace Go.Proofs.YtnkmklnlaepdeaaGreat
open Go.RowKit

def lenI (v : List Sec) : Int := v.length
def lens (im : List (List Sec)) : List Int := im.map lenI
theorem sizes1_any (A : Option Addr) (n c : Nat) (w : World) (hn : n ≤ 9223372036854775807) : Calls Tryz.prog 80 #[.slice A n c] w fun e w' => e = .returned (.int .i64 n) ∧ Below w.heap.size w w' := by
  go_enter Tryz.func80, Tryz.ntmps80
  go_wp2
  go_ret
  exact ⟨rfl, Below.refl _ _⟩
set_option maxHeartbeats 2000000 in
theorem mappedLen_any (A : Option Addr) (c : Nat) (l : List _) (w : World) (h1 : SlAt (encSl encSec) w (Bl w.heap.size) A l) (hl : l.length ≤ 1000000) (htt : True) :
    Calls Tryz.prog 79 #[.slice A l.length c, .func (.func 80) #[] #[]] w (RetSl encInt (l.map lenI) w) := by
  have H1 : Hid (∀ w', Below w.heap.size w w' → SlAt (encSl encSec) w' (Bl w.heap.size) A l) := fun w' hb => h1.below hb
  clear h1
  obtain ⟨cur, hcs, hmk⟩ := makeOf tyInts l.length (by omega) (by omega) w
  have HCS := Lib.hid hcs; clear hcs
  have hO1 := Lib.hid (show OwnW encInt (w.alloc (.cells cur 3)) w.heap.size w.heap.size 3 (.slice (some ⟨w.heap.size, 0, none⟩) 0 l.length) [] from Own.make0 (cur := cur) (Nat.le_refl _) (by unfold maxLen; omega) HCS.out (fun h => h.2 rfl))
  go_enter Tryz.func79, Tryz.ntmps79
  go_wp2
  go_loopw [5, 13] (fun v i wr => ∃ (k : Nat) (B : Option Addr) (vc : Nat) (out : List _), k ≤ l.length ∧ i = .int .i64 k ∧ v = .slice B out.length vc ∧ Below w.heap.size w wr ∧ Hid (out = (l.take k).map lenI) ∧ Hid (OwnW encInt wr w.heap.size w.heap.size 3 (.slice B out.length vc) out)) (fun _ i _ => l.length - (intOf i).toNat)
  case atStart => exact ⟨0, some ⟨w.heap.size, 0, none⟩, l.length, [], by omega, rfl, rfl, ext_alloc (Below.refl _ _), by simp [Hid], hO1.out⟩
  case round =>
    clear hmk
    obtain ⟨k, B, vc, out, hk, rfl, rfl, hB, hout, hown⟩ := hrel
    by_cases hlt : k < l.length
    · have hnn : (0 : Int) ≤ k := by omega
      have hki : (k : Int) < l.length := by omega
      have hol : out.length ≤ k := by rw [hout.out]; simp; omega
      have hszr := hB.size
      obtain ⟨b, off, D, dc, rfl, hb, g0, hD, hn1, hn2⟩ := (H1.out wr hB).sl hlt; have hn3 := hn2; unfold maxLen at hn3; have hn4 : l[k].length ≤ 9223372036854775807 := by omega
      go_wp2_with fail
      refine (sizes1_any D l[k].length dc wr hn4).mono ?_
      rintro e w1 ⟨rfl, hb1⟩
      have hsz1 := hb1.size
      have hB1 : Below w.heap.size w w1 := ext_trans hB hb1
      have HO1 := Lib.hid (hown.out.below hb1)
      have hlt1 : ∀ g, (Value.slice B out.length vc).ownBlock = some g → g < wr.heap.size := fun g hg => (hown.out.lt g hg).2
      have HLT1 := Lib.hid hlt1; clear hlt1
      have HO2 := Lib.hid (Own.alloc HO1.out (fun _ h => h.1.2) (.cells #[.int .i64 (l[k].length : Nat)] 3))
      have HRD : Hid ((encInt).rd (w1.alloc (.cells #[.int .i64 (l[k].length : Nat)] 3)) (fun b => Nw w.heap.size w1.heap.size b ∧ (Value.slice B out.length vc).ownBlock ≠ some b) [.int .i64 (l[k].length : Nat)] (lenI l[k])) := ⟨rfl, by unfold lenI I64; omega⟩
      go_wp2_with (at_builtin; refine Hid.out ?_)
      change wpList _ _ _ _ _ _
      refine wpList_app1 (E := encInt) tyInts rfl _ _ rfl rfl HO2.out (lenI l[k]) [.int .i64 (l[k].length : Nat)] rfl HRD.out (heap_alloc_new _ _) (fun _ h => by simp; have := h.1.2; omega) (by simp; omega) (by unfold maxLen; omega) (by omega) ?_
      intro A' c' w5 hown5 hg5 hat5
      have hok5 := Lib.hid (OwnW.app (hown5.more (S' := fun b => Nw w.heap.size (w1.alloc (.cells #[.int .i64 (l[k].length : Nat)] 3)).heap.size b ∧ (Value.slice B out.length vc).ownBlock ≠ some b) (fun b hb => ⟨hb.1.mono (Nat.le_refl _) (by simp), hb.2⟩) (OwnW_new hown5 hat5 HLT1.out (by simp; omega))) hg5 hat5)
      have hB5 := Lib.hid ((ext_alloc (o := .cells #[.int .i64 (l[k].length : Nat)] 3) hB1).grown hg5 (by simp; omega) (fun g h => (hown.out.lt g h).1))
      clear hown5 hg5 hat5
      go_wp2
      go_roundw
      case rel =>
        refine ⟨k + 1, A', c', out ++ [lenI l[k]], hlt, by go_num, by simp, hB5.out, ?_, ?_⟩
        · rw [List.take_succ_eq_append_getElem hlt, List.map_append, ← hout.out]; exact rfl
        · have := hok5.out; simpa [Hid] using this
      case measure => simp [intOf]; omega
    · have hkk : k = l.length := by omega
      subst hkk
      go_wp2
      go_ret
      have e := hout.out
      rw [List.take_length] at e
      rw [← e]
      obtain ⟨_, p1, p2, p3⟩ := hown.out.parts
      exact ⟨B, vc, rfl, p1, p2, p3, hB⟩
theorem imgSizes_any (A : Option Addr) (c : Nat) (im : List (List Sec)) (w : World) (h1 : SlAt (encSl encSec) w (Bl w.heap.size) A im) (hl : im.length ≤ 1000000) :
    Calls Tryz.prog 58 #[.slice A im.length c] w (RetSl encInt (lens im) w) := by
  have hc := Lib.hid (mappedLen_any A c im w h1 hl trivial)
  clear h1
  obtain ⟨r, hr⟩ : ∃ r, Hid (lens im = r) := ⟨_, Lib.hid rfl⟩
  have hr2 : Hid (im.map lenI = r) := hr
  rw [hr2.out] at hc
  rw [hr.out]
  go_enter Tryz.func58, Tryz.ntmps58
  go_wp2_with fail
  refine hc.out.mono ?_
  rintro e w1 ⟨A1, c1, rfl, r1, r2, r3, hb1⟩
  have HR := Lib.hid (And.intro r1 (And.intro r2 r3)); clear r1 r2 r3
  go_wp2
  go_ret
  exact ⟨A1, c1, rfl, HR.out.1, HR.out.2.1, HR.out.2.2, hb1⟩
theorem badSz_any (n : Int) (w : World) (q : Bool) (hq : badSz n = q) : Calls Tryz.prog 78 #[.int .i64 n] w fun e w' => e = .returned (.bool q) ∧ Below w.heap.size w w' := by
  by_cases c1 : n < 1
  · have c1' : decide (n < 1) = true := by simp [c1]
    go_enter Tryz.func78, Tryz.ntmps78
    go_wp2
    go_ret
    exact ⟨ret_bool (by rw [← hq]; simp [badSz, c1]), Below.refl _ _⟩
  · have c1' : decide (n < 1) = false := by simp; omega
    by_cases c2 : 4096 < n
    · go_enter Tryz.func78, Tryz.ntmps78
      go_wp2
      go_ret
      exact ⟨ret_bool (by rw [← hq]; simp [badSz, c1, c2]), Below.refl _ _⟩
    · go_enter Tryz.func78, Tryz.ntmps78
      go_wp2
      go_ret
      exact ⟨ret_bool (by rw [← hq]; simp [badSz, c1, c2]), Below.refl _ _⟩
set_option maxHeartbeats 1000000 in
theorem indexBad_any (A : Option Addr) (c : Nat) (l : List _) (w : World) (h1 : SlAt encInt w (Bl w.heap.size) A l) (hl : l.length ≤ 9223372036854775807) (htt : True) :
    Calls Tryz.prog 82 #[.slice A l.length c, .func (.func 78) #[] #[]] w fun e w' => (∃ i : Int, e = .returned (.int .i64 i) ∧ (decide (0 ≤ i) = l.any badSz)) ∧ Below w.heap.size w w' := by
  have H1 : Hid (∀ w', Below w.heap.size w w' → SlAt encInt w' (Bl w.heap.size) A l) := fun w' hb => h1.below hb
  clear h1
  go_enter Tryz.func82, Tryz.ntmps82
  go_wp2
  go_loopw [8] (fun i wr => ∃ k : Nat, k ≤ l.length ∧ i = .int .i64 k ∧ Below w.heap.size w wr ∧ Hid (∀ y ∈ l.take k, badSz y = false)) (fun i _ => l.length - (intOf i).toNat)
  case atStart => exact ⟨0, by omega, rfl, Below.refl _ _, by simp [Hid]⟩
  case round =>
    obtain ⟨k, hk, rfl, hB, hz⟩ := hrel
    by_cases hlt : k < l.length
    · have hnn : (0 : Int) ≤ k := by omega
      have hki : (k : Int) < l.length := by omega
      have hszr := hB.size
      obtain ⟨b, off, rfl, hb, g0, hi1, hi2⟩ := (H1.out wr hB).int hlt
      obtain ⟨q, hq⟩ : ∃ q, Hid (badSz l[k] = q) := ⟨badSz l[k], Lib.hid rfl⟩
      go_wp2_with fail
      refine (badSz_any l[k] wr q hq.out).mono ?_
      rintro e w1 ⟨rfl, hb1⟩; clear g0
      have hB1 : Below w.heap.size w w1 := ext_trans hB hb1
      cases q with
      | true =>
        go_wp2
        go_ret
        refine ⟨⟨k, rfl, ?_⟩, hB1⟩
        rw [decide_eq_true hnn, eq_comm, List.any_eq_true]
        exact ⟨l[k], List.getElem_mem hlt, hq.out⟩
      | false =>
        go_wp2
        go_roundw
        case rel =>
          refine ⟨k + 1, hlt, by go_num, hB1, ?_⟩
          intro y hy
          rw [List.take_succ_eq_append_getElem hlt] at hy
          rcases List.mem_append.1 hy with hy | hy
          · exact hz.out y hy
          · rw [List.mem_singleton.1 hy]; exact hq.out
        case measure => simp [intOf]; omega
    · have hkk : k = l.length := by omega
      subst hkk
      go_wp2
      go_ret
      refine ⟨⟨-1, rfl, ?_⟩, hB⟩
      have := hz.out
      rw [List.take_length] at this
      rw [eq_comm]
      show l.any badSz = false
      rw [List.any_eq_false]
      intro y hy
      simp [this y hy]
theorem containsBad_any (A : Option Addr) (c : Nat) (l : List _) (w : World) (h1 : SlAt encInt w (Bl w.heap.size) A l) (hl : l.length ≤ 9223372036854775807) (htt : True) (q : Bool) (hq : l.any badSz = q) :
    Calls Tryz.prog 61 #[.slice A l.length c, .func (.func 78) #[] #[]] w fun e w' => e = .returned (.bool q) ∧ Below w.heap.size w w' := by
  have hc := Lib.hid (indexBad_any A c l w h1 hl trivial)
  clear h1
  rw [hq] at hc
  clear hq
  go_enter Tryz.func61, Tryz.ntmps61
  go_wp2_with fail
  refine hc.out.mono ?_
  rintro e w1 ⟨⟨i, rfl, hi⟩, hb1⟩
  go_wp2
  go_ret
  exact ⟨rfl, hb1⟩
theorem checkSizes_any (A : Option Addr) (c n : Nat) (sz : List Int) (w : World) (hsn : sz.length = n) (h1 : SlAt encInt w (Bl w.heap.size) A sz) (hl : n ≤ 9223372036854775807) (r : Int) (hr : sizesN sz = r) :
    Calls Tryz.prog 57 #[.slice A n c] w fun e w' => e = .returned (.int .i64 r) ∧ Below w.heap.size w w' := by
  subst hsn
  have HR := Lib.hid hr; clear hr
  obtain ⟨q, hq⟩ : ∃ q, Hid (sz.any badSz = q) := ⟨_, Lib.hid rfl⟩
  have hc := Lib.hid (containsBad_any A c sz w h1 hl trivial q hq.out)
  clear h1
  by_cases c1 : sz.length < 1
  · have c1' : decide ((sz.length : Int) < 1) = true := by simp; omega
    go_enter Tryz.func57, Tryz.ntmps57
    go_wp2
    go_ret
    exact ⟨ret_int (by rw [← HR.out]; exact (if_pos (Or.inl c1)).symm), Below.refl _ _⟩
  · by_cases c2 : 8 < sz.length
    · go_enter Tryz.func57, Tryz.ntmps57
      go_wp2
      go_ret
      exact ⟨ret_int (by rw [← HR.out]; exact (if_pos (Or.inr c2)).symm), Below.refl _ _⟩
    · go_enter Tryz.func57, Tryz.ntmps57
      go_wp2_with fail
      refine hc.out.mono ?_
      rintro e w1 ⟨rfl, hb1⟩
      cases q with
      | true =>
        go_wp2
        go_ret
        exact ⟨ret_int (by rw [← HR.out, sizesN, if_neg (by omega), if_pos hq.out]), hb1⟩
      | false =>
        go_wp2
        go_ret
        exact ⟨ret_int (by rw [← HR.out, sizesN, if_neg (by omega), if_neg (by rw [hq.out]; simp)]), hb1⟩
/-- what New returns -/
def newL (sz : List Int) : List (List Sec) := if sizesN sz = 0 then sz.map zimg else []
theorem sizes_range {sz : List Int} (h : sizesN sz = 0) : sz.length ≤ 8 ∧ ∀ x ∈ sz, 1 ≤ x ∧ x ≤ 4096 := by
  unfold sizesN at h
  split at h
  · cases h
  · split at h
    · cases h
    · rename_i h1 h2
      refine ⟨by omega, fun x hx => ?_⟩
      have hb : badSz x = false := by
        cases hq : badSz x with
        | false => rfl
        | true => exact absurd (List.any_eq_true.2 ⟨x, hx, hq⟩) h2
      simp only [badSz, Bool.or_eq_false_iff, decide_eq_false_iff_not] at hb
      omega
theorem imgNew_any (A : Option Addr) (c : Nat) (sz : List Int) (w : World) (h1 : SlAt encInt w (Bl w.heap.size) A sz) (hl : sz.length ≤ 9223372036854775807) (en : Int) (hen : sizesN sz = en) (im : List (List Sec)) (him : newL sz = im) :
    Calls Tryz.prog 63 #[.slice A sz.length c] w (RetSlN (encSl encSec) im en w) := by
  have HEN := Lib.hid hen; clear hen
  have HIM := Lib.hid him; clear him
  have hc := Lib.hid (checkSizes_any A c sz.length sz w rfl h1 hl en HEN.out)
  by_cases he : en = 0
  · have he1 : (en != 0) = false := by simp [he]
    have HE := Lib.hid he; clear he
    obtain ⟨z1, z2⟩ := sizes_range (HEN.out.trans HE.out)
    have HZ2 := Lib.hid z2; clear z2
    have HI2 : Hid (sz.map zimg = im) := by rw [Hid, ← HIM.out, newL, if_pos (HEN.out.trans HE.out)]
    have H1 := Lib.hid h1; clear h1
    go_enter Tryz.func63, Tryz.ntmps63
    go_wp2_with fail
    refine hc.out.mono ?_
    rintro e w1 ⟨rfl, hb1⟩
    have hm := Lib.hid (mappedNew_any A c sz w1 (H1.out.fwd hb1) (by omega) (fun x hx => by have := HZ2.out x hx; omega))
    rw [HI2.out] at hm
    go_wp2_with fail
    refine hm.out.mono ?_
    rintro e w2 ⟨A2, c2, rfl, r1, r2, r3, hb2⟩
    have HR := Lib.hid (And.intro r1 (And.intro r2 r3)); clear r1 r2 r3
    have hs1 := hb1.size
    go_wp2
    go_ret2
    rw [HE.out]
    exact ⟨A2, c2, rfl, HR.out.1, HR.out.2.1, HR.out.2.2.more (fun g hg => hg.mono hs1 (Nat.le_refl _)), ext_trans hb1 hb2⟩
  · have he1 : (en != 0) = true := by simp [he]
    have HE := Lib.hid he; clear he
    clear h1
    go_enter Tryz.func63, Tryz.ntmps63
    go_wp2_with fail
    refine hc.out.mono ?_
    rintro e w1 ⟨rfl, hb1⟩
    go_wp2
    go_ret2
    rw [← HIM.out, newL, if_neg (by rw [HEN.out]; exact HE.out)]
    exact ⟨none, 0, rfl, by simp, by simp, SlAt.nil_, hb1⟩
theorem imgCheck_any (A : Option Addr) (c n : Nat) (im : List (List Sec)) (w : World) (hn : im.length = n) (h1 : SlAt (encSl encSec) w (Bl w.heap.size) A im) (hl : n ≤ 1000000) (r : Int) (hr : sizesN (lens im) = r) :
    Calls Tryz.prog 33 #[.slice A n c] w fun e w' => e = .returned (.int .i64 r) ∧ Below w.heap.size w w' := by
  subst hn
  have hc := Lib.hid (imgSizes_any A c im w h1 hl)
  have HR := Lib.hid hr; clear hr h1
  obtain ⟨sz, hsz⟩ : ∃ sz, Hid (lens im = sz) := ⟨_, Lib.hid rfl⟩
  have hlz : sz.length = im.length := by rw [← hsz.out, lens, List.length_map]
  have HLZ := Lib.hid hlz
  have hlz2 : sz.length ≤ 1000000 := by omega
  rw [hsz.out] at hc HR
  clear hlz
  go_enter Tryz.func33, Tryz.ntmps33
  go_wp2_with fail
  refine hc.out.mono ?_
  rintro e w1 ⟨A1, c1, rfl, r1, r2, r3, hb1⟩
  have HR3 := Lib.hid (r3.more (fun _ h => h.2)); clear r1 r2 r3
  go_wp2_with fail
  refine (checkSizes_any A1 c1 _ sz w1 rfl HR3.out (by omega) r HR.out).mono ?_
  rintro e w2 ⟨rfl, hb2⟩
  go_wp2
  go_ret
  exact ⟨rfl, ext_trans hb1 hb2⟩
end Go.Proofs.YtnkmklnlaepdeaaGreat

namespace Go.Proofs.YtnkmklnlaepdeaaGreat
open Go.RowKit

theorem lens_len (im : List (List Sec)) : (lens im).length = im.length := List.length_map _
theorem lens_at {im : List (List Sec)} {k : Nat} (hk : k < im.length) : (lens im)[k]'(by rw [lens_len]; exact hk) = (im[k].length : Int) := by simp [lens, lenI]
set_option maxHeartbeats 2000000 in
theorem imgFits1_any (A : Option Addr) (c : Nat) (im : List (List Sec)) (v s : Int) (D : Option Addr) (dc : Nat) (data : List Sec) (w : World) (h1 : SlAt (encSl encSec) w (Bl w.heap.size) A im) (hl : im.length ≤ 1000000) (hn : data.length ≤ 9223372036854775807) (hv : I64 v) (hs2 : I64 s) :
    Calls Tryz.prog 85 #[.slice A im.length c, .agg #[.int .i64 v, .int .i64 s, .slice D data.length dc]] w fun e w' => e = .returned (.int .i64 (fitsN (lens im) (v, s, data))) ∧ Below w.heap.size w w' := by
  obtain ⟨hv1, hv2⟩ := hv
  obtain ⟨hs1, hs2⟩ := hs2
  by_cases c1 : v < 0 ∨ im.length ≤ v
  · have hr : Hid (fitsN (lens im) (v, s, data) = 7) := fitsN_7 (by rw [lens_len]; exact c1)
    rw [hr.out]
    go_enter Tryz.func85, Tryz.ntmps85
    rcases c1 with c1 | c1
    · have c1' : decide (v < 0) = true := by simp [c1]
      go_wp2
      go_ret
      exact ⟨rfl, ext_alloc (Below.refl _ _)⟩
    · have c0 : decide (v < 0) = false := by simp; omega
      go_wp2
      go_ret
      exact ⟨rfl, ext_alloc (Below.refl _ _)⟩
  · have c2 : 0 ≤ v := by omega
    have c3 : v < im.length := by omega
    obtain ⟨k, rfl⟩ := Int.eq_ofNat_of_zero_le c2
    have hk : k < im.length := by omega
    have hkz : k < (lens im).length := by rw [lens_len]; exact hk
    have hat := lens_at hk
    have HAT := Lib.hid hat; clear hat
    obtain ⟨b, off, E, ec, rfl, hb, hcell, hsl, hm1, hm2⟩ := h1.sl hk
    have hlt : b < w.heap.size := hb
    unfold maxLen at hm2
    have d0 : decide ((k : Int) < 0) = false := by simp
    have d0' : decide ((im.length : Int) ≤ (k : Int)) = false := by simp; omega
    clear c1
    by_cases c4 : data.length = 0
    · have hr : Hid (fitsN (lens im) ((k : Int), s, data) = 1) := fitsN_1 hkz c4
      rw [hr.out]
      have c4' : ((data.length : Int) == 0) = true := by simp [c4]
      have C4 := Lib.hid c4; clear c4
      go_enter Tryz.func85, Tryz.ntmps85
      go_wp2
      go_ret
      exact ⟨rfl, ext_alloc (Below.refl _ _)⟩
    · have c4' : ((data.length : Int) == 0) = false := by rw [beq_eq_false_iff_ne]; omega
      have c5 : 0 < data.length := by omega
      have C4 := Lib.hid c4; clear c4
      by_cases d1 : s < 0
      · have hr : Hid (fitsN (lens im) ((k : Int), s, data) = 2) := fitsN_2 hkz C4.out (Or.inl d1)
        rw [hr.out]
        have d1' : decide (s < 0) = true := by simp [d1]
        go_enter Tryz.func85, Tryz.ntmps85
        go_wp2
        go_quiet (fail)
        go_wp2
        go_ret
        exact ⟨rfl, bDrew (ext_alloc (Below.refl _ _)) _⟩
      · have d1' : decide (s < 0) = false := by simp; omega
        by_cases d2 : (im[k].length : Int) - data.length < s
        · have hr : Hid (fitsN (lens im) ((k : Int), s, data) = 2) := fitsN_2 hkz C4.out (by rw [HAT.out]; omega)
          rw [hr.out]
          have d2' : decide ((im[k].length : Int) - (data.length : Int) < s) = true := by simp [d2]
          go_enter Tryz.func85, Tryz.ntmps85
          go_wp2
          go_quiet (fail)
          go_wp2
          go_ret
          exact ⟨rfl, bDrew (ext_alloc (Below.refl _ _)) _⟩
        · have hr : Hid (fitsN (lens im) ((k : Int), s, data) = 0) := fitsN_0 hkz C4.out (by rw [HAT.out]; omega)
          rw [hr.out]
          have d2' : decide ((im[k].length : Int) - (data.length : Int) < s) = false := by simp; omega
          go_enter Tryz.func85, Tryz.ntmps85
          go_wp2
          go_quiet (fail)
          go_wp2
          go_ret
          exact ⟨rfl, bDrew (ext_alloc (Below.refl _ _)) _⟩
/-- Fits of a correct image -/
theorem imgFits_any (A : Option Addr) (c n : Nat) (im : List (List Sec)) (v s : Int) (D : Option Addr) (dc m : Nat) (data : List Sec) (w : World) (hn : im.length = n) (hm : data.length = m) (h1 : SlAt (encSl encSec) w (Bl w.heap.size) A im) (hl : n ≤ 1000000) (hz : sizesN (lens im) = 0) (hd : m ≤ 9223372036854775807) (hv : I64 v) (hs2 : I64 s) (pn : Int) (hp : fitsN (lens im) (v, s, data) = pn) :
    Calls Tryz.prog 66 #[.slice A n c, .agg #[.int .i64 v, .int .i64 s, .slice D m dc]] w fun e w' => e = .returned (.int .i64 pn) ∧ Below w.heap.size w w' := by
  subst hn hm
  have H1 := Lib.hid h1; clear h1
  have hc := Lib.hid (imgCheck_any A c im.length im (w.alloc (.cells #[.int .i64 v, .int .i64 s, .slice D data.length dc] 74)) rfl (H1.out.fwd (ext_alloc (Below.refl _ _))) hl 0 hz)
  have HP := Lib.hid hp; have HV := Lib.hid hv; have HS := Lib.hid hs2
  clear hp hz hv hs2
  go_enter Tryz.func66, Tryz.ntmps66
  go_wp2_with fail
  refine hc.out.mono ?_
  rintro e w1 ⟨rfl, hb1⟩
  have hB1 : Below w.heap.size w w1 := (by repeat (first | exact Below.refl _ _ | assumption | refine ext_alloc ?_ | refine ext_drew ?_ | refine ext_trans ?_ (by assumption)))
  have hbox := boxAft hb1
  obtain ⟨t0, t1, t2, tf⟩ := blk3 hbox
  have hf := imgFits1_any A c im v s D dc data w1 (H1.out.fwd hB1) hl hd HV.out HS.out
  rw [HP.out] at hf
  have HF := Lib.hid hf; clear hf hbox
  go_wp2_with fail
  refine HF.out.mono ?_
  rintro e w2 ⟨rfl, hb2⟩
  have hB2 : Below w.heap.size w w2 := (by repeat (first | exact Below.refl _ _ | assumption | refine ext_alloc ?_ | refine ext_drew ?_ | refine ext_trans ?_ (by assumption)))
  clear t0 t1 t2 tf
  go_wp2
  go_ret
  exact ⟨rfl, hB2⟩
theorem one_box {w : World} {b : Nat} {T : TypeId} {c0 : Value} (h : w.heap[b]? = some (.cells #[c0] T (0, 0))) : w.cell? ⟨b, 0, none⟩ = some c0 ∧ ∀ j, w.frozen? ⟨b, j, none⟩ = false :=
  ⟨cell_of_row w b 0 _ T _ h, fun j => by simp [World.frozen?, h]⟩
theorem checkI1 (v s : Int) (m : Nat) (D : Option Addr) (dc : Nat) (w : World) (hd : m ≤ 9223372036854775807) (data : List Sec) (hm : data.length = m) (A : Option Addr) (c bx : Nat) (im : List (List Sec)) (hbx : w.heap[bx]? = some (.cells #[.slice A im.length c] 26 (0, 0))) (h1 : SlAt (encSl encSec) w (Bl w.heap.size) A im) (hz : sizesN (lens im) = 0) (hv : I64 v) (hs2 : I64 s) (pn : Int) (hp : fitsN (lens im) (v, s, data) = pn) :
    Calls Tryz.prog 65 #[.agg #[.int .i64 v, .int .i64 s, .slice D m dc], .pointer (some ⟨bx, 0, none⟩)] w fun e w' => e = .returned (.int .i64 pn) ∧ Below w.heap.size w w' := by
  have hl := (sizes_range hz).1
  rw [lens_len] at hl
  have hbl := (Array.getElem?_eq_some_iff.1 hbx).1
  have hc := Lib.hid (imgFits_any A c im.length im v s D dc m data (w.alloc (.cells #[.int .i64 v, .int .i64 s, .slice D m dc] 74)) rfl hm (h1.fwd (ext_alloc (Below.refl _ _))) (by omega) hz hd hv hs2 pn hp)
  obtain ⟨t0, tf⟩ := one_box hbx
  clear hp hz hv hs2 h1 hbx hm
  go_enter Tryz.func65, Tryz.ntmps65
  go_wp2_with fail
  refine hc.out.mono ?_
  rintro e w1 ⟨rfl, hb1⟩
  have hB1 : Below w.heap.size w w1 := (by repeat (first | exact Below.refl _ _ | assumption | refine ext_alloc ?_ | refine ext_drew ?_ | refine ext_trans ?_ (by assumption)))
  clear t0 tf
  go_wp2
  go_ret
  exact ⟨rfl, hB1⟩
set_option maxHeartbeats 4000000 in
theorem checkI_any (A : Option Addr) (c : Nat) (l : List Wr) (w : World) (h1 : SlAt encWr w (Bl w.heap.size) A l) (hs : l.length ≤ 9223372036854775807) (IA : Option Addr) (ic bx : Nat) (im : List (List Sec)) (hbx : w.heap[bx]? = some (.cells #[.slice IA im.length ic] 26 (0, 0))) (h2 : SlAt (encSl encSec) w (Bl w.heap.size) IA im) (hz0 : sizesN (lens im) = 0) (f : Wr → Int) (hf : fitsN (lens im) = f) :
    Calls Tryz.prog 64 #[.slice A l.length c, .func (.func 65) #[] #[.pointer (some ⟨bx, 0, none⟩)]] w fun e w' => e = .returned (.int .i64 (chkN f l)) ∧ Below w.heap.size w w' := by
  have H2 : Hid (∀ w', Below w.heap.size w w' → SlAt encWr w' (Bl w.heap.size) A l) := fun w' hb => h1.below hb
  have HI : Hid (∀ w', Below w.heap.size w w' → SlAt (encSl encSec) w' (Bl w'.heap.size) IA im) := fun w' hb => h2.fwd hb
  have hbl := (Array.getElem?_eq_some_iff.1 hbx).1
  have HBX : Hid (∀ w', Below w.heap.size w w' → w'.heap[bx]? = some (.cells #[.slice IA im.length ic] 26 (0, 0))) := fun w' hb => (hb.block _ hbl).trans hbx
  have HOK : Hid (∀ x, f x = 0 → 0 ≤ x.1 ∧ x.1 < 8 ∧ 0 < x.2.2.length ∧ 0 ≤ x.2.1 ∧ x.2.1 + x.2.2.length ≤ 4096) := fun x h => fits_ok hz0 (by rw [hf]; exact h)
  have HF := Lib.hid hf; have HZ0 := Lib.hid hz0
  clear h1 h2 hbx hf hz0
  go_enter Tryz.func64, Tryz.ntmps64
  go_wp2
  go_loopw [11] (fun i wr => ∃ k : Nat, k ≤ l.length ∧ i = .int .i64 k ∧ Below w.heap.size w wr ∧ Hid (∀ x ∈ (withPrev l).take k, stepErr f x = 0)) (fun i _ => l.length - (intOf i).toNat)
  case atStart => exact ⟨0, by omega, rfl, Below.refl _ _, by simp [Hid]⟩
  case round =>
    obtain ⟨k, hk, rfl, hB, hz⟩ := hrel
    by_cases hlt : k < l.length
    · obtain ⟨b, off, D, dc, rfl, hb, g0, g1, g2, hD, hn1, hn2, hi1, hi2⟩ := (H2.out wr hB).wr hlt
      have hbl : b < w.heap.size := hb
      have hnn : (0 : Int) ≤ k := by omega
      have hki : (k : Int) < l.length := by omega
      unfold maxLen at hn2
      have hn3 : l[k].2.2.length ≤ 9223372036854775807 := by omega
      have hsz := hB.size
      obtain ⟨pn, hpn⟩ : ∃ pn, Hid (f l[k] = pn) := ⟨f l[k], Lib.hid rfl⟩
      obtain ⟨x, hx⟩ : ∃ x, Hid (x = l[k]) := ⟨_, Lib.hid rfl⟩
      rw [← hx.out] at g0 g1 g2 hn1 hi1 hi2 hn3 hpn
      obtain ⟨v, s, data⟩ := x
      simp only at g0 g1 g2 hn1 hi1 hi2 hn3 hpn
      have hcall := fun W (hW : Below w.heap.size w W) => checkI1 v s data.length D dc W hn3 data rfl IA ic bx im (HBX.out W hW) (HI.out W hW) HZ0.out hi1 hi2 pn (by rw [HF.out]; exact hpn.out)
      have HCALL := Lib.hid hcall; clear hcall
      by_cases hp0 : pn = 0
      · have hp1 : (pn != 0) = false := by simp [hp0]
        have HP := Lib.hid hp0; clear hp0
        cases k with
        | zero =>
          have hpr : Hid ((withPrev l)[0]'(by rw [withPrev_len]; exact hlt) = (none, (v, s, data))) := by rw [withPrev_zero hlt, ← hx.out]; exact rfl
          simp only [Nat.zero_mul, Nat.add_zero] at g0 g1 g2
          go_wp2_with fail
          refine (HCALL.out _ (hB.alloc hsz _)).mono ?_
          rintro e w1 ⟨rfl, hb1⟩
          have HB1 := Lib.hid ((hB.alloc hsz _).trans (hb1.mono (by simp; omega)))
          clear g0 g1 g2
          go_wp2
          go_roundw
          case rel => exact ⟨1, hlt, by go_num, HB1.out, takeSnoc hlt _ hpr.out hz.out (by simp [stepErr, hpn.out, HP.out])⟩
          case measure => simp [intOf]; omega
        | succ k =>
          have hlt1 : k < l.length := by omega
          have hpr : Hid ((withPrev l)[k + 1]'(by rw [withPrev_len]; exact hlt) = (some l[k], (v, s, data))) := by rw [withPrev_succ hlt, ← hx.out]; exact rfl
          have hpok := HOK.out _ (takePrev hlt1 hz.out)
          obtain ⟨b', off', D', dc', he, hb', f0, f1, f2, hD', hm1, hm2, hj1, hj2⟩ := (H2.out wr hB).wr hlt1
          injection he with he
          injection he with he1 he2
          subst he1 he2
          obtain ⟨y, hy⟩ : ∃ y, Hid (y = l[k]) := ⟨_, Lib.hid rfl⟩
          rw [← hy.out] at f0 f1 f2 hm1 hj1 hj2 hpok hpr
          obtain ⟨v', s', data'⟩ := y
          simp only at f0 f1 f2 hm1 hj1 hj2 hpok
          obtain ⟨o1, o2, o3, o4, o5⟩ := hpok
          have e5 : ((k + 1 : Nat) : Int) = (k : Int) + 1 := by omega
          rw [e5] at hki ⊢
          have hk1 : (((k : Int) + 1) == 0) = false := by rw [beq_eq_false_iff_ne]; omega
          clear hD hD' hn1 hm1 hm2 hn2
          by_cases d1 : v < v'
          · have hst : Hid (stepErr f (some (v', s', data'), (v, s, data)) = 3) := by
              unfold stepErr
              rw [if_neg (by rw [hpn.out, HP.out]; simp)]
              exact if_pos (Or.inl d1)
            go_wp2_with fail
            refine (HCALL.out _ (hB.alloc hsz _)).mono ?_
            rintro e w1 ⟨rfl, hb1⟩
            have hB1 : Below w.heap.size w w1 := (hB.alloc hsz _).trans (hb1.mono (by simp; omega))
            have r0 := cellAft hb1 f0
            have r1 := cellAft hb1 f1
            have r2 := cellAft hb1 f2
            obtain ⟨t0, t1, t2, tf⟩ := blk3 (boxAft hb1)
            have hsz1 := hb1.size
            simp only [World.size_alloc] at hsz1
            have hwl : wr.heap.size < w1.heap.size := by omega
            have hbw : b < w1.heap.size := by omega
            have HB1 := Lib.hid hB1; clear hB1 hb1 f0 f1 f2 g0 g1 g2
            go_wp2
            go_ret
            refine ⟨ret_int ?_, HB1.out.alloc (by omega) _⟩
            have e := chk_at hlt _ hpr.out hz.out (by rw [hst.out]; decide)
            rw [e, hst.out]
          · by_cases d2 : v = v'
            · have d2' : (v == v') = true := by simp [d2]
              have HD2 := Lib.hid d2; clear d2
              by_cases d3 : s ≤ s' + data'.length
              · have hst : Hid (stepErr f (some (v', s', data'), (v, s, data)) = 3) := by
                  unfold stepErr
                  rw [if_neg (by rw [hpn.out, HP.out]; simp)]
                  exact if_pos (Or.inr ⟨HD2.out, d3⟩)
                go_wp2_with fail
                refine (HCALL.out _ (hB.alloc hsz _)).mono ?_
                rintro e w1 ⟨rfl, hb1⟩
                have hB1 : Below w.heap.size w w1 := (hB.alloc hsz _).trans (hb1.mono (by simp; omega))
                have r0 := cellAft hb1 f0
                have r1 := cellAft hb1 f1
                have r2 := cellAft hb1 f2
                obtain ⟨t0, t1, t2, tf⟩ := blk3 (boxAft hb1)
                have hsz1 := hb1.size
                simp only [World.size_alloc] at hsz1
                have hwl : wr.heap.size < w1.heap.size := by omega
                have hbw : b < w1.heap.size := by omega
                have HB1 := Lib.hid hB1; clear hB1 hb1 f0 f1 f2 g0 g1 g2
                go_wp2
                go_ret
                refine ⟨ret_int ?_, HB1.out.alloc (by omega) _⟩
                have e := chk_at hlt _ hpr.out hz.out (by rw [hst.out]; decide)
                rw [e, hst.out]
              · have hst : Hid (stepErr f (some (v', s', data'), (v, s, data)) = 0) := by
                  unfold stepErr
                  rw [if_neg (by rw [hpn.out, HP.out]; simp)]
                  exact if_neg (fun h => by have := HD2.out; simp only at h; omega)
                go_wp2_with fail
                refine (HCALL.out _ (hB.alloc hsz _)).mono ?_
                rintro e w1 ⟨rfl, hb1⟩
                have hB1 : Below w.heap.size w w1 := (hB.alloc hsz _).trans (hb1.mono (by simp; omega))
                have r0 := cellAft hb1 f0
                have r1 := cellAft hb1 f1
                have r2 := cellAft hb1 f2
                obtain ⟨t0, t1, t2, tf⟩ := blk3 (boxAft hb1)
                have hsz1 := hb1.size
                simp only [World.size_alloc] at hsz1
                have hwl : wr.heap.size < w1.heap.size := by omega
                have hbw : b < w1.heap.size := by omega
                have HB1 := Lib.hid hB1; clear hB1 hb1 f0 f1 f2 g0 g1 g2
                go_wp2
                go_roundw
                case rel => exact ⟨k + 1 + 1, hlt, by go_num, HB1.out.alloc (by omega) _, takeSnoc hlt _ hpr.out hz.out hst.out⟩
                case measure => simp [intOf]; omega
            · have d2' : (v == v') = false := by simp [d2]
              have HD2 := Lib.hid d2; clear d2
              have hst : Hid (stepErr f (some (v', s', data'), (v, s, data)) = 0) := by
                unfold stepErr
                rw [if_neg (by rw [hpn.out, HP.out]; simp)]
                exact if_neg (fun h => by have := HD2.out; simp only at h; omega)
              go_wp2_with fail
              refine (HCALL.out _ (hB.alloc hsz _)).mono ?_
              rintro e w1 ⟨rfl, hb1⟩
              have hB1 : Below w.heap.size w w1 := (hB.alloc hsz _).trans (hb1.mono (by simp; omega))
              have r0 := cellAft hb1 f0
              have r1 := cellAft hb1 f1
              have r2 := cellAft hb1 f2
              obtain ⟨t0, t1, t2, tf⟩ := blk3 (boxAft hb1)
              have hsz1 := hb1.size
              simp only [World.size_alloc] at hsz1
              have hwl : wr.heap.size < w1.heap.size := by omega
              have hbw : b < w1.heap.size := by omega
              have HB1 := Lib.hid hB1; clear hB1 hb1 f0 f1 f2 g0 g1 g2
              go_wp2
              go_roundw
              case rel => exact ⟨k + 1 + 1, hlt, by go_num, HB1.out.alloc (by omega) _, takeSnoc hlt _ hpr.out hz.out hst.out⟩
              case measure => simp [intOf]; omega
      · have hp1 : (pn != 0) = true := by simp [hp0]
        have HP := Lib.hid hp0; clear hp0
        have hst : Hid (∀ o : Option Wr, stepErr f (o, (v, s, data)) = pn) := fun o => by
          unfold stepErr
          rw [if_pos (by rw [hpn.out]; exact HP.out)]
          exact hpn.out
        go_wp2_with fail
        refine (HCALL.out _ (hB.alloc hsz _)).mono ?_
        rintro e w1 ⟨rfl, hb1⟩
        have HB1 := Lib.hid ((hB.alloc hsz _).trans (hb1.mono (by simp; omega)))
        clear g0 g1 g2
        go_wp2
        go_ret
        refine ⟨ret_int ?_, HB1.out⟩
        cases k with
        | zero =>
          have e := chk_at hlt _ ((withPrev_zero hlt).trans (by rw [← hx.out])) hz.out (by rw [hst.out]; exact HP.out)
          rw [e, hst.out]
        | succ k =>
          have e := chk_at hlt _ ((withPrev_succ hlt).trans (by rw [← hx.out])) hz.out (by rw [hst.out]; exact HP.out)
          rw [e, hst.out]
    · have hkk : k = l.length := by omega
      subst hkk
      go_wp2
      go_ret
      exact ⟨ret_int (chk_zero hz.out).symm, hB⟩
end Go.Proofs.YtnkmklnlaepdeaaGreat

namespace Go.Proofs.YtnkmklnlaepdeaaGreat
open Go.RowKit

set_option maxHeartbeats 2000000 in
theorem check_any (A Z : Option Addr) (c zc : Nat) (l : List Wr) (sz : List Int) (w : World) (h1 : SlAt encWr w (Bl w.heap.size) A l) (hs : l.length ≤ 9223372036854775807) (h2 : SlAt encInt w (Bl w.heap.size) Z sz) (hzl : sz.length ≤ 9223372036854775807) (r : Int) (hr : chkS l sz = r) :
    Calls Tryz.prog 37 #[.slice A l.length c, .slice Z sz.length zc] w fun e w' => e = .returned (.int .i64 r) ∧ Below w.heap.size w w' := by
  have HR := Lib.hid hr; clear hr
  have H1 := Lib.hid h1; clear h1
  obtain ⟨en, hen⟩ : ∃ en, Hid (sizesN sz = en) := ⟨_, Lib.hid rfl⟩
  obtain ⟨im, him⟩ : ∃ im, Hid (newL sz = im) := ⟨_, Lib.hid rfl⟩
  have hc := Lib.hid (imgNew_any Z zc sz w h2 hzl en hen.out im him.out)
  clear h2
  go_enter Tryz.func37, Tryz.ntmps37
  go_wp2_with fail
  refine hc.out.mono ?_
  rintro e w1 ⟨A1, c1, rfl, r1, r2, r3, hb1⟩
  have HS3 := Lib.hid (r3.more (fun _ h => h.2)); clear r1 r2 r3
  by_cases he : en = 0
  · have he1 : (en != 0) = false := by simp [he]
    have HE := Lib.hid he; clear he
    have hlens : lens im = sz := by
      rw [← him.out, newL, if_pos (hen.out.trans HE.out), lens, List.map_map]
      have hp := (sizes_range (hen.out.trans HE.out)).2
      have : ∀ x ∈ sz, (lenI ∘ zimg) x = x := fun x hx => by
        have := hp x hx
        simp only [Function.comp, lenI, zimg_len]; omega
      calc sz.map (lenI ∘ zimg) = sz.map id := List.map_congr_left this
        _ = sz := List.map_id _
    have HL := Lib.hid hlens; clear hlens
    have hB2 : Below w.heap.size w (w1.alloc (.cells #[.slice A1 im.length c1] 26)) := (by repeat (first | exact Below.refl _ _ | assumption | refine ext_alloc ?_ | refine ext_drew ?_ | refine ext_trans ?_ (by assumption)))
    have hk := Lib.hid (checkI_any A c l (w1.alloc (.cells #[.slice A1 im.length c1] 26)) (H1.out.fwd hB2) hs A1 c1 w1.heap.size im (heap_alloc_new _ _) (HS3.out.fwd (ext_alloc (Below.refl _ _))) (by rw [HL.out]; exact hen.out.trans HE.out) _ rfl)
    obtain ⟨k, hkk⟩ : ∃ k, Hid (chkN (fitsN (lens im)) l = k) := ⟨_, Lib.hid rfl⟩
    rw [hkk.out] at hk
    go_wp2_with fail
    refine hk.out.mono ?_
    rintro e w2 ⟨rfl, hb2⟩
    have hB3 : Below w.heap.size w w2 := (by repeat (first | exact Below.refl _ _ | assumption | refine ext_alloc ?_ | refine ext_drew ?_ | refine ext_trans ?_ (by assumption)))
    go_wp2
    go_ret
    refine ⟨ret_int ?_, hB3⟩
    rw [← HR.out, chkS, if_neg (by rw [hen.out, HE.out]; simp), ← hkk.out, HL.out]
  · have he1 : (en != 0) = true := by simp [he]
    have HE := Lib.hid he; clear he
    have hB2 : Below w.heap.size w (w1.alloc (.cells #[.slice A1 im.length c1] 26)) := (by repeat (first | exact Below.refl _ _ | assumption | refine ext_alloc ?_ | refine ext_drew ?_ | refine ext_trans ?_ (by assumption)))
    go_wp2
    go_ret
    refine ⟨ret_int ?_, hB2⟩
    rw [← HR.out, chkS, if_pos (by rw [hen.out]; exact HE.out), hen.out]
end Go.Proofs.YtnkmklnlaepdeaaGreat

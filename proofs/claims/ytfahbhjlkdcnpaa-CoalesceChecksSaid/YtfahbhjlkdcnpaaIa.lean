/-
  The walks of the image package: sizes, zero images, what fits.
-/
import Derived.Test.YtfahbhjlkdcnpaaTa
import Derived.Laws.MakeOwn
set_option linter.unusedVariables false
set_option linter.unusedSimpArgs false
set_option linter.unusedSectionVars false
set_option linter.unnecessarySimpa false
namespace Go.Proofs.Ytfahbhjlkdcnpaa
open Go.RowKit

theorem makeOf {t e : TypeId} {size bytes : Nat} (hT : SliceTy Try.prog t e size bytes) (n : Nat) (hn : n * bytes ≤ 281474976710656) (h63 : n ≤ 1000000000000) (w : World) : ∃ cur : Array Value, cur.size = n * size ∧ (Instr.makeSlice t (.int .i64 0) (.int .i64 n)).run Try.prog w = .ok (.slice (some ⟨w.heap.size, 0, none⟩) 0 n) (w.alloc (.cells cur e)) := by
  obtain ⟨i, z, hi, hz, hsz, hby, hzs⟩ := hT.info
  have hbi : ((i.bytes : Int)) * (n : Int) ≤ 281474976710656 := by
    have h : ((i.bytes * n : Nat) : Int) ≤ 281474976710656 := by rw [hby, Nat.mul_comm]; omega
    rwa [Int.natCast_mul] at h
  have hr := run_make (P := Try.prog) w t e i z hT.und hi hz .i64 .i64 0 n (by omega) (by omega) hbi (by omega)
  simp only [Int.toNat_natCast, Int.toNat_zero] at hr
  exact ⟨_, by rw [size_madeCells, hsz], hr⟩
theorem Own.make0 {α : Type} {E : Enc α} {w : World} {base : Nat} {e : TypeId} {S : Nat → Prop} {cur : Array Value} {cap : Nat} (hb : base ≤ w.heap.size) (hm : cap ≤ maxLen) (hs : cur.size = cap * E.size) (hS : ¬ S w.heap.size) :
    Own E (w.alloc (.cells cur e)) base e S (.slice (some ⟨w.heap.size, 0, none⟩) 0 cap) [] :=
  ⟨[], World.ownsRow_made w cur cap hb hm hs, trivial, fun g hg => by
    have : w.heap.size = g := by simpa [Value.ownBlock] using hg
    rw [← this]; exact hS⟩
theorem tySecss : SliceTy Try.prog 59 33 1 24 := sliceTy_mk (z := .slice none 0 0) Try.underlying59 (by kernel_rfl) rfl (by decide)
/-- make([]api.Sector, n) -/
theorem makeSecs (n : Nat) (hn : n ≤ 1000000) (w : World) : ∃ cur : Array Value, cur.size = n * 8 ∧ (∀ j, j < n * 8 → cur[j]? = some (.int .u8 0)) ∧ (Instr.makeSlice 33 (.int .i64 n) (.int .i64 n)).run Try.prog w = .ok (.slice (some ⟨w.heap.size, 0, none⟩) n n) (w.alloc (.cells cur 53)) := by
  have hinfo : (Try.prog.info? 53).map (fun i => (i.zero, i.size, i.bytes)) = some (some (.agg #[.int .u8 0, .int .u8 0, .int .u8 0, .int .u8 0, .int .u8 0, .int .u8 0, .int .u8 0, .int .u8 0]), 8, 8) := by kernel_rfl
  obtain ⟨i, hi, hz, hsz, hby⟩ := info_parts hinfo
  have hbi : ((i.bytes : Int)) * (n : Int) ≤ 281474976710656 := by rw [hby]; omega
  have hr := run_make (P := Try.prog) w 33 53 i _ Try.underlying33 hi hz .i64 .i64 n n (by omega) (by omega) hbi (by omega)
  simp only [Int.toNat_natCast] at hr
  refine ⟨_, by rw [size_madeCells, hsz], fun j hj => ?_, hr⟩
  have hz8 : ∀ m, m < 8 → (#[Value.int .u8 0, .int .u8 0, .int .u8 0, .int .u8 0, .int .u8 0, .int .u8 0, .int .u8 0, .int .u8 0] : Array Value)[m]! = .int .u8 0 := by
    intro m hm
    match m, hm with
    | 0, _ => rfl
    | 1, _ => rfl
    | 2, _ => rfl
    | 3, _ => rfl
    | 4, _ => rfl
    | 5, _ => rfl
    | 6, _ => rfl
    | 7, _ => rfl
  simp only [madeCells, Value.cells, hsz]
  rw [Array.getElem?_map, Array.getElem?_range, if_pos (by omega)]
  simp only [Option.map_some, Option.some.injEq]
  exact hz8 _ (Nat.mod_lt _ (by decide))
theorem zsec_rd {w : World} {S : Nat → Prop} : encSec.rd w S (List.replicate 8 (.int .u8 0)) zsec := ⟨rfl, zsec_ok⟩
theorem zsecs_at {w : World} {S : Nat → Prop} {b n : Nat} {cur : Array Value} {T : TypeId} (hb : w.heap[b]? = some (.cells cur T (0, 0))) (hS : S b) (hc : ∀ j, j < n * 8 → cur[j]? = some (.int .u8 0)) : SlAt encSec w S (some ⟨b, 0, none⟩) (List.replicate n zsec) := by
  refine fun _ => ⟨b, 0, rfl, hS, fun i x hx => ?_⟩
  have hi : i < n := by have := (List.getElem?_eq_some_iff.1 hx).1; simpa using this
  have hx' : x = zsec := by
    have := (List.getElem?_eq_some_iff.1 hx).2
    simpa using this.symm
  subst hx'
  refine ⟨List.replicate 8 (.int .u8 0), fun j v hv => ?_, zsec_rd⟩
  have hj : j < 8 := by have := (List.getElem?_eq_some_iff.1 hv).1; simpa using this
  have hv' : v = .int .u8 0 := by
    have := List.mem_of_getElem? hv
    exact (List.mem_replicate.1 this).2
  subst hv'
  rw [cell_of_row w b _ _ T _ hb]
  have h8 : encSec.size = 8 := rfl
  rw [h8]
  exact hc _ (by omega)
theorem new1_any (n : Nat) (w : World) (hn : n ≤ 1000000) : Calls Try.prog 75 #[.int .i64 n] w (RetSl encSec (List.replicate n zsec) w) := by
  obtain ⟨cur, hcs, hcz, hmk⟩ := makeSecs n hn w
  have HCZ := Lib.hid hcz; clear hcz hcs
  go_enter Try.func75, Try.ntmps75
  go_wp2
  go_ret
  refine ⟨some ⟨w.heap.size, 0, none⟩, n, by rw [List.length_replicate]; rfl, by simp, by unfold maxLen; omega, ?_, ext_alloc (Below.refl _ _)⟩
  exact zsecs_at (heap_alloc_new _ _) ⟨Nat.le_refl _, by simp⟩ HCZ.out
theorem OwnW_new {α : Type} {E : Enc α} {w' : World} {base lo n m : Nat} {e : TypeId} {v v' : Value} {l : List α} {S : Nat → Prop} (h : Own E w' base e S v' l) (hat : v'.ownBlock = v.ownBlock ∨ v'.ownBlock = some m) (hv : ∀ g, v.ownBlock = some g → g < n) (hnm : n ≤ m) : ∀ g, v'.ownBlock = some g → ¬ (Nw lo m g ∧ v.ownBlock ≠ some g) := by
  rintro g hg ⟨h1, h2⟩
  rcases hat with hat | hat
  · exact h2 (by rw [← hat]; exact hg)
  · rw [hat] at hg
    injection hg with hg
    have := h1.2
    omega
theorem new1X (n : Int) (h0 : 0 ≤ n) (hn : n ≤ 1000000) (w : World) : Calls Try.prog 75 #[.int .i64 n] w fun e w' => ∃ A c, e = .returned (.slice A n.toNat c) ∧ n.toNat ≤ c ∧ c ≤ maxLen ∧ SlAt encSec w' (Nw w.heap.size w'.heap.size) A (List.replicate n.toNat zsec) ∧ Below w.heap.size w w' := by
  obtain ⟨k, rfl⟩ := Int.eq_ofNat_of_zero_le h0
  refine (new1_any k w (by omega)).mono fun e w' h => ?_
  obtain ⟨A, c, he, h1, h2, h3, h4⟩ := h
  rw [List.length_replicate] at he h1
  exact ⟨A, c, he, by simpa using h1, h2, by simpa using h3, h4⟩
def zimg (n : Int) : List Sec := List.replicate n.toNat zsec
theorem zimg_len (n : Int) : (zimg n).length = n.toNat := List.length_replicate ..
set_option maxHeartbeats 2000000 in
theorem mappedNew_any (A : Option Addr) (c : Nat) (l : List _) (w : World) (h1 : SlAt encInt w (Bl w.heap.size) A l) (hl : l.length ≤ 1000000) (hsz : ∀ x ∈ l, 0 ≤ x ∧ x ≤ 1000000) :
    Calls Try.prog 74 #[.slice A l.length c, .func (.func 75) #[] #[]] w (RetSl (encSl encSec) (l.map zimg) w) := by
  have H1 : Hid (∀ w', Below w.heap.size w w' → SlAt encInt w' (Bl w.heap.size) A l) := fun w' hb => h1.below hb
  clear h1
  obtain ⟨cur, hcs, hmk⟩ := makeOf tySecss l.length (by omega) (by omega) w
  have HCS := Lib.hid hcs; clear hcs
  have hO1 := Lib.hid (show OwnW (encSl encSec) (w.alloc (.cells cur 33)) w.heap.size w.heap.size 33 (.slice (some ⟨w.heap.size, 0, none⟩) 0 l.length) [] from Own.make0 (cur := cur) (Nat.le_refl _) (by unfold maxLen; omega) HCS.out (fun h => h.2 rfl))
  go_enter Try.func74, Try.ntmps74
  go_wp2
  go_loopw [5, 13] (fun v i wr => ∃ (k : Nat) (B : Option Addr) (vc : Nat) (out : List _), k ≤ l.length ∧ i = .int .i64 k ∧ v = .slice B out.length vc ∧ Below w.heap.size w wr ∧ Hid (out = (l.take k).map zimg) ∧ Hid (OwnW (encSl encSec) wr w.heap.size w.heap.size 33 (.slice B out.length vc) out)) (fun _ i _ => l.length - (intOf i).toNat)
  case atStart => exact ⟨0, some ⟨w.heap.size, 0, none⟩, l.length, [], by omega, rfl, rfl, ext_alloc (Below.refl _ _), by simp [Hid], hO1.out⟩
  case round =>
    clear hmk
    obtain ⟨k, B, vc, out, hk, rfl, rfl, hB, hout, hown⟩ := hrel
    by_cases hlt : k < l.length
    · have hnn : (0 : Int) ≤ k := by omega
      have hki : (k : Int) < l.length := by omega
      have hol : out.length ≤ k := by rw [hout.out]; simp; omega
      have hszr := hB.size
      obtain ⟨b, off, rfl, hb, g0, hi1, hi2⟩ := (H1.out wr hB).int hlt; obtain ⟨hx0, hx1⟩ := hsz _ (List.getElem_mem hlt)
      go_wp2_with fail
      refine (new1X l[k] hx0 hx1 wr).mono ?_
      rintro e w1 ⟨D, dc, rfl, r1, r2, r3, hb1⟩
      have hsz1 := hb1.size
      have hB1 : Below w.heap.size w w1 := ext_trans hB hb1
      have HO1 := Lib.hid (hown.out.below hb1)
      have hlt1 : ∀ g, (Value.slice B out.length vc).ownBlock = some g → g < wr.heap.size := fun g hg => (hown.out.lt g hg).2
      have HLT1 := Lib.hid hlt1; clear hlt1
      have HO2 := Lib.hid (Own.alloc HO1.out (fun _ h => h.1.2) (.cells #[.slice D l[k].toNat dc] 33))
      have HRD : Hid (((encSl encSec)).rd (w1.alloc (.cells #[.slice D l[k].toNat dc] 33)) (fun b => Nw w.heap.size w1.heap.size b ∧ (Value.slice B out.length vc).ownBlock ≠ some b) [.slice D l[k].toNat dc] (zimg l[k])) := ⟨D, dc, by rw [zimg_len], by rw [zimg_len]; exact r1, r2, SlAt.blk (OwnW.since (v := .slice B out.length vc) (lo := w.heap.size) r3 hszr (HLT1.out)) (fun g hg => Below.heap_alloc _ _ _ hg.1.2)⟩
      go_wp2_with (at_builtin; refine Hid.out ?_)
      change wpList _ _ _ _ _ _
      refine wpList_app1 (E := (encSl encSec)) tySecss rfl _ _ rfl rfl HO2.out (zimg l[k]) [.slice D l[k].toNat dc] rfl HRD.out (heap_alloc_new _ _) (fun _ h => by simp; have := h.1.2; omega) (by simp; omega) (by unfold maxLen; omega) (by omega) ?_
      intro A' c' w5 hown5 hg5 hat5
      have hok5 := Lib.hid (OwnW.app (hown5.more (S' := fun b => Nw w.heap.size (w1.alloc (.cells #[.slice D l[k].toNat dc] 33)).heap.size b ∧ (Value.slice B out.length vc).ownBlock ≠ some b) (fun b hb => ⟨hb.1.mono (Nat.le_refl _) (by simp), hb.2⟩) (OwnW_new hown5 hat5 HLT1.out (by simp; omega))) hg5 hat5)
      have hB5 := Lib.hid ((ext_alloc (o := .cells #[.slice D l[k].toNat dc] 33) hB1).grown hg5 (by simp; omega) (fun g h => (hown.out.lt g h).1))
      clear hown5 hg5 hat5
      go_wp2
      go_roundw
      case rel =>
        refine ⟨k + 1, A', c', out ++ [zimg l[k]], hlt, by go_num, by simp, hB5.out, ?_, ?_⟩
        · rw [List.take_succ_eq_append_getElem hlt, List.map_append, ← hout.out]; exact rfl
        · have := hok5.out; simpa [Hid] using this
      case measure => simp [intOf]; omega
    · have hkk : k = l.length := by omega
      subst hkk
      go_wp2
      go_ret
      have e := hout.out
      rw [List.take_length] at e
      rw [← e]
      obtain ⟨_, p1, p2, p3⟩ := hown.out.parts
      exact ⟨B, vc, rfl, p1, p2, p3, hB⟩
end Go.Proofs.Ytfahbhjlkdcnpaa

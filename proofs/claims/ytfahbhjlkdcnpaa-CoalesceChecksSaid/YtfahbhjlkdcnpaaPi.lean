/-
  The walk of Fold (the reference).
-/
import Derived.Test.YtfahbhjlkdcnpaaPa
import Derived.Test.YtfahbhjlkdcnpaaPb
import Derived.Test.YtfahbhjlkdcnpaaPc
import Derived.Test.YtfahbhjlkdcnpaaPh
set_option linter.unusedVariables false
set_option linter.unusedSimpArgs false
set_option linter.unusedSectionVars false
set_option linter.unnecessarySimpa false
namespace Go.Proofs.Ytfahbhjlkdcnpaa
open Go.RowKit

theorem bUn {B : Nat} {w w1 : World} (h : Below B w.drew w1) : Below B w w1 := ⟨h.os, h.tape, h.output, h.size, h.block⟩
/-- a function that returns a slice -/
def RetSl {α : Type} (E : Enc α) (l : List α) (w : World) (e : Ending) (w' : World) : Prop :=
  ∃ A c, e = .returned (.slice A l.length c) ∧ l.length ≤ c ∧ c ≤ maxLen ∧ SlAt E w' (Nw w.heap.size w'.heap.size) A l ∧ Below w.heap.size w w'
theorem Ret.sl {α : Type} {E : Enc α} {l : List α} {w : World} {e : Ending} {w' : World} (h : Ret (encSl E) l w e w') : RetSl E l w e w' := by
  obtain ⟨v, rfl, ⟨A, c, he, h1, h2, h3⟩, hb⟩ := h
  simp only [List.cons.injEq, and_true] at he
  subst he
  exact ⟨A, c, rfl, h1, h2, h3, hb⟩
/-- a slice and the number of an error -/
def RetSlN {α : Type} (E : Enc α) (l : List α) (n : Int) (w : World) (e : Ending) (w' : World) : Prop :=
  ∃ A c, e = .returned (.tuple #[.slice A l.length c, .int .i64 n]) ∧ l.length ≤ c ∧ c ≤ maxLen ∧ SlAt E w' (Nw w.heap.size w'.heap.size) A l ∧ Below w.heap.size w w'

def errOf {α : Type} (f : α → Int) (l : List α) : Int := ((l.find? fun x => f x != 0).map f).getD 0
theorem errOf_zero {α : Type} {f : α → Int} {l : List α} (h : ∀ x ∈ l, f x = 0) : errOf f l = 0 := by
  have : l.find? (fun x => f x != 0) = none := List.find?_eq_none.2 (fun x hx => by simp [h x hx])
  simp [errOf, this]
theorem errOf_at {α : Type} {f : α → Int} {l : List α} {k : Nat} (hk : k < l.length) (h : ∀ x ∈ l.take k, f x = 0) (hn : f l[k] ≠ 0) : errOf f l = f l[k] := by
  have e : l = l.take k ++ l[k] :: l.drop (k + 1) := by rw [← List.drop_eq_getElem_cons hk, List.take_append_drop]
  have : l.find? (fun x => f x != 0) = some l[k] := by
    conv => lhs; rw [e]
    rw [List.find?_append, List.find?_eq_none.2 (fun x hx => by simp [h x hx]), Option.none_or, List.find?_cons_of_pos (by simpa using hn)]
  simp [errOf, this]
def most : List Int := List.replicate 8 4096
theorem most_len : most.length = 8 := List.length_replicate ..
theorem fits_placed (x : Wr) : fitsN most x = placedN x := by
  unfold fitsN placedN
  rw [most_len]
  by_cases h1 : x.1 < 0 ∨ x.1 ≥ 8
  · rw [if_pos (by simpa using h1), if_pos h1]
  · rw [if_neg (by simpa using h1), if_neg h1]
    by_cases h2 : x.2.2.length = 0
    · rw [if_pos h2, if_pos h2]
    · rw [if_neg h2, if_neg h2]
      have : most.getD x.1.toNat 0 = 4096 := by
        have hlt : x.1.toNat < 8 := by omega
        rw [List.getD_eq_getElem?_getD, most, List.getElem?_replicate, if_pos hlt]; rfl
      rw [this]
      by_cases h3 : x.2.1 < 0 ∨ x.2.1 > 4096 - x.2.2.length
      · rw [if_pos (by omega), if_pos h3]
      · rw [if_neg (by omega), if_neg h3]
/-- what Fold returns -/
def foldL (l : List Wr) : List Wr := if errOf placedN l = 0 then foldS l else []

theorem most8 (w : World) : Calls Try.prog 41 #[] w fun e w' => ∃ A c, e = .returned (.slice A 8 c) ∧ SlAt encInt w' (Bl w'.heap.size) A most ∧ Below w.heap.size w w' :=
  (most_any w).mono fun _ _ h => by
    obtain ⟨A, c, rfl, _, _, h3, hb⟩ := h.sl
    exact ⟨A, c, by rw [List.length_replicate], h3.more (fun _ h => h.2), hb⟩
theorem fits8 (A : Option Addr) (c : Nat) (v s : Int) (D : Option Addr) (dc n : Nat) (data : List Sec) (w : World) (h1 : SlAt encInt w (Bl w.heap.size) A most) (hd : data.length = n) (pn : Int) (hp : placedN (v, s, data) = pn) (hn : n ≤ 9223372036854775807) (hv : I64 v) (hs2 : I64 s) :
    Calls Try.prog 40 #[.slice A 8 c, .agg #[.int .i64 v, .int .i64 s, .slice D n dc]] w fun e w' => e = .returned (.int .i64 pn) ∧ Below w.heap.size w w' := by
  subst hp
  subst hd
  have := fits_any A c (Bl w.heap.size) most v s D dc data w h1 (by rw [most_len]; omega) (fun _ h => h) hn hv hs2
  rw [most_len, fits_placed] at this
  exact this

set_option maxHeartbeats 2000000 in
theorem refFold_any (A : Option Addr) (c : Nat) (l : List Wr) (w : World) (h1 : SlAt encWr w (Bl w.heap.size) A l) (hs : l.length ≤ 9223372036854775807) :
    Calls Try.prog 15 #[.slice A l.length c] w (RetSlN encWr (foldL l) (errOf placedN l) w) := by
  have H1 : Hid (∀ w', Below w.heap.size w w' → SlAt encWr w' (Bl w'.heap.size) A l) := fun w' hb => h1.belowUp hb hb.size
  have H2 : Hid (∀ w', Below w.heap.size w w' → SlAt encWr w' (Bl w.heap.size) A l) := fun w' hb => h1.below hb
  clear h1
  go_enter Try.func15, Try.ntmps15
  go_wp2
  go_loopw [4] (fun i wr => ∃ k : Nat, k ≤ l.length ∧ i = .int .i64 k ∧ Below w.heap.size w wr ∧ Hid (∀ x ∈ l.take k, placedN x = 0)) (fun i _ => l.length - (intOf i).toNat)
  case atStart => exact ⟨0, by omega, rfl, Below.refl _ _, by simp [Hid]⟩
  case round =>
    obtain ⟨wo, rfl⟩ : ∃ wo : World, wo = wr := ⟨_, rfl⟩
    obtain ⟨k, hk, rfl, hB, hz⟩ := hrel
    by_cases hlt : k < l.length
    · obtain ⟨b, off, D, dc, rfl, hb, g0, g1, g2, hD, hn1, hn2, hi1, hi2⟩ := (H2.out wo hB).wr hlt
      have hbl : b < w.heap.size := hb
      have hblo : b < wo.heap.size := Nat.lt_of_lt_of_le hbl hB.size
      have hnn : (0 : Int) ≤ k := by omega
      have hki : (k : Int) < l.length := by omega
      unfold maxLen at hn2
      have hn3 : l[k].2.2.length ≤ 9223372036854775807 := by omega
      obtain ⟨pn, hpn⟩ : ∃ pn, Hid (placedN l[k] = pn) := ⟨placedN l[k], Lib.hid rfl⟩
      by_cases hp0 : pn = 0
      · have hp1 : (pn != 0) = false := by simp [hp0]
        have HP := Lib.hid hp0; clear hp0
        go_wp2
        go_region_held3 (fun w' => w'.cell? ⟨b, off + k * 3, none⟩ = some (.int .i64 l[k].1) ∧ w'.cell? ⟨b, off + k * 3 + 1, none⟩ = some (.int .i64 l[k].2.1) ∧ w'.cell? ⟨b, off + k * 3 + 2, none⟩ = some (.slice D l[k].2.2.length dc))
          (first | go_keep | exact ⟨(hx1.cell (p := ⟨b, off + k * 3, none⟩) hblo).trans g0, (hx1.cell (p := ⟨b, off + k * 3 + 1, none⟩) hblo).trans g1, (hx1.cell (p := ⟨b, off + k * 3 + 2, none⟩) hblo).trans g2⟩ | exact ⟨(hx2.cell (p := ⟨b, off + k * 3, none⟩) hblo).trans g0, (hx2.cell (p := ⟨b, off + k * 3 + 1, none⟩) hblo).trans g1, (hx2.cell (p := ⟨b, off + k * 3 + 2, none⟩) hblo).trans g2⟩)
          (first | (go_at_call 41; refine (most8 _).mono ?_; rintro e w1 ⟨Am, cm, rfl, hsm, hb1⟩; have hx1 : Below wo.heap.size wo w1 := bUn hb1) | (go_at_call 40; refine (fits8 _ _ _ _ _ _ _ l[k].2.2 w1 hsm rfl pn hpn.out hn3 hi1 hi2).mono ?_; rintro e w2 ⟨rfl, hb2⟩; have hx2 : Below wo.heap.size wo w2 := hx1.trans (hb2.mono hx1.size)))
        go_wp2
        go_roundw
        case rel =>
          refine ⟨k + 1, hlt, by go_num, hB.trans (hx2.mono hB.size), ?_⟩
          intro x hx
          rw [List.take_succ_eq_append_getElem hlt] at hx
          rcases List.mem_append.1 hx with hx | hx
          · exact hz.out x hx
          · rw [List.mem_singleton.1 hx, hpn.out, HP.out]
        case measure => simp [intOf]; omega
      · have hp1 : (pn != 0) = true := by simp [hp0]
        have HP := Lib.hid hp0; clear hp0
        go_wp2
        go_region_held3 (fun w' => w'.cell? ⟨b, off + k * 3, none⟩ = some (.int .i64 l[k].1) ∧ w'.cell? ⟨b, off + k * 3 + 1, none⟩ = some (.int .i64 l[k].2.1) ∧ w'.cell? ⟨b, off + k * 3 + 2, none⟩ = some (.slice D l[k].2.2.length dc))
          (first | go_keep | exact ⟨(hx1.cell (p := ⟨b, off + k * 3, none⟩) hblo).trans g0, (hx1.cell (p := ⟨b, off + k * 3 + 1, none⟩) hblo).trans g1, (hx1.cell (p := ⟨b, off + k * 3 + 2, none⟩) hblo).trans g2⟩ | exact ⟨(hx2.cell (p := ⟨b, off + k * 3, none⟩) hblo).trans g0, (hx2.cell (p := ⟨b, off + k * 3 + 1, none⟩) hblo).trans g1, (hx2.cell (p := ⟨b, off + k * 3 + 2, none⟩) hblo).trans g2⟩)
          (first | (go_at_call 41; refine (most8 _).mono ?_; rintro e w1 ⟨Am, cm, rfl, hsm, hb1⟩; have hx1 : Below wo.heap.size wo w1 := bUn hb1) | (go_at_call 40; refine (fits8 _ _ _ _ _ _ _ l[k].2.2 w1 hsm rfl pn hpn.out hn3 hi1 hi2).mono ?_; rintro e w2 ⟨rfl, hb2⟩; have hx2 : Below wo.heap.size wo w2 := hx1.trans (hb2.mono hx1.size)))
        go_wp2
        go_ret2
        have herr : errOf placedN l = pn := by
          rw [← hpn.out]
          exact errOf_at hlt hz.out (by rw [hpn.out]; exact HP.out)
        have hf : foldL l = [] := by rw [foldL, herr, if_neg HP.out]
        rw [hf, herr]
        exact ⟨none, 0, rfl, by simp, by simp, SlAt.nil_, hB.trans (hx2.mono hB.size)⟩
    · have hkk : k = l.length := by omega
      subst hkk
      have herr : errOf placedN l = 0 := errOf_zero (by have := hz.out; rw [List.take_length] at this; exact this)
      have hf : foldL l = foldS l := by rw [foldL, herr, if_pos rfl]
      have HF := Lib.hid hf
      have HE0 := Lib.hid herr
      clear hz herr hf
      go_wp2
      go_loopw [6, 7] (fun v i wr => ∃ (k : Nat) (B : Option Addr) (vc : Nat) (out : List Wr), k ≤ 8 ∧ i = .int .i64 k ∧ v = .slice B out.length vc ∧ Below w.heap.size w wr ∧ Hid (out = (List.range k).flatMap fun (v : Nat) => pickS l v (runsL (secsOf l v))) ∧ Hid (OwnW encWr wr w.heap.size w.heap.size 35 (.slice B out.length vc) out) ∧ Hid (out.length ≤ k * 4096)) (fun _ i _ => 8 - (intOf i).toNat)
      case atStart => exact ⟨0, none, 0, [], by omega, rfl, rfl, hB, by simp [Hid], OwnW.nil_, by simp [Hid]⟩
      case round =>
        obtain ⟨wp, rfl⟩ : ∃ wp : World, wp = wr := ⟨_, rfl⟩
        obtain ⟨k, B, vc, out, hk, rfl, rfl, hB2, hout, hown, hol⟩ := hrel
        clear hB
        by_cases hlt : k < 8
        · have hki : (k : Int) < 8 := by omega
          have hIk : I64 (k : Int) := by unfold I64; omega
          have hsz := hB2.size
          go_wp2_with fail
          refine ((refExtents_any A c l k wp (H1.out wp hB2) hs hIk).mono fun _ _ h => h.sl).mono ?_
          rintro e w1 ⟨Ae, ce, rfl, _, _, hse, hb1⟩
          have hB3 : Below w.heap.size w w1 := hB2.trans (hb1.mono hsz)
          obtain ⟨es, hes⟩ : ∃ es, es = runsL (secsOf l (k : Int)) := ⟨_, rfl⟩
          rw [← hes] at hse ⊢
          have hbd := runsL_bound 4096 (secsOf l k) (secsOf_mem l k)
          rw [← hes] at hbd
          have hel : es.length ≤ 4096 := Nat.le_trans hbd.2 (secsOf_len l k)
          have hbd1 := Lib.hid hbd.1
          have HE := Lib.hid hes; clear hes hbd
          go_wp2_with fail
          refine ((pick_any A Ae c ce l k es w1 (H1.out w1 hB3) hs hIk (hse.more fun _ h => h.2) hel hbd1.out).mono fun _ _ h => h.sl).mono ?_
          rintro e w2 ⟨Ap, cp, rfl, _, _, hsp, hb2⟩
          have hsz1 := hb1.size
          have hsz2 := hb2.size
          obtain ⟨ps, hps⟩ : ∃ ps, ps = pickS l k es := ⟨_, rfl⟩
          rw [← hps] at hsp ⊢
          have hpl : ps.length ≤ 4096 := by rw [hps]; simp [pickS]; exact hel
          have HPS := Lib.hid hps; clear hps
          have hown2 := (hown.out.below hb1).below hb2
          have HO := Lib.hid hown2; clear hown2
          have hsp2 := Lib.hid (OwnW.since (v := .slice B out.length vc) (lo := w.heap.size) hsp (by omega) (fun g hg => Nat.lt_of_lt_of_le (hown.out.lt g hg).2 hsz1))
          have holb : out.length ≤ 32768 := by have := hol.out; omega
          go_wp2_with (at_builtin; refine Hid.out ?_)
          change wpList _ _ _ _ _ _
          refine wpList_appAll (E := encWr) tyWrs rfl _ _ rfl rfl HO.out rfl rfl hsp2.out (fun _ h => h.1.2) (by omega) (by simp [maxLen]; omega) (by omega) ?_
          intro A' c' w5 hown5 hg5 hat5
          have hok5 := Lib.hid (OwnW.app hown5 hg5 hat5)
          go_wp2
          go_roundw
          case rel =>
            refine ⟨k + 1, A', c', out ++ ps, by omega, by go_num, by simp, ?_, ?_, ?_, ?_⟩
            · exact (hB3.trans (hb2.mono hB3.size)).grown hg5 (by omega) (fun g h => (hown.out.lt g h).1)
            · rw [List.range_succ, List.flatMap_append, ← hout.out, HPS.out, HE.out]; simp [Hid]
            · have := hok5.out; simpa [Hid] using this
            · have := hol.out; simp [Hid]; omega
          case measure => simp [intOf]; omega
        · have hkk : k = 8 := by omega
          subst hkk
          go_wp2
          go_ret2
          have e := hout.out
          rw [HE0.out, HF.out, foldS_eq, ← e]
          obtain ⟨_, p1, p2, p3⟩ := hown.out.parts
          exact ⟨B, vc, rfl, p1, p2, p3, hB2⟩
end Go.Proofs.Ytfahbhjlkdcnpaa

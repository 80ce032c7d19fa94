/-
  The walks of Clone, Equal at sectors, of EqualFunc and Same at images, copied, and of the reference's Few and Same.
-/
import Derived.Test.YtnkmklnlaepdeaaIa
import Derived.Test.YtnkmklnlaepdeaaEs
set_option linter.unusedVariables false
set_option linter.unusedSimpArgs false
set_option linter.unusedSectionVars false
set_option linter.unnecessarySimpa false
namespace Go.Proofs.Ytnkmklnlaepdeaa
open Go.RowKit

theorem cloneSecs_any (A : Option Addr) (c n : Nat) (l : List _) (w : World) (hn : l.length = n) (h1 : SlAt encSec w (Bl w.heap.size) A l) (hl : n ≤ 1000000) :
    Calls Try.prog 62 #[.slice A n c] w fun e w' => ∃ A' c', e = .returned (.slice A' n c') ∧ n ≤ c' ∧ c' ≤ maxLen ∧ SlAt encSec w' (Nw w.heap.size w'.heap.size) A' l ∧ Below w.heap.size w w' := by
  cases A with
  | none =>
    have h0 : l = [] := by
      rcases Decidable.em (l.length = 0) with h | h
      · exact List.eq_nil_of_length_eq_zero h
      · obtain ⟨b, off, he, _⟩ := h1 (by intro e; rw [e] at h; exact h rfl)
        cases he
    subst h0
    subst hn
    have hE := fun W => Lib.run_eql_slice_nil (P := Try.prog) W 73 72 none 0 c 0 0 Try.underlying73
    go_enter Try.func62, Try.ntmps62
    go_wp2
    go_ret
    exact ⟨none, 0, rfl, by simp, by simp, SlAt.nil_, Below.refl _ _⟩
  | some ad =>
    have hO := Lib.hid (show Own encSec (w.alloc (.cells #[] 72)) w.heap.size 72 (Bl w.heap.size) (.slice (some ⟨w.heap.size, 0, none⟩) 0 0) [] from Own.make0 (cur := #[]) (Nat.le_refl _) (by unfold maxLen; omega) rfl (fun h => Nat.lt_irrefl _ h))
    have hsrc := Lib.hid (show SlAt encSec (w.alloc (.cells #[] 72)) (Bl w.heap.size) (some ad) l from h1.below (ext_alloc (Below.refl _ _)))
    clear h1
    have hE := fun W => Lib.run_eql_slice_nil (P := Try.prog) W 73 72 (some ad) n c 0 0 Try.underlying73
    go_enter Try.func62, Try.ntmps62
    go_wp2_with (at_builtin; refine Hid.out ?_)
    change wpList _ _ _ _ _ _
    refine wpList_appAll (E := encSec) tySecs rfl _ _ rfl rfl hO.out rfl hn.symm hsrc.out (fun g hg => by simp; have : g < w.heap.size := hg; omega) (by simp) (by unfold maxLen; simp; omega) (by simp; omega) ?_
    intro A5 c5 w5 hown5 hg5 hat5
    simp only [List.length_nil, Nat.zero_add, List.nil_append] at hown5
    have hB5 : Below w.heap.size w w5 := (ext_alloc (o := .cells #[] 72) (Below.refl w.heap.size w)).grown hg5 (by simp) (fun g hg => (hO.out.lt g hg).1)
    have hfin : Hid (n ≤ c5 ∧ c5 ≤ maxLen ∧ SlAt encSec w5 (Nw w.heap.size w5.heap.size) A5 l) := by
      obtain ⟨A', c', he, k1, k2, k3⟩ := (Own.flat hown5 (fun h => h)).rd (fun _ h => h.elim)
      simp only [List.cons.injEq, Value.slice.injEq, and_true] at he
      obtain ⟨rfl, e2, rfl⟩ := he
      exact ⟨by omega, k2, k3⟩
    clear hown5 hg5 hat5
    go_wp2
    go_ret
    exact ⟨A5, c5, rfl, hfin.out.1, hfin.out.2.1, hfin.out.2.2, hB5⟩
set_option maxHeartbeats 1000000 in
theorem eqImg_any (A A' : Option Addr) (c c' n m : Nat) (im jm : List (List Sec)) (w : World) (hn : im.length = n) (hm : jm.length = m) (h1 : SlAt (encSl encSec) w (Bl w.heap.size) A im) (h2 : SlAt (encSl encSec) w (Bl w.heap.size) A' jm) (hs : n ≤ 9223372036854775807) (ht : m ≤ 9223372036854775807) (q : Bool) (hq : (im == jm) = q) :
    Calls Try.prog 45 #[.slice A n c, .slice A' m c', .func (.func 46) #[] #[]] w fun e w' => e = .returned (.bool q) ∧ Below w.heap.size w w' := by
  subst hn hm
  have HQQ := Lib.hid hq; clear hq
  have H1 : Hid (∀ w', Below w.heap.size w w' → SlAt (encSl encSec) w' (Bl w'.heap.size) A im) := fun w' hb => h1.fwd hb
  have H2 : Hid (∀ w', Below w.heap.size w w' → SlAt (encSl encSec) w' (Bl w'.heap.size) A' jm) := fun w' hb => h2.fwd hb
  clear h1 h2
  by_cases hl : im.length = jm.length
  · have hl' : (((im.length : Nat) : Int) != (jm.length : Int)) = false := by simp [hl]
    have HL := Lib.hid hl; clear hl
    go_enter Try.func45, Try.ntmps45
    go_wp2
    go_loopw [17] (fun i wr => ∃ k : Nat, k ≤ im.length ∧ i = .int .i64 k ∧ Below w.heap.size w wr ∧ Hid (im.take k = jm.take k)) (fun i _ => im.length - (intOf i).toNat)
    case atStart => exact ⟨0, by omega, rfl, Below.refl _ _, by simp [Hid]⟩
    case round =>
      obtain ⟨k, hk, rfl, hB, hp⟩ := hrel
      by_cases hlt : k < im.length
      · have hlt2 : k < jm.length := by have := HL.out; omega
        obtain ⟨b, off, D, dc, rfl, hb, g0, hD, hn1, hn2⟩ := (H1.out wr hB).sl hlt
        obtain ⟨b', off', D', dc', rfl, hb', g0', hD', hn1', hn2'⟩ := (H2.out wr hB).sl hlt2
        have hnn : (0 : Int) ≤ k := by omega
        have hki : (k : Int) < im.length := by omega
        have hki2 : (k : Int) < jm.length := by omega
        obtain ⟨q1, hq1⟩ : ∃ q1, Hid ((im[k]'hlt == jm[k]'hlt2) = q1) := ⟨_, Lib.hid rfl⟩
        have hc := Lib.hid (eqSecsX D D' dc dc' _ _ _ _ wr rfl rfl hD hD' (by unfold maxLen at hn2; omega) (by unfold maxLen at hn2'; omega) q1 hq1.out)
        clear hD hD' hn1 hn1' hn2 hn2'
        go_wp2_with fail
        refine hc.out.mono ?_
        rintro e w1 ⟨rfl, hb1⟩
        have hB1 : Below w.heap.size w w1 := ext_trans hB hb1
        clear g0 g0'
        cases q1 with
        | true =>
          go_wp2
          go_roundw
          case rel => exact ⟨k + 1, hlt, by go_num, hB1, take_succ_eq _ _ _ hlt hlt2 hp (eq_of_beq hq1.out)⟩
          case measure => simp [intOf]; omega
        | false =>
          go_wp2
          go_ret
          refine ⟨ret_bool ?_, hB1⟩
          rw [← HQQ.out, eq_comm, beq_eq_false_iff_ne]
          intro e
          subst e
          have := hq1.out
          simp at this
      · have : k = im.length := by omega
        subst this
        go_wp2
        go_ret
        refine ⟨ret_bool ?_, hB⟩
        have := hp.out
        rw [List.take_length, List.take_of_length_le (by rw [HL.out]; omega)] at this
        rw [← HQQ.out]
        simp [this]
  · have hl' : (((im.length : Nat) : Int) != (jm.length : Int)) = true := by simp; omega
    have HL := Lib.hid hl; clear hl
    go_enter Try.func45, Try.ntmps45
    go_wp2
    go_ret
    refine ⟨ret_bool ?_, Below.refl _ _⟩
    rw [← HQQ.out, eq_comm, beq_eq_false_iff_ne]
    intro e
    exact HL.out (by rw [e])
theorem imgSame_any (A A' : Option Addr) (c c' n m : Nat) (im jm : List (List Sec)) (w : World) (hn : im.length = n) (hm : jm.length = m) (h1 : SlAt (encSl encSec) w (Bl w.heap.size) A im) (h2 : SlAt (encSl encSec) w (Bl w.heap.size) A' jm) (hs : n ≤ 9223372036854775807) (ht : m ≤ 9223372036854775807) (q : Bool) (hq : (im == jm) = q) :
    Calls Try.prog 27 #[.slice A n c, .slice A' m c'] w fun e w' => e = .returned (.bool q) ∧ Below w.heap.size w w' := by
  have hc := Lib.hid (eqImg_any A A' c c' n m im jm w hn hm h1 h2 hs ht q hq)
  clear hn hm h1 h2 hq
  go_enter Try.func27, Try.ntmps27
  go_wp2_with fail
  refine hc.out.mono ?_
  rintro e w1 ⟨rfl, hb1⟩
  go_wp2
  go_ret
  exact ⟨rfl, hb1⟩
def fewI (im : List (List Sec)) : Bool := im.length ≤ 9 && (im.all fun v => v.length ≤ 24)
theorem fewImg_any (A : Option Addr) (c : Nat) (im : List (List Sec)) (w : World) (h1 : SlAt (encSl encSec) w (Bl w.heap.size) A im) (hs : im.length ≤ 9223372036854775807) :
    Calls Try.prog 42 #[.slice A im.length c] w fun e w' => e = .returned (.bool (fewI im)) ∧ w' = w := by
  by_cases c1 : 9 < im.length
  · go_enter Try.func42, Try.ntmps42
    go_wp2
    go_ret
    exact ⟨ret_bool (by rw [fewI, decide_eq_false (by omega)]; rfl), rfl⟩
  · go_enter Try.func42, Try.ntmps42
    go_wp2
    go_loopw [3] (fun i wr => wr = w ∧ ∃ k : Nat, k ≤ im.length ∧ i = .int .i64 k ∧ Hid (∀ x ∈ im.take k, x.length ≤ 24)) (fun i _ => im.length - (intOf i).toNat)
    case atStart => exact ⟨rfl, 0, by omega, rfl, by simp [Hid]⟩
    case round =>
      obtain ⟨rfl, k, hk, rfl, hp⟩ := hrel
      by_cases hlt : k < im.length
      · obtain ⟨b, off, D, dc, rfl, hb, g0, hD, hn1, hn2⟩ := h1.sl hlt
        have hnn : (0 : Int) ≤ k := by omega
        have hki : (k : Int) < im.length := by omega
        unfold maxLen at hn2
        by_cases d : 24 < im[k].length
        · have hd' : ((24 : Int) < (im[k].length : Int)) = True := by simp; omega
          have HDD := Lib.hid d; clear d
          go_wp2
          go_ret
          refine ⟨ret_bool ?_, rfl⟩
          rw [eq_comm, fewI, Bool.and_eq_false_iff]
          right
          rw [List.all_eq_false]
          exact ⟨im[k], List.getElem_mem hlt, by have := HDD.out; simpa using this⟩
        · have hd' : ((24 : Int) < (im[k].length : Int)) = False := by simp; omega
          have HDD := Lib.hid d; clear d
          go_wp2
          go_roundw
          case rel =>
            refine ⟨by trivial, k + 1, hlt, by go_num, ?_⟩
            intro x hx
            rw [List.take_succ_eq_append_getElem hlt] at hx
            rcases List.mem_append.1 hx with hx | hx
            · exact hp.out x hx
            · rw [List.mem_singleton.1 hx]; have := HDD.out; omega
          case measure => simp [intOf]; omega
      · have hkk : k = im.length := by omega
        have HK := Lib.hid hkk; clear hkk
        have hki : ¬ ((k : Int) < im.length) := by omega
        go_wp2
        go_ret
        refine ⟨ret_bool ?_, rfl⟩
        have h3 := hp.out
        rw [HK.out, List.take_length] at h3
        rw [fewI, decide_eq_true (by omega), List.all_eq_true.2 (fun x hx => by simpa using h3 x hx)]
        rfl
end Go.Proofs.Ytnkmklnlaepdeaa

/-
  The walks of write and Restrict (the program).
-/
import Derived.Test.YtfahbhjlkdcnpaaSe
set_option linter.unusedVariables false
set_option linter.unusedSimpArgs false
set_option linter.unusedSectionVars false
set_option linter.unnecessarySimpa false
namespace Go.Proofs.Ytfahbhjlkdcnpaa
open Go.RowKit Go.ChangeMaps

def secOf (b : Int) : Sec := [b, 0, 0, 0, 0, 0, 0, 0]
theorem secOf_ok {b : Int} (h : 0 ≤ b ∧ b < 256) : OkSec (secOf b) := ⟨rfl, by intro x hx; simp [secOf] at hx; rcases hx with rfl | rfl <;> omega⟩
def WriteRet (x : Wr) (w : World) (e : Ending) (w' : World) : Prop := ∃ D c, e = .returned (.agg #[.int .i64 x.1, .int .i64 x.2.1, .slice D x.2.2.length c]) ∧ x.2.2.length ≤ c ∧ c ≤ maxLen ∧ SlAt encSec w' (Nw w.heap.size w'.heap.size) D x.2.2 ∧ Below w.heap.size w w'
set_option maxHeartbeats 1000000 in
theorem write_any (v s : Int) (A : Option Addr) (c : Nat) (bs : List Int) (w : World) (h1 : SlAt encU8 w (Bl w.heap.size) A bs) (hl : bs.length ≤ 1000) :
    Calls Try.prog 36 #[.int .i64 v, .int .i64 s, .slice A bs.length c] w (WriteRet (v, s, bs.map secOf) w) := by
  have H1 : Hid (∀ w', Below w.heap.size w w' → SlAt encU8 w' (Bl w.heap.size) A bs) := fun w' hb => h1.below hb
  clear h1
  go_enter Try.func36, Try.ntmps36
  go_wp2
  go_loopw [15] (fun i wr => ∃ (k : Nat) (D : Option Addr) (dc : Nat) (d : List Sec), k ≤ bs.length ∧ i = .int .i64 k ∧ Below w.heap.size w wr ∧ Hid (d = (bs.take k).map secOf) ∧ Hid (wr.heap[w.heap.size]? = some (.cells #[.int .i64 0, .int .i64 0, .slice none 0 0] 35 (0, 0))) ∧ Hid (wr.heap[w.heap.size + 1]? = some (.cells #[.int .i64 v, .int .i64 s, .slice D d.length dc] 35 (0, 0))) ∧ Hid (Own encSec wr (w.heap.size + 2) 53 (fun _ => False) (.slice D d.length dc) d)) (fun i _ => bs.length - (intOf i).toNat)
  case atStart => exact ⟨0, none, 0, [], by omega, rfl, ((Below.refl _ _).alloc (Nat.le_refl _) _).alloc (by simp) _, rfl, (Below.heap_alloc _ _ _ (by simp)).trans (heap_alloc_new _ _), heap_new2 _ _ _, Own.nil_⟩
  case round =>
    obtain ⟨k, D, dc, d, hk, rfl, hB, hd, hres, hbox, hown⟩ := hrel
    obtain ⟨r0, r1, r2, rf⟩ := blk3 hbox.out
    have hbl : w.heap.size + 1 < wr.heap.size := (Array.getElem?_eq_some_iff.1 hbox.out).1
    have hsz := hB.size
    by_cases hlt : k < bs.length
    · obtain ⟨b, off, cs, hA, hb, hcell, hcs, hx0, hx1⟩ := (H1.out wr hB).at_ hlt
      subst hA hcs
      have g0 := hcell 0 _ rfl
      have e8 : off + k * encU8.size + 0 = off + k := by simp [encU8]
      rw [e8] at g0
      have hbl2 : b < w.heap.size := hb
      have hnn : (0 : Int) ≤ k := by omega
      have hki : (k : Int) < bs.length := by omega
      have hdl : d.length ≤ 1000 := by rw [hd.out]; simp; omega
      have hown2 := Lib.hid (hown.out.alloc (fun _ h => h.elim) (.cells #[.int .u8 bs[k], .int .u8 0, .int .u8 0, .int .u8 0, .int .u8 0, .int .u8 0, .int .u8 0, .int .u8 0] 53))
      clear hcell e8
      go_wp2_with (at_builtin; refine Hid.out ?_)
      change wpList _ _ _ _ _ _
      refine wpList_app1 (E := encSec) tySecs rfl _ _ rfl rfl hown2.out (secOf bs[k]) [.int .u8 bs[k], .int .u8 0, .int .u8 0, .int .u8 0, .int .u8 0, .int .u8 0, .int .u8 0, .int .u8 0] rfl ⟨rfl, secOf_ok ⟨hx0, hx1⟩⟩ (heap_alloc_new _ _) (fun _ h => h.elim) (by simp; omega) (by simp [maxLen]; omega) (by omega) ?_
      intro A' c' w5 hown5 hg5 hat5
      have hne1 : some (w.heap.size + 1) ≠ (Value.slice D d.length dc).ownBlock := fun e => by have := (hown.out.lt _ e.symm).1; omega
      have hne0 : some w.heap.size ≠ (Value.slice D d.length dc).ownBlock := fun e => by have := (hown.out.lt _ e.symm).1; omega
      have hbox5 : w5.heap[w.heap.size + 1]? = some (.cells #[.int .i64 v, .int .i64 s, .slice D d.length dc] 35 (0, 0)) := (hg5.block _ (by simp; omega) hne1).trans ((Below.heap_alloc _ _ _ hbl).trans hbox.out)
      have hres5 := Lib.hid ((hg5.block _ (by simp; omega) hne0).trans ((Below.heap_alloc _ _ _ (by omega)).trans hres.out))
      obtain ⟨t0, t1, t2, tf⟩ := blk3 hbox5
      have hset := Lib.hid (blk3_set hbox5 (.slice A' (d.length + 1) c'))
      have hB5 := Lib.hid ((hB.alloc hsz (.cells #[.int .u8 bs[k], .int .u8 0, .int .u8 0, .int .u8 0, .int .u8 0, .int .u8 0, .int .u8 0, .int .u8 0] 53)).grown hg5 (by simp; omega) (fun g h => by have := (hown.out.lt g h).1; omega))
      clear hbox5 r0 r1 r2 rf hne0 hne1
      go_wp2
      go_roundw
      case rel =>
        refine ⟨k + 1, A', c', d ++ [secOf bs[k]], by omega, by go_num, hB5.out.setCell (by simp) _, ?_, (Below.heap_setCell _ _ _ _ (by simp)).trans hres5.out, ?_, ?_⟩
        · rw [List.take_succ_eq_append_getElem hlt, List.map_append, ← hd.out]; exact rfl
        · have := hset.out; simpa [Hid] using this
        · have h5 := hown5.blk (w' := w5.setCell ⟨w.heap.size + 1, 2, none⟩ (.slice A' (d.length + 1) c')) (fun g hg => Below.heap_setCell _ _ _ _ (by
            rcases hg with hg | hg
            · exact hg.elim
            · have := (hown5.lt g hg).1
              simp only
              omega))
          simpa [Hid] using h5
      case measure => simp [intOf]; omega
    · have hkk : k = bs.length := by omega
      subst hkk
      obtain ⟨q0, q1, q2, qf⟩ := blk3 hres.out
      have hset : Hid ((((wr.setCell ⟨w.heap.size, 0, none⟩ (.int .i64 v)).setCell ⟨w.heap.size, 1, none⟩ (.int .i64 s)).setCell ⟨w.heap.size, 2, none⟩ (.slice D d.length dc)).heap[w.heap.size]? = some (.cells #[.int .i64 v, .int .i64 s, .slice D d.length dc] 35 (0, 0))) := by
        have := hres.out
        simp [Hid, World.setCell, Array.getElem?_modify, this]
      go_wp2
      obtain ⟨s0, s1, s2, _⟩ := blk3 hset.out
      have e := hd.out
      rw [List.take_length] at e
      refine bodyPost_ret (v := .agg #[.int .i64 v, .int .i64 s, .slice D d.length dc]) (by simp [results, Try.results36, go_sem, s0, s1, s2]) rfl ?_
      rw [← e]
      obtain ⟨D', dc', he, k1, k2, k3⟩ := Own.reads (S' := Nw (w.heap.size + 2) wr.heap.size) hown.out (fun _ h => h.elim) (fun g hg => hown.out.lt g hg)
      simp only [List.cons.injEq, Value.slice.injEq, and_true, true_and] at he
      obtain ⟨rfl, rfl⟩ := he
      refine ⟨D, dc, rfl, k1, k2, ?_, ((hB.setCell (p := ⟨w.heap.size, 0, none⟩) (by simp) _).setCell (p := ⟨w.heap.size, 1, none⟩) (by simp) _).setCell (p := ⟨w.heap.size, 2, none⟩) (by simp) _⟩
      refine k3.keep (fun p hp => ?_) (fun g hg => hg.mono (by omega) (by simp [World.setCell]))
      have hp1 : w.heap.size + 2 ≤ p.block := hp.1
      refine World.cell?_of_block ?_
      exact (Below.heap_setCell _ _ _ _ (by simp only; omega)).trans ((Below.heap_setCell _ _ _ _ (by simp only; omega)).trans (Below.heap_setCell _ _ _ _ (by simp only; omega)))
end Go.Proofs.Ytfahbhjlkdcnpaa

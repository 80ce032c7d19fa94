/-
  The walk of effect: the map of the effects of a list of placed writes.
-/
import Derived.Test.YtfahbhjlkdcnpaaPi
import Derived.Test.YtfahbhjlkdcnpaaChk
set_option linter.unusedVariables false
set_option linter.unusedSimpArgs false
set_option linter.unusedSectionVars false
set_option linter.unnecessarySimpa false
namespace Go.Proofs.Ytfahbhjlkdcnpaa
open Go.RowKit Go.ChangeMaps

def effW (M : Eff) (x : Wr) (j : Nat) : Eff := (List.range j).foldl (fun M (i : Nat) => putE M (x.1, x.2.1 + i) (x.2.2.getD i zsec)) M
theorem effW_succ (M : Eff) (x : Wr) (j : Nat) : effW M x (j + 1) = putE (effW M x j) (x.1, x.2.1 + j) (x.2.2.getD j zsec) := by simp [effW, List.range_succ]
def effM (l : List Wr) : Eff := l.foldl (fun M x => effW M x x.2.2.length) []
theorem effM_snoc (l : List Wr) (x : Wr) : effM (l ++ [x]) = effW (effM l) x x.2.2.length := by simp [effM]
theorem blk2 {w : World} {b : Nat} {T : TypeId} {c0 c1 : Value} (h : w.heap[b]? = some (.cells #[c0, c1] T (0, 0))) :
    w.cell? ⟨b, 0, none⟩ = some c0 ∧ w.cell? ⟨b, 1, none⟩ = some c1 ∧ ∀ j, w.frozen? ⟨b, j, none⟩ = false :=
  ⟨cell_of_row w b 0 _ T _ h, cell_of_row w b 1 _ T _ h, fun j => by simp [World.frozen?, h]⟩
theorem blk2_set {w : World} {b : Nat} {T : TypeId} {c0 c1 : Value} (h : w.heap[b]? = some (.cells #[c0, c1] T (0, 0))) (u v : Value) : ((w.setCell ⟨b, 0, none⟩ u).setCell ⟨b, 1, none⟩ v).heap[b]? = some (.cells #[u, v] T (0, 0)) := by
  simp [World.setCell, Array.getElem?_modify, h]
theorem emptyMap (w : World) : PMap (w.alloc (.map #[] 0)) w.heap.size [] :=
  ⟨#[], 0, heap_alloc_new _ _, ⟨by simp, by simp, by simp⟩, rfl, by simp⟩

def EffRet (M : Eff) (w : World) (e : Ending) (w' : World) : Prop := ∃ b, e = .returned (.map (some b)) ∧ PMap w' b M ∧ w.heap.size ≤ b ∧ Below w.heap.size w w'

set_option maxHeartbeats 2000000 in
theorem effect_any (A : Option Addr) (c : Nat) (l : List Wr) (w : World) (h1 : SlAt encWr w (Bl w.heap.size) A l) (hs : l.length ≤ 9223372036854775807) (hp : ∀ x ∈ l, placedN x = 0) :
    Calls Try.prog 38 #[.slice A l.length c] w (EffRet (effM l) w) := by
  have H2 : Hid (∀ w', Below w.heap.size w w' → SlAt encWr w' (Bl w.heap.size) A l) := fun w' hb => h1.below hb
  clear h1
  have HP := Lib.hid hp; clear hp
  have hmm := @run_makeMap Try.prog
  go_enter Try.func38, Try.ntmps38
  go_wp2
  go_loopw [12] (fun i wr => ∃ k : Nat, k ≤ l.length ∧ i = .int .i64 k ∧ Below w.heap.size w wr ∧ Hid (PMap wr w.heap.size (effM (l.take k)))) (fun i _ => l.length - (intOf i).toNat)
  case atStart => exact ⟨0, by omega, rfl, (Below.refl _ _).alloc (Nat.le_refl _) _, emptyMap _⟩
  case round =>
    clear hmm
    obtain ⟨wo, rfl⟩ : ∃ wo : World, wo = wr := ⟨_, rfl⟩
    obtain ⟨k, hk, rfl, hB, hM⟩ := hrel
    by_cases hlt : k < l.length
    · obtain ⟨b, off, D, dc, rfl, hb, g0, g1, g2, hD, hn1, hn2, hi1, hi2⟩ := (H2.out wo hB).wr hlt
      have hbl : b < w.heap.size := hb
      obtain ⟨v0, v8, hd0, hs0, hs4⟩ := placed_ok (HP.out _ (List.getElem_mem hlt))
      have hmlt := hM.out.lt
      have hnn : (0 : Int) ≤ k := by omega
      have hki : (k : Int) < l.length := by omega
      have hm1 : Hid (effM (l.take (k + 1)) = effW (effM (l.take k)) l[k] l[k].2.2.length) := by
        rw [List.take_succ_eq_append_getElem hlt, effM_snoc]; exact rfl
      obtain ⟨M, hMe⟩ : ∃ M, Hid (M = effM (l.take k)) := ⟨_, Lib.hid rfl⟩
      have hM2 := hM.out
      rw [← hMe.out] at hM2 hm1
      have HM := Lib.hid hM2; clear hM hM2
      obtain ⟨x, hx⟩ : ∃ x, x = l[k] := ⟨_, rfl⟩
      rw [← hx] at g0 g1 g2 hD hn1 hi1 hi2 v0 v8 hd0 hs0 hs4 hm1
      have HXX := Lib.hid hx; clear hx
      obtain ⟨v, s, data⟩ := x
      simp only at g0 g1 g2 hD hn1 hi1 hi2 v0 v8 hd0 hs0 hs4 hm1
      go_wp2
      go_loopw [24] (fun s24 w2 => ∃ j : Nat, j ≤ data.length ∧ s24 = .int .i64 j ∧ wo.grownBy w2 (some w.heap.size) ∧ Hid (w2.heap[wo.heap.size + 1]? = some (.cells #[.int .i64 v, .int .i64 (s + j)] 85 (0, 0))) ∧ Hid (PMap w2 w.heap.size (effW M (v, s, data) j))) (fun s24 _ => data.length - (intOf s24).toNat)
      case atStart => exact ⟨0, by omega, rfl, (World.grownBy_alloc _ _ _).trans (World.grownBy_alloc _ _ _), by simpa [Hid] using heap_new2 wo _ _, (HM.out.alloc _).alloc _⟩
      case round =>
        obtain ⟨j, hj, rfl, hg2, hbox, hM2⟩ := hrel
        have hsz2 := hg2.size
        have hbx : wo.heap.size + 1 < wr.heap.size := (Array.getElem?_eq_some_iff.1 hbox.out).1
        obtain ⟨p0, p1, pf⟩ := blk2 hbox.out
        by_cases hj2 : j < data.length
        · have hji : (j : Int) < data.length := by omega
          have hjn : (0 : Int) ≤ j := by omega
          have hDr : SlAt encSec wr (Bl w.heap.size) D data := hD.blk (fun b hb => hg2.block b (Nat.lt_of_lt_of_le hb hB.size) (by have : b < w.heap.size := hb; simp; omega))
          obtain ⟨b2, off2, x0, x1, x2, x3, x4, x5, x6, x7, rfl, hb2, hx, hok, d0, d1, d2, d3, d4, d5, d6, d7⟩ := hDr.sec hj2
          have hbl2 : b2 < w.heap.size := hb2
          have hxv : Hid (data.getD j zsec = [x0, x1, x2, x3, x4, x5, x6, x7]) := by rw [← hx]; simp [Hid, hj2]
          rw [hx] at hok
          clear hx g0 g1 g2 hDr
          go_wp2_with (at_mapUpdate; refine Hid.out ?_)
          change wpList _ _ _ _ _ _
          refine wpList_mapUpdate_pl _ rfl _ _ _ rfl w.heap.size _ (v, s + j) [x0, x1, x2, x3, x4, x5, x6, x7] rfl rfl rfl (hM2.out.alloc _) hok ?_
          intro w3 hM3 hg3 hs3
          have hM3' := Lib.hid hM3; clear hM3
          have hs3' : w3.heap.size = wr.heap.size + 1 := by simpa using hs3
          have hbox3 : w3.heap[wo.heap.size + 1]? = some (.cells #[.int .i64 v, .int .i64 (s + j)] 85 (0, 0)) := (hg3.block _ (by simp; omega) (by simp; omega)).trans ((Below.heap_alloc _ _ _ hbx).trans hbox.out)
          have hgw3 : wo.grownBy w3 (some w.heap.size) := (grown_alloc hg2 _).trans hg3
          have hlt3 : wo.heap.size + 1 < w3.heap.size := by omega
          have HS3 := Lib.hid hs3'; clear hs3 hs3' hg3
          obtain ⟨t0, t1, tf⟩ := blk2 hbox3
          have HB3 := Lib.hid hbox3; clear hbox3
          clear p0 p1 pf
          go_wp2_with fail
          refine (behind_any v (s + j) w3 (by omega) (by omega)).mono ?_
          rintro e w4 ⟨rfl, hb4⟩
          have hbox4 : w4.heap[wo.heap.size + 1]? = some (.cells #[.int .i64 v, .int .i64 (s + j)] 85 (0, 0)) := (hb4.block _ hlt3).trans HB3.out
          have hsz4 := hb4.size
          obtain ⟨r0, r1, rf⟩ := blk2 hbox4
          have hset := Lib.hid (blk2_set hbox4 (.int .i64 v) (.int .i64 (s + j + 1)))
          clear hbox4 t0 t1 tf
          go_wp2
          go_roundw
          case rel =>
            refine ⟨j + 1, by omega, by go_num, ?_, ?_, ?_⟩
            · exact grown_setNew (grown_setNew (grown_below hgw3 hb4) (by simp) _) (by simp) _
            · have := hset.out
              rw [show s + ((j + 1 : Nat) : Int) = s + j + 1 from by omega]
              exact this
            · rw [effW_succ]
              have e : ((v, s, data) : Wr).2.2.getD j zsec = [x0, x1, x2, x3, x4, x5, x6, x7] := hxv.out
              rw [e]
              have h4 := hM3'.out.kept (hb4.block _ hM3'.out.lt)
              exact (h4.setCell _ _ (by simp; omega)).setCell _ _ (by simp; omega)
          case measure => simp [intOf]; omega
        · have hjj : j = data.length := by omega
          have hM3 := hM2.out
          rw [hjj] at hM3
          have HM3 := Lib.hid hM3; clear hM3 hjj
          clear p0 p1 pf g0 g1 g2
          go_wp2
          go_roundw
          case rel =>
            refine ⟨k + 1, hlt, by go_num, hB.grown hg2 hB.size (fun k e => by injection e with e; omega), ?_⟩
            rw [hm1.out]; exact HM3.out
          case measure => simp [intOf]; omega
    · have hkk : k = l.length := by omega
      subst hkk
      go_wp2
      go_ret
      have e := hM.out
      rw [List.take_length] at e
      exact ⟨_, rfl, e, Nat.le_refl _, hB⟩
end Go.Proofs.Ytfahbhjlkdcnpaa

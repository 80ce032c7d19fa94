/-
  The reference's Copy of snapshots.
-/
import Derived.Test.YtnkmklnlaepdeaaGreatSr
import Derived.Test.YtnkmklnlaepdeaaGreatSn6
set_option linter.unusedVariables false
set_option linter.unusedSimpArgs false
set_option linter.unusedSectionVars false
set_option linter.unnecessarySimpa false
namespace Go.Proofs.YtnkmklnlaepdeaaGreat
open Go.RowKit Go.Shelf
attribute [local go_sem] Oper.semAt_some

/-- how snapshots are that the reference can copy: no write is empty -/
def SnFull (l : List Snp) : Prop := ∀ x ∈ l, ∀ y ∈ x.2.2, 0 < y.2.2.length
set_option maxHeartbeats 4000000 in
set_option maxRecDepth 100000 in
theorem refCopy36_any (A A2 : Option Addr) (c c2 n m : Nat) (im : Img) (l : List Snp) (w : World) (hn : im.length = n) (hm : l.length = m) (h1 : SlAt (encSl encSec) w (Bl w.heap.size) A im) (h2 : SlAt encSnp w (Bl w.heap.size) A2 l) (hL : SnLim im l) (hF : SnFull l) :
    Calls Tryz.prog 28 #[.agg #[.slice A n c, .slice A2 m c2]] w fun e w' => ∃ B vc D dc mid, e = .returned (.agg #[.slice B n vc, .slice D m dc]) ∧ SnRet im l B vc D dc mid w.heap.size w' ∧ Below w.heap.size w w' := by
  subst hn hm
  have H1 : Hid (∀ w', Below w.heap.size w w' → SlAt (encSl encSec) w' (Bl w.heap.size) A im) := fun w' hb => h1.below hb
  have H2 : Hid (∀ w', Below w.heap.size w w' → SlAt encSnp w' (Bl w.heap.size) A2 l) := fun w' hb => h2.below hb
  have HL := Lib.hid hL
  have HF := Lib.hid hF
  have hl1 := hL.ims
  have hl2 := hL.its
  clear h1 h2 hL hF
  obtain ⟨n0, hn0⟩ : ∃ n0, w.heap.size = n0 := ⟨_, rfl⟩
  obtain ⟨W0, hW0⟩ : ∃ W0, (w.alloc (.cells #[.slice A im.length c, .slice A2 l.length c2] 29)).alloc (.cells #[.slice none 0 0, .slice none 0 0] 29) = W0 := ⟨_, rfl⟩
  have hB0 : Below n0 w W0 := by rw [← hW0, ← hn0]; exact ext_alloc (ext_alloc (Below.refl _ _))
  have hs0 : n0 + 1 < W0.heap.size := by rw [← hW0, ← hn0]; simp
  have hr0 : W0.heap[n0]? = some (.cells #[.slice A im.length c, .slice A2 l.length c2] 29 (0, 0)) := by rw [← hW0, ← hn0]; exact (Below.heap_alloc _ _ _ (by simp)).trans (heap_alloc_new _ _)
  have hrz0 : W0.heap[n0 + 1]? = some (.cells #[.slice none 0 0, .slice none 0 0] 29 (0, 0)) := by rw [← hW0, ← hn0]; exact heap_new2 _ _ _
  have hBL : Hid (∀ (W : World) g, Below n0 w W → Bl w.heap.size g → Bl W.heap.size g) := fun W g hb hg => by have := hb.size; have h5 : g < w.heap.size := hg; show g < W.heap.size; omega
  have HCC : Hid (∀ W, Below W0.heap.size W0 W → W.cell? ⟨n0, 0, none⟩ = some (.slice A im.length c) ∧ W.cell? ⟨n0, 1, none⟩ = some (.slice A2 l.length c2)) := fun W hb => by
    obtain ⟨a, b, _⟩ := blk2 ((hb.block n0 (by omega)).trans hr0)
    exact ⟨a, b⟩
  have HRZ : Hid (∀ W, Below W0.heap.size W0 W → W.heap[n0 + 1]? = some (.cells #[.slice none 0 0, .slice none 0 0] 29 (0, 0))) := fun W hb => (hb.block (n0 + 1) hs0).trans hrz0
  have HCP := Lib.hid (refCopy07_any A c im.length im W0 rfl ((H1.out W0 (by rw [hn0]; exact hB0)).more (fun g hg => hBL.out W0 g hB0 hg)) hl1 HL.out.row)
  obtain ⟨c0, c1⟩ := HCC.out W0 (Below.refl _ _)
  clear hr0 hrz0
  go_enter Tryz.func28, Tryz.ntmps28
  go_wp2_with fail
  refine HCP.out.mono ?_
  rintro e w1 ⟨B, vc, rfl, p1, p2, p3, hb1⟩
  have HP3 := Lib.hid p3
  have hvc : Hid (im.length ≤ vc ∧ vc ≤ maxLen) := ⟨p1, p2⟩
  have hz1 := hb1.size
  obtain ⟨ob, hob⟩ : ∃ ob, w1.heap.size = ob := ⟨_, rfl⟩
  obtain ⟨wo, hwo⟩ : ∃ wo, w1.alloc (.cells #[.slice B im.length vc, .slice none 0 0] 29) = wo := ⟨_, rfl⟩
  have hbo : Below w1.heap.size w1 wo := by rw [← hwo]; exact ext_alloc (Below.refl _ _)
  have hro : wo.heap[ob]? = some (.cells #[.slice B im.length vc, .slice none 0 0] 29 (0, 0)) := by rw [← hwo, ← hob]; exact heap_alloc_new _ _
  have hso : wo.heap.size = ob + 1 := by rw [← hwo, ← hob]; simp
  have hb0o : Below W0.heap.size W0 wo := ext_trans hb1 hbo
  have hbwo : Below n0 w wo := hB0.trans (hb0o.mono (by omega))
  have hIM : Hid (SlAt (encSl encSec) wo (Nw W0.heap.size ob) B im) := (HP3.out.blk (w' := wo) (fun g hg => hbo.block g hg.2)).more (fun g hg => ⟨hg.1, by have := hg.2; omega⟩)
  have HRO := Lib.hid hro
  clear p1 p2 p3 HCP c0 c1 hro HP3
  have HWO := Lib.hid hwo
  clear hwo
  go_upto_region 2 with (fail)
  rw [HWO.out]
  try rw [hob]
  clear HWO hbo
  go_wp2_with fail
  go_loopw [4] (fun i wr => ∃ (k : Nat) (D2 : Option Addr) (dc : Nat) (out : List Snp), k ≤ l.length ∧ i = .int .i64 k ∧ Below n0 w wr ∧ wo.heap.size ≤ wr.heap.size ∧ Hid (out = l.take k) ∧ Hid (wr.heap[ob]? = some (.cells #[.slice B im.length vc, .slice D2 out.length dc] 29 (0, 0))) ∧ Hid (OwnX (fun g => g = ob) encSnp wr wo.heap.size 45 (.slice D2 out.length dc) out) ∧ Hid (∀ g, g < wo.heap.size → g ≠ ob → wr.heap[g]? = wo.heap[g]?)) (fun i _ => l.length - (intOf i).toNat)
  case atStart => exact ⟨0, none, 0, [], by omega, rfl, hbwo, Nat.le_refl _, by simp [Hid], HRO.out, OwnX.nil_, fun _ _ _ => rfl⟩
  case round =>
    obtain ⟨wp, rfl⟩ : ∃ wo : World, wo = wr := ⟨_, rfl⟩
    obtain ⟨k, D2, dc, out, hk2, rfl, hBp, hszp, hout, hp2, hown, hkp⟩ := hrel
    have hrn : wp.heap[n0]? = W0.heap[n0]? := (hkp.out n0 (by omega) (by omega)).trans (hb0o.block n0 (by omega))
    have hrz : wp.heap[n0 + 1]? = some (.cells #[.slice none 0 0, .slice none 0 0] 29 (0, 0)) := (hkp.out (n0 + 1) (by omega) (by omega)).trans (HRZ.out wo hb0o)
    have hcn := HCC.out W0 (Below.refl _ _)
    have e0 : wp.cell? ⟨n0, 0, none⟩ = some (.slice A im.length c) := (World.cell?_of_block (a := ⟨n0, 0, none⟩) hrn).trans hcn.1
    have e1 : wp.cell? ⟨n0, 1, none⟩ = some (.slice A2 l.length c2) := (World.cell?_of_block (a := ⟨n0, 1, none⟩) hrn).trans hcn.2
    have HRZ2 := Lib.hid hrz
    clear hcn hrz
    by_cases hlt2 : k < l.length
    · obtain ⟨b, off, D, dd, rfl, hb, g0, g1, g2, hD, hd1, hd2, hi1, hi2⟩ := (H2.out wp (by rw [hn0]; exact hBp)).snp hlt2
      obtain ⟨hsl, hsd⟩ := HL.out.sav l[k] (List.getElem_mem hlt2)
      have hfl := HF.out l[k] (List.getElem_mem hlt2)
      have hst : Hid (l.take (k + 1) = l.take k ++ [l[k]]) := List.take_succ_eq_append_getElem hlt2
      obtain ⟨x, hx⟩ : ∃ x, l[k] = x := ⟨_, rfl⟩
      rw [hx] at g0 g1 g2 hD hd1 hi1 hi2 hsl hsd hst hfl
      obtain ⟨num, tm, sv⟩ := x
      simp only at g0 g1 g2 hD hd1 hi1 hi2 hsl hsd hfl
      have hki : (k : Int) < l.length := by omega
      have hnn : (0 : Int) ≤ k := by omega
      have hol : out.length ≤ k := by rw [hout.out]; simp; omega
      clear hx
      go_upto_region 6 with (fail)
      obtain ⟨W1, hW1⟩ : ∃ W1, wp.alloc (.cells #[.int .i64 num, .int .i64 tm, .slice D sv.length dd] 45) = W1 := ⟨_, rfl⟩
      rw [hW1]
      have hb1' : Below wp.heap.size wp W1 := by rw [← hW1]; exact ext_alloc (Below.refl _ _)
      have hr1 : W1.heap[wp.heap.size]? = some (.cells #[.int .i64 num, .int .i64 tm, .slice D sv.length dd] 45 (0, 0)) := by rw [← hW1]; exact heap_alloc_new _ _
      have hs1 : W1.heap.size = wp.heap.size + 1 := by rw [← hW1]; simp
      have HWR := Lib.hid (refCopyWrites_any D dd sv.length sv W1 rfl ((hD.blk (w' := W1) (fun g hg => hb1'.block g (by have : g < w.heap.size := hg; omega))).more (fun g hg => by have : g < w.heap.size := hg; show g < W1.heap.size; omega)) hsl (fun y hy => ⟨hfl y hy, hsd y hy⟩))
      obtain ⟨r0, r1, r2, rf⟩ := blk3 hr1
      clear hW1 g0 g1 g2 hD e0 e1
      go_wp2_with fail
      refine HWR.out.mono ?_
      rintro e w2 ⟨A3, c3, xs3, rfl, hox, hb2⟩
      obtain ⟨k1, k2, k3⟩ := hox.parts
      have hr2 : w2.heap[wp.heap.size]? = some (.cells #[.int .i64 num, .int .i64 tm, .slice D sv.length dd] 45 (0, 0)) := (hb2.block _ (by omega)).trans hr1
      have HK3 := Lib.hid k3
      clear r0 r1 r2 rf hr1 HWR k3 hox
      obtain ⟨r0, r1, r2, rf⟩ := blk3 hr2
      go_upto_region 7 with (fail)
      obtain ⟨W3, hW3⟩ : ∃ W3, w2.setCell ⟨wp.heap.size, 2, none⟩ (.slice A3 sv.length c3) = W3 := ⟨_, rfl⟩
      rw [hW3]
      have hr3 : W3.heap[wp.heap.size]? = some (.cells #[.int .i64 num, .int .i64 tm, .slice A3 sv.length c3] 45 (0, 0)) := by rw [← hW3]; exact blk3_set hr2 _
      have hs3 : W3.heap.size = w2.heap.size := by rw [← hW3]; simp [World.setCell]
      have hs2 := hb2.size
      have hb3 : Below wp.heap.size wp W3 := by rw [← hW3]; exact (hb1'.trans (hb2.mono hb1'.size)).setCell (p := ⟨wp.heap.size, 2, none⟩) (Nat.le_refl wp.heap.size) _
      have hK3 : Hid (SlAt encWr W3 (Nw W1.heap.size W3.heap.size) A3 sv) := by
        rw [hs3]
        refine HK3.out.blk (fun g hg => ?_)
        rw [← hW3]
        exact Below.heap_setCell _ _ _ _ (by have := hg.1; show g ≠ wp.heap.size; omega)
      have hs3g : w2.heap.size ≤ W3.heap.size := by omega
      have hs1g : wp.heap.size + 1 ≤ W1.heap.size := by omega
      have hq3 : W3.heap[ob]? = some (.cells #[.slice B im.length vc, .slice D2 out.length dc] 29 (0, 0)) := (hb3.block _ (by omega)).trans hp2.out
      clear r0 r1 r2 rf hr2 hW3 HK3 hb2 hb1' hs3 hs1
      obtain ⟨r0, r1, r2, _⟩ := blk3 hr3
      obtain ⟨_, q1, _⟩ := blk2 hq3
      have hO4 := Lib.hid ((hown.out.below hb3).alloc (.cells #[.int .i64 num, .int .i64 tm, .slice A3 sv.length c3] 45))
      have hO4o := Lib.hid hO4.out.1
      have hlt1 := Lib.hid hown.out.lt
      have HRD : Hid (encSnp.rd (W3.alloc (.cells #[.int .i64 num, .int .i64 tm, .slice A3 sv.length c3] 45)) (fun g => Nw wo.heap.size (W3.alloc (.cells #[.int .i64 num, .int .i64 tm, .slice A3 sv.length c3] 45)).heap.size g ∧ ¬ g = ob ∧ (Value.slice D2 out.length dc).ownBlock ≠ some g) [.int .i64 num, .int .i64 tm, .slice A3 sv.length c3] (num, tm, sv)) :=
        snp_mk (x := (num, tm, sv)) hi1 hi2 k1 k2 (OwnX.since (X := fun g => g = ob) (B := W1.heap.size) ((hK3.out.blk (fun g hg => Below.heap_alloc _ _ _ hg.2)).more (fun g hg => hg.mono (Nat.le_refl _) (by simp))) (by omega) (fun g hg => by have : g = ob := hg; omega) (fun g hg => by have := (hlt1.out g hg).2; omega))
      go_wp2_with (at_builtin; refine Hid.out ?_)
      change wpList _ _ _ _ _ _
      refine wpList_app1 (E := encSnp) tySnps rfl _ _ rfl rfl hO4o.out (num, tm, sv) [.int .i64 num, .int .i64 tm, .slice A3 sv.length c3] rfl HRD.out (heap_alloc_new _ _) (fun _ h => h.1.2) (by simp; omega) (by unfold maxLen; omega) (by omega) ?_
      intro A5 c5 w5 hown5 hg5 hat5
      have hz5 := hg5.size
      rw [World.size_alloc] at hz5
      have hnx : w5.heap[ob]? = wp.heap[ob]? := (hg5.block ob (by rw [World.size_alloc]; omega) (fun e => hown.out.2 _ e.symm rfl)).trans ((Below.heap_alloc _ _ _ (by omega)).trans (hb3.block ob (by omega)))
      have hrow5 : w5.heap[ob]? = some (.cells #[.slice B im.length vc, .slice D2 out.length dc] 29 (0, 0)) := hnx.trans hp2.out
      obtain ⟨_, q5, f5⟩ := blk2 hrow5
      have hrow6 := blk2_1 hrow5 (.slice A5 (out.length + 1) c5)
      have hO5 : Hid (OwnX (fun g => g = ob) encSnp (w5.setCell ⟨ob, 1, none⟩ (.slice A5 (out.length + 1) c5)) wo.heap.size 45 (.slice A5 (out.length + 1) c5) (out ++ [(num, tm, sv)])) := (hO4.out.app hown5 hg5 hat5 (fun g hg => by have : g = ob := hg; simp; omega)).set (p := ⟨ob, 1, none⟩) rfl _
      have hB5 : Below wo.heap.size wp w5 := ((hb3.mono hszp).alloc (by omega) (.cells #[.int .i64 num, .int .i64 tm, .slice A3 sv.length c3] 45)).grown hg5 (by simp; omega) (fun g h => (hlt1.out g h).1)
      have hB6 : Below n0 w (w5.setCell ⟨ob, 1, none⟩ (.slice A5 (out.length + 1) c5)) := (hBp.trans (hB5.mono (by omega))).setCell (p := ⟨ob, 1, none⟩) (by show n0 ≤ ob; omega) _
      have hkp' : Hid (∀ g, g < wo.heap.size → g ≠ ob → (w5.setCell ⟨ob, 1, none⟩ (.slice A5 (out.length + 1) c5)).heap[g]? = wo.heap[g]?) := fun g hg hn => (heap_setCell_other _ _ _ _ hn).trans ((hB5.block g hg).trans (hkp.out g hg hn))
      have hz6 : wo.heap.size ≤ (w5.setCell ⟨ob, 1, none⟩ (.slice A5 (out.length + 1) c5)).heap.size := by simp [World.setCell]; omega
      clear hown5 hg5 hat5 r0 r1 r2 hr3 q1 hq3 hrow5 hnx hB5
      go_wp2
      go_roundw
      case rel => exact ⟨k + 1, A5, c5, out ++ [(num, tm, sv)], hlt2, by go_num, hB6, hz6, by rw [Hid, hst.out, hout.out], by simpa [Hid] using hrow6, by simpa [Hid] using hO5.out, hkp'.out⟩
      case measure => simp [intOf]; omega
    · have hkk : k = l.length := by omega
      subst hkk
      rw [List.take_length] at hout
      obtain ⟨q0, q1, _⟩ := blk2 hp2.out
      obtain ⟨v0, v1, vf⟩ := blk2 HRZ2.out
      go_wp2_with fail
      change bodyPost _ _ _ _ _ ((wp.setCell ⟨n0 + 1, 0, none⟩ (.slice B im.length vc)).setCell ⟨n0 + 1, 1, none⟩ (.slice D2 out.length dc))
      have hz := blk2_set HRZ2.out (.slice B im.length vc) (.slice D2 out.length dc)
      have hB6 : Below n0 w ((wp.setCell ⟨n0 + 1, 0, none⟩ (.slice B im.length vc)).setCell ⟨n0 + 1, 1, none⟩ (.slice D2 out.length dc)) := (hBp.setCell (p := ⟨n0 + 1, 0, none⟩) (by show n0 ≤ n0 + 1; omega) _).setCell (p := ⟨n0 + 1, 1, none⟩) (by show n0 ≤ n0 + 1; omega) _
      have hO6 : OwnX (fun g => g = ob) encSnp ((wp.setCell ⟨n0 + 1, 0, none⟩ (.slice B im.length vc)).setCell ⟨n0 + 1, 1, none⟩ (.slice D2 out.length dc)) wo.heap.size 45 (.slice D2 out.length dc) out :=
        hown.out.keep (by simp [World.setCell]) (fun g hg _ _ => (heap_setCell_other _ ⟨n0 + 1, 1, none⟩ g _ (by show g ≠ n0 + 1; omega)).trans (heap_setCell_other _ ⟨n0 + 1, 0, none⟩ g _ (by show g ≠ n0 + 1; omega)))
      have hI6 : SlAt (encSl encSec) ((wp.setCell ⟨n0 + 1, 0, none⟩ (.slice B im.length vc)).setCell ⟨n0 + 1, 1, none⟩ (.slice D2 out.length dc)) (Nw W0.heap.size wo.heap.size) B im :=
        (hIM.out.blk (w' := ((wp.setCell ⟨n0 + 1, 0, none⟩ (.slice B im.length vc)).setCell ⟨n0 + 1, 1, none⟩ (.slice D2 out.length dc))) (fun g hg => (heap_setCell_other _ ⟨n0 + 1, 1, none⟩ g _ (by have := hg.1; show g ≠ n0 + 1; omega)).trans ((heap_setCell_other _ ⟨n0 + 1, 0, none⟩ g _ (by have := hg.1; show g ≠ n0 + 1; omega)).trans (hkp.out g (by have := hg.2; omega) (by have := hg.2; omega))))).more (fun g hg => ⟨hg.1, by have := hg.2; omega⟩)
      have hz6 : wo.heap.size ≤ ((wp.setCell ⟨n0 + 1, 0, none⟩ (.slice B im.length vc)).setCell ⟨n0 + 1, 1, none⟩ (.slice D2 out.length dc)).heap.size := by simp [World.setCell]; omega
      generalize (wp.setCell ⟨n0 + 1, 0, none⟩ (.slice B im.length vc)).setCell ⟨n0 + 1, 1, none⟩ (.slice D2 out.length dc) = W3 at hz hB6 hO6 hI6 hz6 ⊢
      obtain ⟨z0, z1, _⟩ := blk2 hz
      refine bodyPost_ret (v := .agg #[.slice B im.length vc, .slice D2 out.length dc]) ?_ rfl ?_
      · simp [results, Tryz.results28, Tryz.f28, go_sem, z0, z1]
      · have e := hout.out
        rw [e] at hO6 ⊢
        exact ⟨B, vc, D2, dc, wo.heap.size, rfl, ⟨hvc.out.1, hvc.out.2, by omega, hz6, hI6.more (fun g hg => ⟨by have := hg.1; omega, hg.2⟩), hO6.var (fun g hg => hg.elim)⟩, by rw [hn0]; exact hB6⟩
end Go.Proofs.YtnkmklnlaepdeaaGreat

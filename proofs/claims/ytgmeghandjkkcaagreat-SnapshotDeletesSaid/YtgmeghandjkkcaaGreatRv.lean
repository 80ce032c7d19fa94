/-
  The reference's kept.
-/
import Derived.Test.YtgmeghandjkkcaaGreatRu
import Derived.Test.YtgmeghandjkkcaaGreatSz
set_option linter.unusedVariables false
set_option linter.unusedSimpArgs false
set_option linter.unusedSectionVars false
set_option linter.unnecessarySimpa false
namespace Go.Proofs.YtgmeghandjkkcaaGreat
open Go.RowKit Go.Shelf
attribute [local go_sem] Oper.semAt_some

def contD (im : Img) (x : Wr) (j : Nat) : Wr := (x.1, x.2.1, ((contW im x).2.2).take j ++ x.2.2.drop j)
theorem contL_app (im : Img) (l m : List Wr) : contL im (l ++ m) = contL im l ++ contL im m := List.map_append ..
theorem kept_zero {im : Img} {l : List Wr} {k : Nat} (hk : k < l.length) : (contL im (l.take k) ++ l.drop k).set k (contD im l[k] 0) = contL im (l.take k) ++ l.drop k := by
  have h1 : (contL im (l.take k)).length = k := by simp [contL]; omega
  rw [List.set_append_right _ _ (by omega), h1, Nat.sub_self, List.drop_eq_getElem_cons hk, List.set_cons_zero]
  have e : contD im l[k] 0 = l[k] := by simp [contD]
  rw [e]
theorem kept_step {im : Img} {l : List Wr} {k j : Nat} (hk : k < l.length) (hc : (contW im l[k]).2.2.length = l[k].2.2.length) (hj : j < l[k].2.2.length) : (contD im l[k] j).2.2.set j ((contW im l[k]).2.2[j]'(by omega)) = (contD im l[k] (j + 1)).2.2 := by
  unfold contD
  simp only
  have h2 : (((contW im l[k]).2.2).take j).length = j := by simp; omega
  rw [List.set_append_right _ _ (by omega), h2, Nat.sub_self, List.drop_eq_getElem_cons hj, List.set_cons_zero, List.take_succ_eq_append_getElem (by omega), List.append_assoc]
  rfl
theorem kept_end {im : Img} {l : List Wr} {k : Nat} (hk : k < l.length) (hc : (contW im l[k]).2.2.length = l[k].2.2.length) : (contL im (l.take k) ++ l.drop k).set k (contD im l[k] l[k].2.2.length) = contL im (l.take (k + 1)) ++ l.drop (k + 1) := by
  have h1 : (contL im (l.take k)).length = k := by simp [contL]; omega
  rw [List.set_append_right _ _ (by omega), h1, Nat.sub_self, List.drop_eq_getElem_cons hk, List.set_cons_zero, List.take_succ_eq_append_getElem hk, contL_app, List.append_assoc]
  congr 1
  have : contD im l[k] l[k].2.2.length = contW im l[k] := by
    unfold contD
    rw [List.drop_length, List.append_nil, ← hc, List.take_length]
    rfl
  rw [this]
  rfl
set_option maxHeartbeats 8000000 in
set_option maxRecDepth 100000 in
theorem refKept_any (A A2 : Option Addr) (c c2 n m : Nat) (im : Img) (l : List Wr) (w : World) (hn : im.length = n) (hm : l.length = m) (h1 : SlAt (encSl encSec) w (Bl w.heap.size) A im) (hl : n ≤ 100000) (h2 : SlAt encWr w (Bl w.heap.size) A2 l) (hl2 : m ≤ 100000) (hz : sizesN (lens im) = 0) (hf : ∀ x ∈ l, fitsN (lens im) x = 0) :
    Calls Tryz.prog 43 #[.slice A n c, .slice A2 m c2] w (WrsRet (contL im l) w) := by
  subst hn hm
  have H1 : Hid (∀ w', Below w.heap.size w w' → SlAt (encSl encSec) w' (Bl w.heap.size) A im) := fun w' hb => h1.below hb
  have hrg := Lib.hid (sizes_range hz)
  have HF := Lib.hid hf
  have HCW := Lib.hid (refCopyWrites_any A2 c2 l.length l w rfl h2 hl2 (fun x hx => ⟨(fits_ok hz (hf x hx)).2.2.1, by have := (fits_ok hz (hf x hx)).2.2.2; omega⟩))
  clear h1 h2 hf hz
  obtain ⟨n0, hn0⟩ : ∃ n0, w.heap.size = n0 := ⟨_, rfl⟩
  go_enter Tryz.func43, Tryz.ntmps43
  go_wp2_with fail
  refine HCW.out.mono ?_
  rintro e w1 ⟨B, vc, xs, rfl, ho, hb1⟩
  have HO := Lib.hid ho; clear ho HCW
  have hxl : Hid (xs.length = l.length) := HO.out.len
  have hll : Hid ((contL im l).length = l.length) := by simp [Hid, contL]
  go_wp2_with fail
  go_loopw [6] (fun i wr => ∃ k : Nat, k ≤ l.length ∧ i = .int .i64 k ∧ Below w.heap.size w wr ∧ Hid (WrsOwn wr w.heap.size B vc xs (contL im (l.take k) ++ l.drop k))) (fun i _ => l.length - (intOf i).toNat)
  case atStart => exact ⟨0, by omega, rfl, hb1, by simpa [Hid, contL] using HO.out⟩
  case round =>
    obtain ⟨wo, rfl⟩ : ∃ wo : World, wo = wr := ⟨_, rfl⟩
    obtain ⟨k, hk, rfl, hB, hown⟩ := hrel
    by_cases hlt : k < l.length
    · have hnn : (0 : Int) ≤ k := by omega
      have hki : (k : Int) < l.length := by omega
      have hfk := HF.out l[k] (List.getElem_mem hlt)
      obtain ⟨base, hbase⟩ : ∃ b, Hid (contL im (l.take k) ++ l.drop k = b) := ⟨_, rfl⟩
      have hbl : Hid (base.length = l.length) := by rw [← hbase.out, Hid]; simp [contL]; omega
      have h0 := kept_zero (im := im) hlt
      have hst := kept_step (im := im) (j := 0) hlt
      have hen := kept_end (im := im) hlt
      obtain ⟨y, hy⟩ : ∃ y, Hid (y = l[k]'hlt) := ⟨_, Lib.hid rfl⟩
      have hstep : Hid (∀ j, (hc : (contW im y).2.2.length = y.2.2.length) → (hj : j < y.2.2.length) → (contD im y j).2.2.set j ((contW im y).2.2[j]'(by omega)) = (contD im y (j + 1)).2.2) := by
        rw [hy.out]; exact fun j hc hj => kept_step hlt hc hj
      rw [← hy.out] at hfk h0 hen
      rw [hbase.out] at hown h0 hen
      clear hst
      obtain ⟨v, s, data⟩ := y
      obtain ⟨kv, sv, ev, es2, hkv, hdp, hsv⟩ := fits_img hfk
      simp only at ev es2 hdp hsv
      subst ev es2
      obtain ⟨row, hrow⟩ : ∃ r, Hid (r = im[kv]'hkv) := ⟨_, Lib.hid rfl⟩
      have hgd : im.getD kv [] = row := by rw [hrow.out, List.getD_eq_getElem?_getD, List.getElem?_eq_getElem hkv]; rfl
      rw [hgd] at hsv
      have hcw : Hid ((contW im ((kv : Int), (sv : Int), data)).2.2 = (row.drop sv).take data.length) := by
        rw [Hid]; unfold contW; simp only [Int.toNat_natCast]; rw [hgd]
      have hcl : Hid ((contW im ((kv : Int), (sv : Int), data)).2.2.length = data.length) := by rw [Hid, hcw.out]; simp; omega
      have hen2 := Lib.hid (hen hcl.out)
      have H0 := Lib.hid h0
      have hrl : (row.length : Int) ≤ 4096 := by
        have := (hrg.out.2 (lenI row) (List.mem_map.2 ⟨row, by rw [hrow.out]; exact List.getElem_mem hkv, rfl⟩)).2
        exact this
      have hkvi : (kv : Int) < im.length := by omega
      have hkv0 : (0 : Int) ≤ kv := by omega
      have hxk : k < xs.length := by rw [hxl.out]; exact hlt
      have hbk : k < base.length := by rw [hbl.out]; exact hlt
      clear hgd hen h0 hfk
      go_wp2_with fail
      go_loopw [7] (fun jj W => ∃ j : Nat, j ≤ data.length ∧ jj = .int .i64 j ∧ Below w.heap.size w W ∧ Hid (WrsOwn W w.heap.size B vc xs (base.set k (contD im ((kv : Int), (sv : Int), data) j)))) (fun jj _ => data.length - (intOf jj).toNat)
      case atStart => exact ⟨0, by omega, rfl, hB, by rw [Hid, H0.out]; exact hown.out⟩
      case round =>
        obtain ⟨W, rfl⟩ : ∃ W : World, W = wr := ⟨_, rfl⟩
        obtain ⟨j, hj, rfl, hBW, hownW⟩ := hrel
        have hHo := hownW.out
        have hbk2 : k < (base.set k (contD im ((kv : Int), (sv : Int), data) j)).length := by rw [List.length_set]; exact hbk
        have hrow1 := hHo.rows k hxk hbk2
        have hhd := hHo.heads k hxk hbk2
        simp only [List.getElem_set_self] at hrow1 hhd
        obtain ⟨g, cs, hBg, hgl1, hgl, _, hcell, _, hrd⟩ := hHo.outer.elem hxk
        subst hBg
        obtain ⟨x, hx⟩ : ∃ x, Hid (x = xs[k]'hxk) := ⟨_, Lib.hid rfl⟩
        rw [← hx.out] at hrow1 hhd hrd
        obtain ⟨v', s', rb, rn, rc⟩ := x
        obtain ⟨ev, es⟩ := hhd
        simp only [contD] at ev es
        subst ev es
        have hty := hrow1.ty
        simp only at hty
        obtain ⟨y1, y2, y3, y4, y5, _⟩ := hty
        have hdl : (contD im ((kv : Int), (sv : Int), data) j).2.2.length = data.length := by
          unfold contD; simp only; rw [List.length_append, List.length_take, List.length_drop, hcl.out]; omega
        rw [hdl] at y3 y4
        subst y3
        obtain ⟨rfl, _, _, _⟩ := hrd
        have c0 := hcell 0 _ rfl
        have c1 := hcell 1 _ rfl
        have c2' := hcell 2 _ rfl
        simp only [show encWB.size = 3 from rfl, Nat.add_zero] at c0 c1 c2'
        have hgrb : g < W.heap.size := hgl
        by_cases hjlt : j < data.length
        · obtain ⟨b1, off1, D1, dc1, rfl, hb1', z, hD1, _, _⟩ := (H1.out W hBW).sl hkv
          rw [← hrow.out] at z hD1
          have hsj : sv + j < row.length := by omega
          obtain ⟨b2, off2, x0, x1, x2, x3, x4, x5, x6, x7, rfl, hb2', hxe, hok, z0, z1, z2, z3, z4, z5, z6, z7⟩ := hD1.sec hsj
          have hcj : (contW im ((kv : Int), (sv : Int), data)).2.2[j]'(by rw [hcl.out]; exact hjlt) = [x0, x1, x2, x3, x4, x5, x6, x7] := by
            have : (contW im ((kv : Int), (sv : Int), data)).2.2[j]'(by rw [hcl.out]; exact hjlt) = row[sv + j]'hsj := by
              simp only [hcw.out]
              rw [List.getElem_take, List.getElem_drop]
            rw [this, hxe]
          rw [hxe] at hok
          have hsji : (sv : Int) + j < row.length := by omega
          have hsj0 : (0 : Int) ≤ (sv : Int) + j := by omega
          have hj0 : (0 : Int) ≤ j := by omega
          have hjd : (j : Int) < data.length := by omega
          obtain ⟨hc8, hfz⟩ := Own.cellSec hrow1 hdl (k := j) (by rw [hdl]; exact hjlt)
          obtain ⟨u0, d0⟩ := hc8 0 (by omega)
          obtain ⟨u1, d1⟩ := hc8 1 (by omega)
          obtain ⟨u2, d2⟩ := hc8 2 (by omega)
          obtain ⟨u3, d3⟩ := hc8 3 (by omega)
          obtain ⟨u4, d4⟩ := hc8 4 (by omega)
          obtain ⟨u5, d5⟩ := hc8 5 (by omega)
          obtain ⟨u6, d6⟩ := hc8 6 (by omega)
          obtain ⟨u7, d7⟩ := hc8 7 (by omega)
          simp only [Nat.add_zero] at d0
          have hst := Own.setSec hrow1 hdl (k := j) (by rw [hdl]; exact hjlt) hok
          have hST : Hid (RowOf (st8 W rb j x0 x1 x2 x3 x4 x5 x6 x7) w.heap.size (rb, data.length, rc) (contD im ((kv : Int), (sv : Int), data) (j + 1)).2.2) := by
            rw [Hid, ← hstep.out j hcl.out hjlt, hcj]
            exact hst
          have hfin : Hid (WrsOwn (st8 W rb j x0 x1 x2 x3 x4 x5 x6 x7) w.heap.size (some ⟨g, 0, none⟩) vc xs (base.set k (contD im ((kv : Int), (sv : Int), data) (j + 1)))) := by
            have h4 := hHo.put (w1 := st8 W rb j x0 x1 x2 x3 x4 x5 x6 x7) (row := (contD im ((kv : Int), (sv : Int), data) (j + 1)).2.2) hxk hbk2 (by rw [← hx.out]; exact hST.out) (by rw [← hx.out]; exact st8_grown)
            rw [List.set_set] at h4
            simp only [List.getElem_set_self] at h4
            exact h4
          clear hst hc8 hHo hcell hrow1 hST hdl hcj hbk2
          go_upto_region 8 with (fail)
          go_region
          obtain ⟨W5, hW5⟩ : ∃ W5, st8 W rb j x0 x1 x2 x3 x4 x5 x6 x7 = W5 := ⟨_, rfl⟩
          have hB5 : Below w.heap.size w W5 := by rw [← hW5]; exact st8_below hBW y1
          rw [hW5] at hfin
          have hW6 := hW5
          unfold st8 at hW6
          rw [hW6]
          clear hW5 hW6 d0 d1 d2 d3 d4 d5 d6 d7 z0 z1 z2 z3 z4 z5 z6 z7 c0 c1 c2' hfz z
          go_wp2
          go_roundw
          case rel => exact ⟨j + 1, hjlt, by go_num, hB5.drew, hfin.out.below (Below.refl _ _).drew⟩
          case measure => simp [intOf]; omega
        · have hjj : j = data.length := by omega
          subst hjj
          have hput : Hid (WrsOwn W w.heap.size (some ⟨g, 0, none⟩) vc xs (contL im (l.take (k + 1)) ++ l.drop (k + 1))) := by
            rw [Hid, ← hen2.out]; exact hHo
          clear hHo hcell hrow1
          go_wp2_with fail
          go_roundw
          case rel => exact ⟨k + 1, hlt, by go_num, hBW, hput.out⟩
          case measure => simp [intOf]; omega
    · have hkk : k = l.length := by omega
      subst hkk
      have ho := hown.out
      rw [List.take_length, List.drop_length, List.append_nil] at ho
      have HO2 := Lib.hid ho
      clear ho
      go_wp2
      go_ret
      exact ⟨B, vc, xs, by show Ending.returned (.slice B l.length vc) = Ending.returned (.slice B (contL im l).length vc); rw [hll.out], HO2.out, hB⟩
end Go.Proofs.YtgmeghandjkkcaaGreat

/-
  copied, and Apply, of images.
-/
import Derived.RegionTactic
import Derived.BigRegion
import Derived.Deep.RegionLaw
import Derived.Test.YtnkmklnlaepdeaaIm
set_option linter.unusedVariables false
set_option linter.unusedSimpArgs false
set_option linter.unusedSectionVars false
set_option linter.unnecessarySimpa false
namespace Go.Proofs.Ytnkmklnlaepdeaa
open Go.RowKit

theorem tyImgI : SliceTy Try.prog 50 73 encBlk.size 24 := sliceTy_mk (z := .slice none 0 0) Try.underlying50 (by kernel_rfl) rfl (by decide)
set_option maxHeartbeats 2000000 in
theorem mappedRows_any (A : Option Addr) (c : Nat) (im : List (List Sec)) (w : World) (h1 : SlAt (encSl encSec) w (Bl w.heap.size) A im) (hl : im.length ≤ 1000) (hne : ∀ r ∈ im, 0 < r.length ∧ r.length ≤ 1000000) :
    Calls Try.prog 94 #[.slice A im.length c, .func (.func 62) #[] #[]] w fun e w' => ∃ B vc xs, e = .returned (.slice B im.length vc) ∧ ImgOwn w' w.heap.size B vc xs im ∧ Below w.heap.size w w' := by
  have H1 : Hid (∀ w', Below w.heap.size w w' → SlAt (encSl encSec) w' (Bl w'.heap.size) A im) := fun w' hb => h1.fwd hb
  have HNE := Lib.hid hne
  clear h1 hne
  obtain ⟨cur, hcs, hmk⟩ := makeOf tyImgI im.length (by omega) (by omega) w
  have HCS := Lib.hid hcs; clear hcs
  have hO1 := Lib.hid (ImgOwn.nil_ (w := w) (lo := w.heap.size) (cur := cur) (cap := im.length) (Nat.le_refl _) (by unfold maxLen; omega) (by have := HCS.out; simpa [encBlk] using this))
  go_enter Try.func94, Try.ntmps94
  go_wp2
  go_loopw [5, 13] (fun v i wr => ∃ (k : Nat) (B : Option Addr) (vc : Nat) (xs : List (Nat × Nat × Nat)), k ≤ im.length ∧ i = .int .i64 k ∧ v = .slice B xs.length vc ∧ Below w.heap.size w wr ∧ Hid (xs.length = k) ∧ Hid (ImgOwn wr w.heap.size B vc xs (im.take k))) (fun _ i _ => im.length - (intOf i).toNat)
  case atStart => exact ⟨0, some ⟨w.heap.size, 0, none⟩, im.length, [], by omega, rfl, rfl, ext_alloc (Below.refl _ _), rfl, hO1.out⟩
  case round =>
    clear hmk
    obtain ⟨k, B, vc, xs, hk, rfl, rfl, hB, hxl, hown⟩ := hrel
    by_cases hlt : k < im.length
    · have hnn : (0 : Int) ≤ k := by omega
      have hki : (k : Int) < im.length := by omega
      have hol : xs.length ≤ 1000 := by rw [hxl.out]; omega
      have hszr := hB.size
      obtain ⟨b, off, D, dc, rfl, hb, g0, hD, hn1, hn2⟩ := (H1.out wr hB).sl hlt
      obtain ⟨p1, p2⟩ := HNE.out im[k] (List.getElem_mem hlt)
      obtain ⟨row, hrow⟩ : ∃ r, Hid (r = im[k]'hlt) := ⟨_, Lib.hid rfl⟩
      rw [← hrow.out] at g0 hD hn1 p1 p2
      go_wp2_with fail
      refine (cloneRow_any D dc _ row wr rfl p1 hD p2).mono ?_
      rintro e w1 ⟨g, c', rfl, hr, hb1⟩
      have HR := Lib.hid hr; clear hr
      have hB1 : Below w.heap.size w w1 := ext_trans hB hb1
      have hsz1 := hb1.size
      have HO1 := Lib.hid (hown.out.below hb1)
      have HO2 := Lib.hid (HO1.out.below ((Below.refl _ _).alloc (Nat.le_refl _) (.cells #[.slice (some ⟨g, 0, none⟩) row.length c'] 73)))
      have HRD : Hid (encBlk.rd (w1.alloc (.cells #[.slice (some ⟨g, 0, none⟩) row.length c'] 73)) (fun _ => False) [.slice (some ⟨g, 0, none⟩) row.length c'] (g, row.length, c')) := ⟨rfl, HR.out.ty.2.2.2.1, HR.out.ty.2.2.2.2.1⟩
      have hgn := HR.out.ty.1
      clear g0 hD
      go_wp2_with (at_builtin; refine Hid.out ?_)
      change wpList _ _ _ _ _ _
      refine wpList_app1 (E := encBlk) tyImgI rfl _ _ rfl rfl HO2.out.outer (g, row.length, c') _ rfl HRD.out (heap_alloc_new _ _) (fun _ h => h.elim) (by simp; omega) (by unfold maxLen; omega) (by omega) ?_
      intro A' c5 w5 hown5 hg5 hat5
      have hfin : Hid (ImgOwn w5 w.heap.size A' c5 (xs ++ [(g, row.length, c')]) (im.take (k + 1))) := by
        rw [Hid, List.take_succ_eq_append_getElem hlt, ← hrow.out]
        refine HO2.out.snoc (x := (g, row.length, c')) ((HR.out.base hszr).blk ((Below.heap_alloc _ _ _ HR.out.ty.2.1))) (fun y hy => ?_) hown5 hg5
        obtain ⟨j, hj, rfl⟩ := List.mem_iff_getElem.1 hy
        have := (hown.out.rows j hj (by rw [← hown.out.len]; exact hj)).ty.2.1
        simp only at hgn ⊢
        omega
      have hB5 := Lib.hid ((ext_alloc (o := .cells #[.slice (some ⟨g, 0, none⟩) row.length c'] 73) hB1).grown hg5 (by simp; omega) (fun g h => (hown.out.outer.lt g h).1))
      clear hown5 hg5 hat5
      go_wp2
      go_roundw
      case rel => exact ⟨k + 1, A', c5, xs ++ [(g, row.length, c')], hlt, by go_num, by simp, hB5.out, by rw [Hid, List.length_append, hxl.out]; rfl, hfin.out⟩
      case measure => simp [intOf]; omega
    · have hkk : k = im.length := by omega
      subst hkk
      have ho := hown.out
      rw [List.take_length] at ho
      have HO := Lib.hid ho
      have HXL := hxl; clear ho
      go_wp2
      go_ret
      refine ⟨B, vc, xs, ?_, HO.out, hB⟩
      have hxi := hxl.out
      show Ending.returned (.slice B xs.length vc) = _
      rw [hxi]
theorem copied_any (A : Option Addr) (c n : Nat) (im : List (List Sec)) (w : World) (hn : im.length = n) (h1 : SlAt (encSl encSec) w (Bl w.heap.size) A im) (hl : n ≤ 1000) (hne : ∀ r ∈ im, 0 < r.length ∧ r.length ≤ 1000000) :
    Calls Try.prog 87 #[.slice A n c] w fun e w' => ∃ B vc xs, e = .returned (.slice B n vc) ∧ ImgOwn w' w.heap.size B vc xs im ∧ Below w.heap.size w w' := by
  subst hn
  have hc := Lib.hid (mappedRows_any A c im w h1 hl hne)
  clear h1 hne
  go_enter Try.func87, Try.ntmps87
  go_wp2_with fail
  refine hc.out.mono ?_
  rintro e w1 ⟨B, vc, xs, rfl, ho, hb1⟩
  have HO := Lib.hid ho; clear ho
  go_wp2
  go_ret
  exact ⟨B, vc, xs, rfl, HO.out, hb1⟩
/-- an image behind a write -/
def putW (im : List (List Sec)) (x : Wr) : List (List Sec) := im.set x.1.toNat (over (im.getD x.1.toNat []) x.2.1.toNat x.2.2)
def putAll (im : List (List Sec)) (l : List Wr) : List (List Sec) := l.foldl putW im
theorem putAll_snoc (im : List (List Sec)) (l : List Wr) (x : Wr) : putAll im (l ++ [x]) = putW (putAll im l) x := by simp [putAll]
theorem fits_img {im : List (List Sec)} {x : Wr} (h : fitsN (lens im) x = 0) : ∃ (k s : Nat), x.1 = k ∧ x.2.1 = s ∧ k < im.length ∧ 0 < x.2.2.length ∧ s + x.2.2.length ≤ (im.getD k []).length := by
  unfold fitsN at h
  split at h
  · cases h
  · rename_i c1
    split at h
    · cases h
    · rename_i c2
      split at h
      · cases h
      · rename_i c3
        rw [lens_len] at c1
        have hk : x.1.toNat < im.length := by omega
        have e1 : (lens im).getD x.1.toNat 0 = ((im.getD x.1.toNat []).length : Int) := by
          rw [List.getD_eq_getElem?_getD, List.getD_eq_getElem?_getD, List.getElem?_eq_getElem (by rw [lens_len]; exact hk), List.getElem?_eq_getElem hk]
          exact lens_at hk
        rw [e1] at c3
        refine ⟨x.1.toNat, x.2.1.toNat, by omega, by omega, hk, by omega, by omega⟩
theorem putW_lens {im : List (List Sec)} {x : Wr} (h : fitsN (lens im) x = 0) : lens (putW im x) = lens im := by
  obtain ⟨k, s, e1, e2, hk, _, hs⟩ := fits_img h
  unfold putW lens
  rw [e1, e2, Int.toNat_natCast, Int.toNat_natCast]
  refine List.ext_getElem (by simp) fun i h1 h2 => ?_
  simp only [List.getElem_map, List.getElem_set]
  split
  · rename_i e
    subst e
    unfold lenI
    rw [over_len hs, List.getD_eq_getElem?_getD, List.getElem?_eq_getElem hk]
    rfl
  · rfl
theorem putAll_lens {im : List (List Sec)} {l : List Wr} (h : ∀ x ∈ l, fitsN (lens im) x = 0) : lens (putAll im l) = lens im := by
  induction l using snocRec with
  | h0 => rfl
  | h1 l x ih =>
    have ih := ih (fun y hy => h y (by simp [hy]))
    rw [putAll_snoc, putW_lens (by rw [ih]; exact h x (by simp)), ih]
/-- what Apply returns -/
def applyErr (im : List (List Sec)) (l : List Wr) : Int := if sizesN (lens im) ≠ 0 then sizesN (lens im) else errOf (fitsN (lens im)) l
def applyL (im : List (List Sec)) (l : List Wr) : List (List Sec) := if applyErr im l = 0 then putAll im l else []
def ApplyRet (r : List (List Sec)) (en : Int) (w : World) (e : Ending) (w' : World) : Prop :=
  ∃ A c i, e = .returned (.tuple #[.slice A r.length c, .int .i64 i, .int .i64 en]) ∧ r.length ≤ c ∧ c ≤ maxLen ∧ SlAt (encSl encSec) w' (Nw w.heap.size w'.heap.size) A r ∧ Below w.heap.size w w'
theorem ApplyRet.no {en : Int} {w w' : World} {i : Int} (h : Below w.heap.size w w') : ApplyRet [] en w (.returned (.tuple #[.slice none 0 0, .int .i64 i, .int .i64 en])) w' := ⟨none, 0, i, rfl, by simp, by simp, SlAt.nil_, h⟩
theorem putAll_length (im : List (List Sec)) (l : List Wr) : (putAll im l).length = im.length := by
  induction l using snocRec with
  | h0 => rfl
  | h1 l x ih => rw [putAll_snoc, putW, List.length_set, ih]
theorem imgFits1X (A : Option Addr) (c n m : Nat) (im : List (List Sec)) (v s : Int) (D : Option Addr) (dc : Nat) (data : List Sec) (w : World) (hn' : im.length = n) (hm : data.length = m) (h1 : SlAt (encSl encSec) w (Bl w.heap.size) A im) (hl : n ≤ 1000000) (hn : m ≤ 9223372036854775807) (hv : I64 v) (hs2 : I64 s) (pn : Int) (hp : fitsN (lens im) (v, s, data) = pn) :
    Calls Try.prog 84 #[.slice A n c, .agg #[.int .i64 v, .int .i64 s, .slice D m dc]] w fun e w' => e = .returned (.int .i64 pn) ∧ Below w.heap.size w w' := by
  subst hn' hm hp
  exact imgFits1_any A c im v s D dc data w h1 hl hn hv hs2
set_option maxHeartbeats 4000000 in
theorem apply_any (A A2 : Option Addr) (c c2 : Nat) (im : List (List Sec)) (l : List Wr) (w : World) (h1 : SlAt (encSl encSec) w (Bl w.heap.size) A im) (hl : im.length ≤ 1000000) (h2 : SlAt encWr w (Bl w.heap.size) A2 l) (hl2 : l.length ≤ 9223372036854775807) :
    Calls Try.prog 71 #[.slice A im.length c, .slice A2 l.length c2] w (ApplyRet (applyL im l) (applyErr im l) w) := by
  have H1 := Lib.hid h1
  have H2 : Hid (∀ w', Below w.heap.size w w' → SlAt encWr w' (Bl w.heap.size) A2 l) := fun w' hb => h2.below hb
  clear h1 h2
  obtain ⟨es, hes⟩ : ∃ es, Hid (sizesN (lens im) = es) := ⟨_, Lib.hid rfl⟩
  have HC := Lib.hid (imgCheck_any A c im.length im w rfl H1.out hl es hes.out)
  go_enter Try.func71, Try.ntmps71
  go_wp2_with fail
  refine HC.out.mono ?_
  rintro e w1 ⟨rfl, hb1⟩
  clear HC
  by_cases he : es = 0
  · have he1 : (es != 0) = false := by simp [he]
    have HE := Lib.hid he; clear he
    have hrg := Lib.hid (sizes_range (hes.out.trans HE.out))
    have hne : Hid (∀ r ∈ im, 0 < r.length ∧ r.length ≤ 1000000) := fun r hr => by
      have := hrg.out.2 (lenI r) (List.mem_map.2 ⟨r, hr, rfl⟩)
      unfold lenI at this
      omega
    have hl8 : im.length ≤ 8 := by have := hrg.out.1; rwa [lens_len] at this
    have hcp := Lib.hid (copied_any A c im.length im w1 rfl (H1.out.fwd hb1) (by omega) hne.out)
    go_wp2_with fail
    refine hcp.out.mono ?_
    rintro e w2 ⟨B, vc, xs, rfl, ho2, hb2⟩
    have HO2 := Lib.hid ho2; clear ho2 hcp
    have hB2 : Below w.heap.size w w2 := ext_trans hb1 hb2
    have hsz1 := hb1.size
    have hxl : Hid (xs.length = im.length) := HO2.out.len
    go_wp2_with fail
    go_loopw [21] (fun i wr => ∃ k : Nat, k ≤ l.length ∧ i = .int .i64 k ∧ Below w.heap.size w wr ∧ Hid (∀ x ∈ l.take k, fitsN (lens im) x = 0) ∧ Hid (ImgOwn wr w.heap.size B vc xs (putAll im (l.take k)))) (fun i _ => l.length - (intOf i).toNat)
    case atStart =>
      refine ⟨0, by omega, rfl, hB2, by simp [Hid], ?_⟩
      have h := HO2.out
      exact ⟨by obtain ⟨css, ⟨a1, a2⟩, a3, a4⟩ := h.outer; exact ⟨css, ⟨a1, by
        rcases a2 with a2 | ⟨g, cap, cur, b1, b2, b3⟩
        · exact Or.inl a2
        · exact Or.inr ⟨g, cap, cur, b1, by omega, b3⟩⟩, a3, a4⟩, h.len, fun k h1 h2 => (h.rows k h1 h2).base hsz1, h.apart⟩
    case round =>
      obtain ⟨k, hk, rfl, hB, hz, hown⟩ := hrel
      obtain ⟨jm, hjm⟩ : ∃ jm, Hid (jm = putAll im (l.take k)) := ⟨_, Lib.hid rfl⟩
      rw [← hjm.out] at hown
      have hjl : Hid (jm.length = im.length) := by rw [Hid, hjm.out]; exact putAll_length _ _
      have hjn : Hid (lens jm = lens im) := by rw [Hid, hjm.out]; exact putAll_lens hz.out
      by_cases hlt : k < l.length
      · obtain ⟨b, off, D, dc, rfl, hb, e0, e1, e2, hD, hn1, hn2, hi1, hi2⟩ := (H2.out wr hB).wr hlt
        have hbl : b < w.heap.size := hb
        have hnn : (0 : Int) ≤ k := by omega
        have hki : (k : Int) < l.length := by omega
        have hsz := hB.size
        unfold maxLen at hn2
        obtain ⟨y, hy⟩ : ∃ y, Hid (y = l[k]'hlt) := ⟨_, Lib.hid rfl⟩
        rw [← hy.out] at e0 e1 e2 hn1 hi1 hi2 hD
        obtain ⟨v, s, data⟩ := y
        simp only at e0 e1 e2 hn1 hi1 hi2 hD
        have HD := Lib.hid hD; clear hD
        obtain ⟨pn, hpn⟩ : ∃ pn, Hid (fitsN (lens jm) (v, s, data) = pn) := ⟨_, Lib.hid rfl⟩
        have hbx : Below wr.heap.size wr (wr.alloc (.cells #[.int .i64 v, .int .i64 s, .slice D data.length dc] 102)) := ext_alloc (Below.refl _ _)
        have hfx := Lib.hid (imgFits1X B vc im.length data.length jm v s D dc data _ hjl.out rfl ((hown.out.reads.more (fun _ h => h.2) : SlAt (encSl encSec) wr (Bl wr.heap.size) B jm).fwd hbx) hl (by omega) hi1 hi2 pn hpn.out)
        go_wp2_with fail
        refine hfx.out.mono ?_
        rintro e w3 ⟨rfl, hb3⟩
        have hw3 : Below wr.heap.size wr w3 := ext_trans hbx hb3
        have hB3 : Below w.heap.size w w3 := ext_trans hB hw3
        have hx3 : w3.heap[wr.heap.size]? = some (.cells #[.int .i64 v, .int .i64 s, .slice D data.length dc] 102 (0, 0)) := (hb3.block _ (by simp)).trans (heap_alloc_new _ _)
        have hz3 := (Array.getElem?_eq_some_iff.1 hx3).1
        clear e0 e1 e2 hfx
        by_cases hp0 : pn = 0
        · have hp1 : (pn != 0) = false := by simp [hp0]
          have HP := Lib.hid hp0; clear hp0
          have hfit := hpn.out.trans HP.out
          have hzs : Hid (∀ x ∈ l.take (k + 1), fitsN (lens im) x = 0) := by
            intro x hx
            rw [List.take_succ_eq_append_getElem hlt] at hx
            rcases List.mem_append.1 hx with hx | hx
            · exact hz.out x hx
            · rw [List.mem_singleton.1 hx, ← hy.out, ← hjn.out]; exact hfit
          obtain ⟨kv, sv, ev, es2, hkv, hdp, hsv⟩ := fits_img hfit
          simp only at ev es2 hdp hsv
          subst ev es2
          have HO3 := Lib.hid (hown.out.below hw3)
          have hxk : kv < xs.length := by rw [HO3.out.len]; exact hkv
          have hrow0 := HO3.out.rows kv hxk hkv
          obtain ⟨x, hx⟩ : ∃ x, Hid (x = xs[kv]'hxk) := ⟨_, Lib.hid rfl⟩
          obtain ⟨row, hrow⟩ : ∃ r, Hid (r = jm[kv]'hkv) := ⟨_, Lib.hid rfl⟩
          have hgd : jm.getD kv [] = row := by rw [hrow.out, List.getD_eq_getElem?_getD, List.getElem?_eq_getElem hkv]; rfl
          rw [hgd] at hsv
          have HGD := Lib.hid hgd; clear hgd
          rw [← hx.out, ← hrow.out] at hrow0
          obtain ⟨rb, rn, rc⟩ := x
          obtain ⟨y1, y2, y3, y4, y5, _⟩ := hrow0.ty
          simp only at y1 y2 y3 y4 y5
          subst y3
          have HROW := Lib.hid hrow0; clear hrow0
          obtain ⟨g, cs, hBg, _, hgl, _, hcell, _, hrd⟩ := HO3.out.outer.elem hxk
          subst hBg
          rw [← hx.out] at hrd
          obtain ⟨rfl, _, _⟩ := hrd
          have hc0 := hcell 0 _ rfl
          simp only [encBlk, Nat.mul_one, Nat.add_zero] at hc0
          have hxln : xs.length = im.length := hxl.out
          have hkvi : (kv : Int) < im.length := by omega
          have hkv0 : (0 : Int) ≤ kv := by omega
          have hsv0 : (0 : Int) ≤ sv := by omega
          have hsvi : (sv : Int) ≤ row.length := by omega
          have hsvl : sv < row.length := by omega
          have hsvc : sv < rc := by omega
          have t0 := cell_of_row _ _ 0 _ _ _ hx3
          have t1 := cell_of_row _ _ 1 _ _ _ hx3
          have t2 := cell_of_row _ _ 2 _ _ _ hx3
          have HD3 := Lib.hid (HD.out.below (hw3.mono hsz))
          unfold maxLen at y5
          clear hcell hx3 hxln
          have hne : ¬ rc = sv := by omega
          go_wp2_with fail
          go_region_law (refine step_copyE (E := encSec) tySec8 rfl _ _ rfl (s := sv) rfl rfl (HROW.out.blk rfl) rfl hsv (HD3.out.drew ⟨1, rfl⟩) (fun h => h) ?_; intro w4 hown4 hg4)
          all_goals
            have hput : Hid (ImgOwn w4 w.heap.size (some ⟨g, 0, none⟩) vc xs (putAll im (l.take (k + 1)))) := by
              have h3 : ImgOwn w3.drew w.heap.size (some ⟨g, 0, none⟩) vc xs jm := HO3.out.below (Below.refl _ _).drew
              have h4 := h3.put (w1 := w4) (row := over row sv data) hxk (by rw [← hx.out]; exact hown4) (by rw [← hx.out]; exact hg4)
              rw [Hid, List.take_succ_eq_append_getElem hlt, putAll_snoc, ← hjm.out, ← hy.out]
              unfold putW
              simp only [Int.toNat_natCast]
              rw [HGD.out]
              exact h4
            have hB4 : Below w.heap.size w w4 := hB3.drew.grown hg4 hB3.size (fun j e => by cases e; exact y1)
            clear hown4 hg4
            go_wp2
            go_roundw
            case rel => exact ⟨k + 1, hlt, by go_num, hB4, hzs.out, hput.out⟩
            case measure => simp [intOf]; omega
        · have hp1 : (pn != 0) = true := by simp [hp0]
          have HP := Lib.hid hp0; clear hp0
          have herr : Hid (errOf (fitsN (lens im)) l = pn) := by
            rw [Hid, ← hpn.out, hjn.out]
            have h2 := errOf_at hlt hz.out (by rw [← hy.out, ← hjn.out, hpn.out]; exact HP.out)
            rw [h2, ← hy.out]
          have hap : Hid (applyErr im l = pn ∧ applyL im l = []) := by
            have e1 : applyErr im l = pn := by unfold applyErr; rw [if_neg (by rw [hes.out, HE.out]; simp), herr.out]
            exact ⟨e1, by unfold applyL; rw [e1, if_neg HP.out]⟩
          go_wp2
          go_ret3
          rw [hap.out.1, hap.out.2]
          exact ApplyRet.no hB3
      · have hkk : k = l.length := by omega
        subst hkk
        have hz0 := hz.out
        rw [List.take_length] at hz0
        have hap : Hid (applyErr im l = 0 ∧ applyL im l = jm) := by
          have e1 : applyErr im l = 0 := by unfold applyErr; rw [if_neg (by rw [hes.out, HE.out]; simp), errOf_zero hz0]
          exact ⟨e1, by unfold applyL; rw [e1, if_pos rfl, hjm.out, List.take_length]⟩
        obtain ⟨p1, p2⟩ := hown.out.parts
        have HRD := Lib.hid hown.out.reads
        clear hz0
        go_wp2
        go_ret3
        rw [hap.out.1, hap.out.2]
        refine ⟨B, vc, 0, ?_, p1, p2, HRD.out, hB⟩
        show Ending.returned (.tuple #[.slice B im.length vc, .int .i64 0, .int .i64 0]) = _
        rw [hjl.out]
  · have he1 : (es != 0) = true := by simp [he]
    have HE := Lib.hid he; clear he
    have hap : Hid (applyErr im l = es ∧ applyL im l = []) := by
      have e1 : applyErr im l = es := by unfold applyErr; rw [if_pos (by rw [hes.out]; exact HE.out), hes.out]
      exact ⟨e1, by unfold applyL; rw [e1, if_neg HE.out]⟩
    go_wp2
    go_ret3
    rw [hap.out.1, hap.out.2]
    exact ApplyRet.no hb1
end Go.Proofs.Ytnkmklnlaepdeaa

/-
  The law of the images behind Prune: the walk.
-/
import Derived.Test.YtnkmklnlaepdeaaYw
set_option linter.unusedVariables false
set_option linter.unusedSimpArgs false
set_option linter.unusedSectionVars false
set_option linter.unnecessarySimpa false
namespace Go.Proofs.Ytnkmklnlaepdeaa
open Go.RowKit Go.Shelf
attribute [local go_sem] Oper.semAt_some

def numB (num : Int) (x : Snp) : Bool := x.1 == num
set_option maxHeartbeats 1000000 in
theorem imgs1_any (bi : Nat) (num a t : Int) (D : Option Addr) (n d : Nat) (w : World) (q : Bool) (hbi : bi < w.heap.size) (hc : w.cell? ⟨bi, 0, none⟩ = some (.int .i64 num)) (hq : (a == num) = q) :
    Calls Try.prog 30 #[.agg #[.int .i64 a, .int .i64 t, .slice D n d], .pointer (some ⟨bi, 0, none⟩)] w fun e w' => e = .returned (.bool q) ∧ Below w.heap.size w w' := by
  obtain ⟨W0, hW0⟩ : ∃ W0, w.alloc (.cells #[.int .i64 a, .int .i64 t, .slice D n d] 63) = W0 := ⟨_, rfl⟩
  have hB0 : Below w.heap.size w W0 := by rw [← hW0]; exact ext_alloc (Below.refl _ _)
  have hr0 : W0.heap[w.heap.size]? = some (.cells #[.int .i64 a, .int .i64 t, .slice D n d] 63 (0, 0)) := by rw [← hW0]; exact heap_alloc_new _ _
  have hc0 : W0.cell? ⟨bi, 0, none⟩ = some (.int .i64 num) := (hB0.cell (p := ⟨bi, 0, none⟩) hbi).trans hc
  obtain ⟨_, x0, _, _⟩ := blk3 hr0
  have HQ := Lib.hid hq
  clear hr0 hc hq
  go_enter Try.func30, Try.ntmps30
  go_wp2_with fail
  go_ret
  exact ⟨ret_bool HQ.out, hB0⟩
set_option maxHeartbeats 1000000 in
theorem indexNum_any (A : Option Addr) (c : Nat) (l : List _) (w : World) (h1 : SlAt encSnp w (Bl w.heap.size) A l) (hl : l.length ≤ 9223372036854775807) (num : Int) (bi : Nat) (hcl : Hid (∀ W, Below w.heap.size w W → bi < W.heap.size ∧ W.cell? ⟨bi, 0, none⟩ = some (.int .i64 num))) :
    Calls Try.prog 51 #[.slice A l.length c, .func (.func 30) #[] #[.pointer (some ⟨bi, 0, none⟩)]] w fun e w' => (∃ i : Int, e = .returned (.int .i64 i) ∧ (decide (0 ≤ i) = l.any (numB num))) ∧ Below w.heap.size w w' := by
  have H1 : Hid (∀ w', Below w.heap.size w w' → SlAt encSnp w' (Bl w.heap.size) A l) := fun w' hb => h1.below hb
  clear h1
  go_enter Try.func51, Try.ntmps51
  go_wp2
  go_loopw [8] (fun i wr => ∃ k : Nat, k ≤ l.length ∧ i = .int .i64 k ∧ Below w.heap.size w wr ∧ Hid (∀ y ∈ l.take k, (numB num) y = false)) (fun i _ => l.length - (intOf i).toNat)
  case atStart => exact ⟨0, by omega, rfl, Below.refl _ _, by simp [Hid]⟩
  case round =>
    obtain ⟨k, hk, rfl, hB, hz⟩ := hrel
    by_cases hlt : k < l.length
    · have hnn : (0 : Int) ≤ k := by omega
      have hki : (k : Int) < l.length := by omega
      have hszr := hB.size
      obtain ⟨b, off, D, d, rfl, hb, g0, g1, g2, hD, hd1, hd2, hi1, hi2⟩ := (H1.out wr hB).snp hlt
      obtain ⟨q, hq⟩ : ∃ q, Hid ((numB num) l[k] = q) := ⟨(numB num) l[k], Lib.hid rfl⟩
      go_wp2_with fail
      refine (imgs1_any bi num l[k].1 l[k].2.1 D l[k].2.2.length d wr q (hcl.out wr hB).1 (hcl.out wr hB).2 hq.out).mono ?_
      rintro e w1 ⟨rfl, hb1⟩; clear g0 g1 g2
      have hB1 : Below w.heap.size w w1 := ext_trans hB hb1
      cases q with
      | true =>
        go_wp2
        go_ret
        refine ⟨⟨k, rfl, ?_⟩, hB1⟩
        rw [decide_eq_true hnn, eq_comm, List.any_eq_true]
        exact ⟨l[k], List.getElem_mem hlt, hq.out⟩
      | false =>
        go_wp2
        go_roundw
        case rel =>
          refine ⟨k + 1, hlt, by go_num, hB1, ?_⟩
          intro y hy
          rw [List.take_succ_eq_append_getElem hlt] at hy
          rcases List.mem_append.1 hy with hy | hy
          · exact hz.out y hy
          · rw [List.mem_singleton.1 hy]; exact hq.out
        case measure => simp [intOf]; omega
    · have hkk : k = l.length := by omega
      subst hkk
      go_wp2
      go_ret
      refine ⟨⟨-1, rfl, ?_⟩, hB⟩
      have := hz.out
      rw [List.take_length] at this
      rw [eq_comm]
      show l.any (numB num) = false
      rw [List.any_eq_false]
      intro y hy
      simp [this y hy]
theorem containsNum_any (A : Option Addr) (c : Nat) (l : List _) (w : World) (h1 : SlAt encSnp w (Bl w.heap.size) A l) (hl : l.length ≤ 9223372036854775807) (num : Int) (bi : Nat) (hcl : Hid (∀ W, Below w.heap.size w W → bi < W.heap.size ∧ W.cell? ⟨bi, 0, none⟩ = some (.int .i64 num))) (q : Bool) (hq : l.any (numB num) = q) :
    Calls Try.prog 29 #[.slice A l.length c, .func (.func 30) #[] #[.pointer (some ⟨bi, 0, none⟩)]] w fun e w' => e = .returned (.bool q) ∧ Below w.heap.size w w' := by
  have hc := Lib.hid (indexNum_any A c l w h1 hl num bi hcl)
  clear h1
  rw [hq] at hc
  clear hq
  go_enter Try.func29, Try.ntmps29
  go_wp2_with fail
  refine hc.out.mono ?_
  rintro e w1 ⟨⟨i, rfl, hi⟩, hb1⟩
  go_wp2
  go_ret
  exact ⟨rfl, hb1⟩
/-- what a pruning leaves, at each item -/
theorem prune_item {p : Pol} {im : Img} {sl : List Snp} {pin : List Int} {now : Int} {ml : List Snp} {gone : List Int} (hl : snE (im, sl) = 0) (hv : PInv im sl (stays p sl pin now) sl.length ml gone) {k : Nat} (hk : k < sl.length) :
    (gone.contains sl[k].1 = true ∧ ml.any (numB sl[k].1) = false ∧ pin.contains sl[k].1 = false) ∨ (gone.contains sl[k].1 = false ∧ ml.any (numB sl[k].1) = true ∧ findE (im, sl) sl[k].1 = 0 ∧ findE (im, ml) sl[k].1 = 0 ∧ sImage (im, ml) sl[k].1 = sImage (im, sl) sl[k].1) := by
  by_cases hg : sl[k].1 ∈ gone
  · refine Or.inl ⟨List.contains_iff_mem.2 hg, hv.absent hg, ?_⟩
    obtain ⟨j, _, _, hK, hn⟩ := (hv.gone _).1 hg
    unfold stays at hK
    rw [Bool.or_eq_false_iff, hn] at hK
    exact hK.2
  · obtain ⟨h1, h2, h3⟩ := hv.image hl hk hg
    refine Or.inr ⟨?_, h3, (find_at hl hk).1, h1, h2⟩
    cases hc : gone.contains sl[k].1 with
    | false => rfl
    | true => exact absurd (List.contains_iff_mem.1 hc) hg
theorem Calls.at_world {P : Program} {f : FuncId} {args : Array Value} {R : Ending → World → Prop} (w : World) (h : Calls P f args w R) : Calls P f args w R := h
theorem prAll {jm : Img} {ml : List Snp} {gone : List Int} {w w' : World} {e : Ending} {r : Int} (h : PruneRet (jm, ml) gone r w e w') : ∃ B vc D dc G gc, e = .returned (.tuple #[.agg #[.slice B jm.length vc, .slice D ml.length dc], .slice G gone.length gc, .int .i64 r]) ∧ ml.length ≤ dc ∧ SlAt (encSl encSec) w' (Nw w.heap.size w'.heap.size) B jm ∧ SlAt encSnp w' (Nw w.heap.size w'.heap.size) D ml ∧ SlAt encInt w' (Nw w.heap.size w'.heap.size) G gone ∧ Below w.heap.size w w' := by
  obtain ⟨B, vc, D, dc, G, gc, he, ⟨_, _, h1⟩, ⟨a1, _, h2⟩, ⟨_, _, h3⟩, h4⟩ := h
  exact ⟨B, vc, D, dc, G, gc, he, a1, h1, h2, h3, h4⟩
theorem pruneE_ok {p : Pol} {s : Sns} {now : Int} (h : pruneE p s now = 0) : snE s = 0 := by
  unfold pruneE at h
  split at h
  · rename_i h1; exact absurd h h1
  · split at h
    · rename_i h1; exact absurd h h1
    · rename_i h1
      have h1 : ¬ snE s ≠ 0 := h1
      omega
theorem prune_bad {p : Pol} {s : Sns} {pin : List Int} {now : Int} (h : pruneE p s now ≠ 0) : pruneS p s pin now = zSns ∧ goneS p s pin now = [] := by
  unfold pruneS goneS; rw [if_neg h, if_neg h]; exact ⟨rfl, rfl⟩
theorem prune_good {p : Pol} {im : Img} {sl : List Snp} {pin : List Int} {now : Int} (h : pruneE p (im, sl) now = 0) : ∃ ml gone, pruneS p (im, sl) pin now = (im, ml) ∧ goneS p (im, sl) pin now = gone ∧ PInv im sl (stays p sl pin now) sl.length ml gone := by
  have h1 := pruneT_inv (K := stays p sl pin now) (pruneE_ok h) sl.length (Nat.le_refl _)
  refine ⟨(pruneT im (stays p sl pin now) sl sl.length).1, (pruneT im (stays p sl pin now) sl sl.length).2, ?_, ?_, h1⟩
  · unfold pruneS; rw [if_pos h]
  · unfold goneS; rw [if_pos h]
set_option maxHeartbeats 8000000 in
set_option maxRecDepth 100000 in
theorem rimages_any (A B D X0 X1 : Option Addr) (c cb cd c0 c1 n nb nd n0' n1' : Nat) (nw : Int) (l : List Rule) (im : Img) (sl : List Snp) (pin xs : List Int) (w : World) (hn : l.length = n) (hnb : im.length = nb) (hnd : sl.length = nd) (hn0 : pin.length = n0') (hn1 : xs.length = n1')
    (h1 : SlAt encExt w (Bl w.heap.size) A l) (h2 : SlAt (encSl encSec) w (Bl w.heap.size) B im) (h3 : SlAt encSnp w (Bl w.heap.size) D sl) (h4 : SlAt encInt w (Bl w.heap.size) X0 pin) (h5 : SlAt encInt w (Bl w.heap.size) X1 xs) (hl : n ≤ 9223372036854775807) (hcb : nb ≤ cb ∧ cb ≤ maxLen) (hcd : nd ≤ cd ∧ cd ≤ maxLen) (hl4 : n0' ≤ 9223372036854775807) (hl5 : n1' ≤ 9223372036854775807) :
    Calls Try.prog 9 #[.agg #[.int .i64 nw, .slice A n c], .agg #[.slice B nb cb, .slice D nd cd], .agg #[.slice X0 n0' c0, .slice X1 n1' c1]] w (LawRet w) := by
  subst hn hnb hnd hn0
  have H1 := Lib.hid h1; have H2 := Lib.hid h2; have H3 := Lib.hid h3; have H4 := Lib.hid h4; have H5 := Lib.hid h5; clear h1 h2 h3 h4 h5
  have HCB := Lib.hid hcb; have HCD := Lib.hid hcd
  have hlb : im.length ≤ 9223372036854775807 := by unfold maxLen at hcb; omega
  have hld : sl.length ≤ 9223372036854775807 := by unfold maxLen at hcd; omega
  clear hcb hcd
  obtain ⟨m0, hm0⟩ : ∃ m0, w.heap.size = m0 := ⟨_, rfl⟩
  obtain ⟨W0, hW0⟩ : ∃ W0, ((w.alloc (.cells #[.int .i64 nw, .slice A l.length c] 24)).alloc (.cells #[.slice B im.length cb, .slice D sl.length cd] 54)).alloc (.cells #[.slice X0 pin.length c0, .slice X1 n1' c1] 55) = W0 := ⟨_, rfl⟩
  have hB0 : Below w.heap.size w W0 := by rw [← hW0]; exact ext_alloc (ext_alloc (ext_alloc (Below.refl _ _)))
  have hs0 : Hid (W0.heap.size = m0 + 3) := by rw [Hid, ← hW0, ← hm0]; simp
  have hr0 : W0.heap[m0]? = some (.cells #[.int .i64 nw, .slice A l.length c] 24 (0, 0)) := by rw [← hW0, ← hm0]; exact (Below.heap_alloc _ _ _ (by simp; omega)).trans ((Below.heap_alloc _ _ _ (by simp)).trans (heap_alloc_new _ _))
  have hr1 : W0.heap[m0 + 1]? = some (.cells #[.slice B im.length cb, .slice D sl.length cd] 54 (0, 0)) := by rw [← hW0, ← hm0]; exact (Below.heap_alloc _ _ _ (by simp)).trans (heap_new2 _ _ _)
  have hr2 : W0.heap[m0 + 2]? = some (.cells #[.slice X0 pin.length c0, .slice X1 n1' c1] 55 (0, 0)) := by rw [← hW0, ← hm0]; exact heap_new3 _ _ _ _
  have HC : Hid (∀ W, Below W0.heap.size W0 W → (W.cell? ⟨m0, 0, none⟩ = some (.int .i64 nw) ∧ W.cell? ⟨m0, 1, none⟩ = some (.slice A l.length c)) ∧ (W.cell? ⟨m0 + 1, 0, none⟩ = some (.slice B im.length cb) ∧ W.cell? ⟨m0 + 1, 1, none⟩ = some (.slice D sl.length cd)) ∧ W.cell? ⟨m0 + 2, 0, none⟩ = some (.slice X0 pin.length c0) ∧ W.cell? ⟨m0 + 2, 1, none⟩ = some (.slice X1 n1' c1)) := fun W hb => by
    have := hs0.out
    obtain ⟨a, b, _⟩ := blk2 ((hb.block m0 (by omega)).trans hr0)
    obtain ⟨a', b', _⟩ := blk2 ((hb.block (m0 + 1) (by omega)).trans hr1)
    obtain ⟨a'', b'', _⟩ := blk2 ((hb.block (m0 + 2) (by omega)).trans hr2)
    exact ⟨⟨a, b⟩, ⟨a', b'⟩, a'', b''⟩
  obtain ⟨⟨p0, p1⟩, ⟨p2, p3⟩, p4, p5⟩ := HC.out W0 (Below.refl _ _)
  have p4' : W0.cell? ⟨m0 + 1 + 1, 0, none⟩ = some (.slice X0 pin.length c0) := p4
  have p5' : W0.cell? ⟨m0 + 1 + 1, 1, none⟩ = some (.slice X1 n1' c1) := p5
  have HW0 := Lib.hid hW0
  clear hr0 hr1 hr2 hW0
  go_enter Try.func9, Try.ntmps9
  go_upto_region 1 with (fail)
  try rw [hm0]
  rw [HW0.out]
  by_cases h40 : 8 < l.length
  · have h40' : (8 : Int) < l.length := by omega
    go_wp2_with fail
    refine (awake38_any _).mono ?_
    rintro e wz ⟨rfl, hbz⟩
    go_wp2
    go_ret
    exact ⟨rfl, ext_trans hB0 hbz⟩
  have h40' : ¬ (8 : Int) < l.length := by omega
  obtain ⟨q, hq⟩ : ∃ q, Hid (fewS (im, sl) = q) := ⟨_, Lib.hid rfl⟩
  have HFW := Lib.hid (snFew_any B D cb cd im.length sl.length im sl q W0 rfl rfl hq.out (H2.out.fwd hB0) (H3.out.fwd hB0) hlb hld)
  go_wp2_with fail
  refine HFW.out.mono ?_
  rintro e w1 ⟨rfl, hb1⟩
  have hB1 : Below w.heap.size w w1 := ext_trans hB0 hb1
  clear HFW p0 p1 p2 p3 p4 p5 p4' p5'
  obtain ⟨⟨p0, p1⟩, ⟨p2, p3⟩, p4, p5⟩ := HC.out w1 hb1
  have p4' : w1.cell? ⟨m0 + 1 + 1, 0, none⟩ = some (.slice X0 pin.length c0) := p4
  have p5' : w1.cell? ⟨m0 + 1 + 1, 1, none⟩ = some (.slice X1 n1' c1) := p5
  cases q with
  | false =>
    go_wp2_with fail
    refine (awake38_any _).mono ?_
    rintro e wz ⟨rfl, hbz⟩
    go_wp2
    go_ret
    exact ⟨rfl, ext_trans hB1 hbz⟩
  | true =>
  by_cases h20 : 20 < pin.length
  · have h20' : (20 : Int) < pin.length := by omega
    go_wp2_with fail
    refine (awake38_any _).mono ?_
    rintro e wz ⟨rfl, hbz⟩
    go_wp2
    go_ret
    exact ⟨rfl, ext_trans hB1 hbz⟩
  have h20' : ¬ (20 : Int) < pin.length := by omega
  by_cases hx1 : n1' = 1
  case neg =>
    have hx1' : ((n1' : Int) != 1) = true := by simp; omega
    clear hx1
    go_wp2_with fail
    refine (awake38_any _).mono ?_
    rintro e wz ⟨rfl, hbz⟩
    go_wp2
    go_ret
    exact ⟨rfl, ext_trans hB1 hbz⟩
  subst hx1
  obtain ⟨hLM, hsl30, him9⟩ := fewS_lim hq.out
  have HLM := Lib.hid hLM
  have HSV : Hid (∀ x ∈ sl, x.2.2.length ≤ 50000) := fun x hx => by have := few_sav hq.out x hx; omega
  obtain ⟨b, off, hXe, hbx, gx, hix⟩ := (H5.out.fwd hB1).int (k := 0) (by omega)
  clear hix
  obtain ⟨now, hnow⟩ : ∃ now, xs[0]'(by omega) = now := ⟨_, rfl⟩
  rw [hnow] at gx
  have hbxl : b < w1.heap.size := hbx
  subst hXe
  clear hnow hLM hbx hn1
  obtain ⟨pe, hpe⟩ : ∃ q, Hid (pruneE (nw, l) (im, sl) now = q) := ⟨_, Lib.hid rfl⟩
  obtain ⟨⟨jm, ml⟩, hps⟩ : ∃ s, pruneS (nw, l) (im, sl) pin now = s := ⟨_, rfl⟩
  obtain ⟨gone, hgn⟩ : ∃ g, goneS (nw, l) (im, sl) pin now = g := ⟨_, rfl⟩
  have HPR := Lib.hid (fun W (hb : Below w1.heap.size w1 W) => prune_any A B D X0 c cb cd c0 l.length im.length sl.length pin.length nw now l im sl pin W rfl rfl rfl rfl (H1.out.fwd (ext_trans hB1 hb)) (H2.out.fwd (ext_trans hB1 hb)) (H3.out.fwd (ext_trans hB1 hb)) (H4.out.fwd (ext_trans hB1 hb)) HLM.out HSV.out hl hl4 HCB.out HCD.out)
  rw [hpe.out, hps, hgn] at HPR
  have HPS := Lib.hid hps
  have HGN := Lib.hid hgn
  have HCX : Hid (∀ W, Below w1.heap.size w1 W → ((W.cell? ⟨m0, 0, none⟩ = some (.int .i64 nw) ∧ W.cell? ⟨m0, 1, none⟩ = some (.slice A l.length c)) ∧ (W.cell? ⟨m0 + 1, 0, none⟩ = some (.slice B im.length cb) ∧ W.cell? ⟨m0 + 1, 1, none⟩ = some (.slice D sl.length cd)) ∧ W.cell? ⟨m0 + 1 + 1, 0, none⟩ = some (.slice X0 pin.length c0) ∧ W.cell? ⟨m0 + 1 + 1, 1, none⟩ = some (.slice (some ⟨b, off, none⟩) 1 c1)) ∧ W.cell? ⟨b, off, none⟩ = some (.int .i64 now)) := fun W hb => by
    refine ⟨HC.out W (ext_trans hb1 hb), (hb.cell (p := ⟨b, off, none⟩) hbxl).trans (by simpa using gx)⟩
  have hw10 : Below w1.heap.size w1 w1 := Below.refl _ _
  go_upto_region 3 with (fail)
  clear p0 p1 p2 p3 p4 p5 p4' p5' gx hps hgn
  have hd1a : Below w1.heap.size w1 w1.drew := hw10.drew
  have hd2a : Below w1.heap.size w1 (w1.alloc (.cells #[.slice none 0 0, .slice none 0 0] 54)).drew := (ext_alloc hw10).drew
  have hrowa : ((w1.alloc (.cells #[.slice none 0 0, .slice none 0 0] 54)).drew).heap[w1.heap.size]? = some (.cells #[.slice none 0 0, .slice none 0 0] 54 (0, 0)) := heap_alloc_new _ _
  have hrla : w1.heap.size < ((w1.alloc (.cells #[.slice none 0 0, .slice none 0 0] 54)).drew).heap.size := (Array.getElem?_eq_some_iff.1 hrowa).1
  have hc0a := HCX.out w1.drew hd1a
  have hw1za := hw10.size
  go_cut [7, 8, 9] (fun v7 v8 v9 wx => ∃ (ba : Nat) (Ba Da G : Option Addr) (va da gc : Nat), v7 = .pointer (some ⟨ba, 0, none⟩) ∧ v8 = .slice G gone.length gc ∧ v9 = .int .i64 pe ∧ Hid (wx.heap[ba]? = some (.cells #[.slice Ba jm.length va, .slice Da ml.length da] 54 (0, 0))) ∧ Hid (ml.length ≤ da) ∧ Hid (SlAt (encSl encSec) wx (Bl wx.heap.size) Ba jm) ∧ Hid (SlAt encSnp wx (Bl wx.heap.size) Da ml) ∧ Hid (SlAt encInt wx (Bl wx.heap.size) G gone) ∧ Below w1.heap.size w1 wx)
  case first =>
    go_region_held3 (fun W => ((W.cell? ⟨m0, 0, none⟩ = some (.int .i64 nw) ∧ W.cell? ⟨m0, 1, none⟩ = some (.slice A l.length c)) ∧ (W.cell? ⟨m0 + 1, 0, none⟩ = some (.slice B im.length cb) ∧ W.cell? ⟨m0 + 1, 1, none⟩ = some (.slice D sl.length cd)) ∧ W.cell? ⟨m0 + 1 + 1, 0, none⟩ = some (.slice X0 pin.length c0) ∧ W.cell? ⟨m0 + 1 + 1, 1, none⟩ = some (.slice (some ⟨b, off, none⟩) 1 c1)) ∧ W.cell? ⟨b, off, none⟩ = some (.int .i64 now)) (first | exact hc0a | exact HCX.out _ hd2a | exact HCX.out _ hx5 | exact HCX.out _ (ext_alloc hx5) | exact HCX.out _ ((hx5.setCell (p := ⟨w1.heap.size, 0, none⟩) hw1za _).setCell (p := ⟨w1.heap.size, 1, none⟩) hw1za _) | go_keep) (first | (go_at_call 26; (with_reducible refine Calls.at_world w1.drew ?_); refine (HPR.out w1.drew hd1a).mono ?_; rintro e w5 he; obtain ⟨Ba, va, Da, da, G, gc, rfl, hda, h6, h7, h8, hb5⟩ := prAll he; have hx5 : Below w1.heap.size w1 w5 := ext_trans hd1a hb5; have hy5 : Below w1.heap.size w1 w5 := ext_trans (Below.refl _ _).drew hb5; have hway : True := trivial) | (go_at_call 26; (with_reducible refine Calls.at_world (w1.alloc (.cells #[.slice none 0 0, .slice none 0 0] 54)).drew ?_); refine (HPR.out _ hd2a).mono ?_; rintro e w5 he; obtain ⟨Ba, va, Da, da, G, gc, rfl, hda, h6, h7, h8, hb5⟩ := prAll he; have hx5 : Below w1.heap.size w1 w5 := ext_trans hd2a hb5; have hy5 : Below w1.heap.size w1 w5 := ext_trans (ext_alloc (Below.refl _ _)).drew hb5; have hway := (hb5.block w1.heap.size hrla).trans hrowa; obtain ⟨y0, y1, yf⟩ := blk2 hway) | fail)
    all_goals
      (try go_wp2)
      go_meet
      first
      | exact ⟨w5.heap.size, Ba, Da, G, va, da, gc, rfl, rfl, rfl, heap_alloc_new _ _, hda, (h6.more (S' := Bl w5.heap.size) (fun g hg => hg.2)).fwd (ext_alloc (Below.refl _ _)), (h7.more (S' := Bl w5.heap.size) (fun g hg => hg.2)).fwd (ext_alloc (Below.refl _ _)), (h8.more (S' := Bl w5.heap.size) (fun g hg => hg.2)).fwd (ext_alloc (Below.refl _ _)), ext_alloc hy5⟩
      | exact ⟨w1.heap.size, Ba, Da, G, va, da, gc, rfl, rfl, rfl, blk2_set hway (.slice Ba jm.length va) (.slice Da ml.length da), hda, (h6.nw2 (b := w1.heap.size) (lo := w1.heap.size) (fun g hg => ⟨by have := hg.1; omega, by have := hg.1; omega, hg.2⟩) (.slice Ba jm.length va) (.slice Da ml.length da)).more (fun g hg => hg.2), (h7.nw2 (b := w1.heap.size) (lo := w1.heap.size) (fun g hg => ⟨by have := hg.1; omega, by have := hg.1; omega, hg.2⟩) (.slice Ba jm.length va) (.slice Da ml.length da)).more (fun g hg => hg.2), (h8.nw2 (b := w1.heap.size) (lo := w1.heap.size) (fun g hg => ⟨by have := hg.1; omega, by have := hg.1; omega, hg.2⟩) (.slice Ba jm.length va) (.slice Da ml.length da)).more (fun g hg => hg.2), (hy5.setCell (p := ⟨w1.heap.size, 0, none⟩) (Nat.le_refl _) _).setCell (p := ⟨w1.heap.size, 1, none⟩) (Nat.le_refl _) _⟩
  case rest =>
  obtain ⟨ba, Ba, Da, G, va, da, gc, rfl, rfl, rfl, hr6h, hda, h6, h7, h8, hx6⟩ := hcut
  obtain ⟨W6, rfl⟩ : ∃ W6 : World, W6 = wc := ⟨_, rfl⟩
  have hr6 := hr6h.out
  have hbl6 : ba < W6.heap.size := (Array.getElem?_eq_some_iff.1 hr6).1
  have hB6 := ext_trans hB1 hx6
  by_cases hx0 : pe = 0
  case neg =>
    obtain ⟨e1, e2⟩ := prune_bad (pin := pin) (show pruneE (nw, l) (im, sl) now ≠ 0 by rw [hpe.out]; exact hx0)
    rw [HPS.out] at e1
    rw [HGN.out] at e2
    obtain ⟨rfl, rfl⟩ := Prod.mk.inj e1
    subst e2
    have hx0' : (pe != 0) = true := by simp [hx0]
    obtain ⟨y0, y1, _⟩ := blk2 hr6
    clear e1 hx0 hr6h hr6
    go_wp2_with fail
    refine (awake38_any _).mono ?_
    rintro e wz ⟨rfl, hbz⟩
    go_wp2
    go_ret
    exact ⟨rfl, ext_trans hB6 hbz⟩
  have hx0' : (pe != 0) = false := by simp [hx0]
  have HPE : Hid (pruneE (nw, l) (im, sl) now = 0) := hpe.out.trans hx0
  obtain ⟨ml', gone', e1, e2, hinv⟩ := prune_good (pin := pin) HPE.out
  rw [HPS.out] at e1
  rw [HGN.out] at e2
  obtain ⟨e3, e4⟩ := Prod.mk.inj e1
  have e5 := e3.symm
  subst e5 e4 e2
  have HSE := Lib.hid (pruneE_ok HPE.out)
  have HINV := Lib.hid hinv
  have hlen : ml.length + gone.length = sl.length := hinv.len
  have hlmI : (ml.length : Int) + gone.length = sl.length := by omega
  have hml30 : ml.length ≤ 30 := by omega
  have hgo30 : gone.length ≤ 30 := by omega
  have HA1 := h6
  have HA2 := h7
  have HA3 := h8
  clear e1 e3 hx0 hpe hinv hlen HPR
  have HV : Hid (∀ W, Below W6.heap.size W6 W → ((W.cell? ⟨m0 + 1, 0, none⟩ = some (.slice B im.length cb) ∧ W.cell? ⟨m0 + 1, 1, none⟩ = some (.slice D sl.length cd)) ∧ W.cell? ⟨m0 + 1 + 1, 0, none⟩ = some (.slice X0 pin.length c0)) ∧ W.cell? ⟨ba, 0, none⟩ = some (.slice Ba im.length va) ∧ W.cell? ⟨ba, 1, none⟩ = some (.slice Da ml.length da)) := fun W hb => by
    obtain ⟨⟨_, h2, h3, _⟩, _⟩ := HCX.out W (ext_trans hx6 hb)
    obtain ⟨a, b', _⟩ := blk2 ((hb.block ba hbl6).trans hr6)
    exact ⟨⟨h2, h3⟩, a, b'⟩
  obtain ⟨⟨⟨p0, p1⟩, p2⟩, q0, q1⟩ := HV.out W6 (Below.refl _ _)
  have hEQ : (im == im) = true := beq_self_eq_true _
  have HS1 := Lib.hid (imgSame_any Ba B va cb im.length im.length im im W6 rfl rfl HA1.out (H2.out.fwd hB6) hlb hlb true hEQ)
  clear h6 h7 h8 hEQ hr6h
  go_wp2_with fail
  refine HS1.out.mono ?_
  rintro e w7 ⟨rfl, hb7⟩
  have hw7 : (ml.length : Int) + gone.length = sl.length := hlmI
  have hne7 : (((ml.length : Int) + gone.length) != (sl.length : Int)) = false := by simp [hlmI]
  clear p0 p1 p2 q0 q1 HS1
  obtain ⟨⟨⟨p0, p1⟩, p2⟩, q0, q1⟩ := HV.out w7 hb7
  have HCK := Lib.hid (snCheck_any Ba Da va da im.length ml.length im ml 0 w7 rfl rfl HINV.out.ok (HA1.out.fwd hb7) (HA2.out.fwd hb7) (by omega) (by omega))
  go_wp2_with fail
  refine HCK.out.mono ?_
  rintro e w8 ⟨rfl, hb8⟩
  have hb68 : Below W6.heap.size W6 w8 := ext_trans hb7 hb8
  clear p0 p1 p2 q0 q1 HCK
  obtain ⟨⟨⟨p0, p1⟩, p2⟩, q0, q1⟩ := HV.out w8 hb68
  obtain ⟨n8, hn8⟩ : ∃ n, w8.heap.size = n := ⟨_, rfl⟩
  have HF8 : Hid (∀ W, Below n8 w8 W → Below W6.heap.size W6 W) := fun W hb => ext_trans hb68 (by rw [hn8]; exact hb)
  have hlimm := HINV.out.lim HLM.out HSV.out
  have HLMM := Lib.hid hlimm.1
  clear hlimm
  go_wp2_with fail
  clear p0 p1 p2 q0 q1
  go_loopw [94] (fun i wr => ∃ k : Nat, k ≤ sl.length ∧ i = .int .i64 k ∧ Below n8 w8 wr) (fun i _ => sl.length - (intOf i).toNat)
  case atStart => exact ⟨0, by omega, rfl, Below.refl _ _⟩
  case round =>
    obtain ⟨wo, rfl⟩ : ∃ wo : World, wo = wr := ⟨_, rfl⟩
    obtain ⟨k, hk, rfl, hB⟩ := hrel
    have hbo := HF8.out wo hB
    have hbwo := ext_trans hB6 hbo
    by_cases hlt : k < sl.length
    · obtain ⟨b2, off2, Dk, dk, hDe, hb2, g0, g1, g2, _, _, _, hin, _⟩ := (H3.out.fwd hbwo).snp hlt
      have hit := prune_item HSE.out HINV.out hlt
      obtain ⟨x, hx⟩ : ∃ x, sl[k] = x := ⟨_, rfl⟩
      rw [hx] at g0 g1 g2 hin hit
      obtain ⟨num, tm, sv⟩ := x
      simp only at g0 g1 g2 hin hit
      have HIT := Lib.hid hit
      have hki : (k : Int) < sl.length := by omega
      have hnn : (0 : Int) ≤ k := by omega
      have hszo := hB.size
      obtain ⟨V, hV⟩ : ∃ V, wo.alloc (.cells #[.int .i64 num, .int .i64 tm, .slice Dk sv.length dk] 63) = V := ⟨_, rfl⟩
      obtain ⟨bi, hbi⟩ : ∃ bi, wo.heap.size = bi := ⟨_, rfl⟩
      have hbV : Below wo.heap.size wo V := by rw [← hV]; exact ext_alloc (Below.refl _ _)
      have hrV : V.heap[bi]? = some (.cells #[.int .i64 num, .int .i64 tm, .slice Dk sv.length dk] 63 (0, 0)) := by rw [← hV, ← hbi]; exact heap_alloc_new _ _
      have hbiV : bi < V.heap.size := (Array.getElem?_eq_some_iff.1 hrV).1
      have hBV : Below n8 w8 V := hB.trans (hbV.mono (by omega))
      have hVz := hBV.size
      have HFV : Hid (∀ W, Below V.heap.size V W → W.cell? ⟨bi, 0, none⟩ = some (.int .i64 num) ∧ (((W.cell? ⟨m0 + 1, 0, none⟩ = some (.slice B im.length cb) ∧ W.cell? ⟨m0 + 1, 1, none⟩ = some (.slice D sl.length cd)) ∧ W.cell? ⟨m0 + 1 + 1, 0, none⟩ = some (.slice X0 pin.length c0)) ∧ W.cell? ⟨ba, 0, none⟩ = some (.slice Ba im.length va) ∧ W.cell? ⟨ba, 1, none⟩ = some (.slice Da ml.length da)) ∧ Below n8 w8 W) := fun W hb => by
        have hx : Below n8 w8 W := hBV.trans (hb.mono (by omega))
        obtain ⟨x0, _, _, _⟩ := blk3 ((hb.block bi hbiV).trans hrV)
        exact ⟨x0, HV.out W (HF8.out W hx), hx⟩
      have HCL : Hid (∀ W, Below V.heap.size V W → bi < W.heap.size ∧ W.cell? ⟨bi, 0, none⟩ = some (.int .i64 num)) := fun W hb => ⟨by have := hb.size; omega, (HFV.out W hb).1⟩
      have hbV6 := HF8.out V hBV
      obtain ⟨qn, hqn⟩ : ∃ q, Hid (ml.any (numB num) = q) := ⟨_, Lib.hid rfl⟩
      have HCN := Lib.hid (containsNum_any Da da ml V (HA2.out.fwd hbV6) (by omega) num bi HCL qn hqn.out)
      subst hDe
      clear hx hit
      obtain ⟨v0, ⟨⟨⟨p0, p1⟩, p2⟩, q0, q1⟩, _⟩ := HFV.out V (Below.refl _ _)
      go_wp2_with fail
      refine HCN.out.mono ?_
      rintro e w9 ⟨rfl, hb9⟩
      have hb69 := HF8.out w9 (HFV.out w9 hb9).2.2
      clear v0 p0 p1 p2 q0 q1 HCN g0 g1 g2
      obtain ⟨v0, ⟨⟨⟨p0, p1⟩, p2⟩, q0, q1⟩, hB9⟩ := HFV.out w9 hb9
      obtain ⟨qg, hqg⟩ : ∃ q, Hid (gone.contains num = q) := ⟨_, Lib.hid rfl⟩
      have HCG := Lib.hid (containsI_any G gc gone.length gone num qg w9 rfl (HA3.out.fwd hb69) (by omega) hqg.out)
      go_wp2_with fail
      refine HCG.out.mono ?_
      rintro e w10 ⟨rfl, rfl⟩
      clear HCG
      rcases HIT.out with ⟨t1, t2, t3⟩ | ⟨t1, t2, t3, t4, t5⟩
      · have hG : Hid (qg = true ∧ qn = false) := ⟨hqg.out.symm.trans t1, hqn.out.symm.trans t2⟩
        obtain ⟨rfl, rfl⟩ := hG.out
        have HCP := Lib.hid (containsI_any X0 c0 pin.length pin num false w10 rfl (H4.out.fwd (ext_trans hB6 hb69)) hl4 t3)
        clear t1 t2 t3 HIT
        go_wp2_with fail
        refine HCP.out.mono ?_
        rintro e w11 ⟨rfl, rfl⟩
        go_wp2_with fail
        go_roundw
        case rel => exact ⟨k + 1, hlt, by go_num, hB9⟩
        case measure => simp [intOf]; omega
      · have hG : Hid (qg = false ∧ qn = true) := ⟨hqg.out.symm.trans t1, hqn.out.symm.trans t2⟩
        obtain ⟨rfl, rfl⟩ := hG.out
        obtain ⟨r, hr⟩ : ∃ r, Hid (sImage (im, sl) num = r) := ⟨_, Lib.hid rfl⟩
        have HI1 := Lib.hid (snImage_any B (some ⟨b2, off2, none⟩) cb cd im.length sl.length im sl num w10 rfl rfl (H2.out.fwd (ext_trans hB6 hb69)) (H3.out.fwd (ext_trans hB6 hb69)) HLM.out HCD.out.1 r hr.out 0 t3)
        have HR2 : Hid (sImage (im, ml) num = r) := t5.trans hr.out
        have HT4 := Lib.hid t4
        clear t1 t2 t3 t4 t5 HIT
        go_wp2_with fail
        refine HI1.out.mono ?_
        rintro e w11 ⟨I1, ic1, rfl, hi1, hi1', hs11, hb11⟩
        have hb9' := ext_trans hb9 hb11
        have hb6b := HF8.out w11 (HFV.out w11 hb9').2.2
        have HI2 := Lib.hid (snImage_any Ba Da va da im.length ml.length im ml num w11 rfl rfl (HA1.out.fwd hb6b) (HA2.out.fwd hb6b) HLMM.out hda.out r HR2.out 0 HT4.out)
        clear v0 p0 p1 p2 q0 q1 HI1
        obtain ⟨v0, ⟨⟨⟨p0, p1⟩, p2⟩, q0, q1⟩, _⟩ := HFV.out w11 hb9'
        go_wp2_with fail
        refine HI2.out.mono ?_
        rintro e w12 ⟨I2, ic2, rfl, hi2, hi2', hs12, hb12⟩
        have hb9'' := ext_trans hb9' hb12
        have hEQ : (r == r) = true := beq_self_eq_true _
        have HSM := Lib.hid (imgSame_any I1 I2 ic1 ic2 r.length r.length r r w12 rfl rfl ((hs11.more (S' := Bl w11.heap.size) (fun g hg => hg.2)).fwd hb12) (hs12.more (fun g hg => hg.2)) (by unfold maxLen at hi1'; omega) (by unfold maxLen at hi1'; omega) true hEQ)
        clear hs11 hs12 hEQ HI2 v0 p0 p1 p2 q0 q1
        go_wp2_with fail
        refine HSM.out.mono ?_
        rintro e w13 ⟨rfl, hb13⟩
        have hB13 := (HFV.out w13 (ext_trans hb9'' hb13)).2.2
        go_wp2_with fail
        go_roundw
        case rel => exact ⟨k + 1, hlt, by go_num, hB13⟩
        case measure => simp [intOf]; omega
    · have hkI : ¬ (k : Int) < sl.length := by omega
      go_wp2_with fail
      refine (awake38_any _).mono ?_
      rintro e wz ⟨rfl, hbz⟩
      go_wp2
      go_ret
      exact ⟨rfl, ext_trans hbwo hbz⟩
end Go.Proofs.Ytnkmklnlaepdeaa

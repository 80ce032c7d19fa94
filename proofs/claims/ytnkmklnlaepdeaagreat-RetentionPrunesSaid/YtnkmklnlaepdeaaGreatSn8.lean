/-
  slices.Concat over writes; (*item).save: the walks.
  snapshot.contents: the walk.
  snapshot.Apply: the walk.
  snapshot.Apply: the walk.
-/
import Derived.Test.YtnkmklnlaepdeaaGreatKf
import Derived.Lib.AppendZerosOnto
set_option linter.unusedVariables false
set_option linter.unusedSimpArgs false
set_option linter.unusedSectionVars false
set_option linter.unnecessarySimpa false
namespace Go.Proofs.YtnkmklnlaepdeaaGreat
open Go.RowKit Go.Shelf
attribute [local go_sem] Oper.semAt_some

theorem growWr (n : Nat) (w : World) (hn : n ≤ 100000) : Calls Tryz.prog 89 #[.slice none 0 0, .int .i64 n] w fun e w' => ∃ A c, e = .returned (.slice A 0 c) ∧ (∀ S : Nat → Prop, (∀ b, S b → b < w.heap.size) → Own encWr w' w.heap.size 74 S (.slice A 0 c) []) ∧ Below w.heap.size w w' := by
  by_cases h0 : n = 0
  · subst h0
    go_enter Tryz.func89, Tryz.ntmps89
    go_wp2
    go_ret
    exact ⟨none, 0, rfl, fun _ _ => Own.nil_, Below.refl _ _⟩
  · obtain ⟨i, z, hi, hz, hsz, hby, hzs⟩ := (tyWrs).info
    have hold : (Builtin.firstCells i.size 0 (.slice none 0 0)).run Tryz.prog w.drew = .ok #[] w.drew := run_firstCells_none w.drew i.size 0 0 0
    have hg0 : 0 < 0 + n := by omega
    have hb1 : n * i.bytes ≤ 281474976710656 := by rw [hby]; omega
    have hb2 : (0 + n) * i.bytes ≤ 140737488355328 := by rw [hby]; omega
    have hr := fun ty => Lib.run_append_grow_zeros (P := Tryz.prog) w 43 3 ty 74 i z .i64 .i64 Tryz.underlying43 Tryz.underlying3 hi hz none 0 0 [] hold n (by omega) (by rw [hsz]; decide) hg0 (by omega) hb1 (growslice_fits hg0 hb2)
    have hG1 := grownCap_ge w (0 + n) 0 74
    have hG2 := grownCap_le_maxLen w (0 + n) 0 74 (by unfold maxLen; omega)
    obtain ⟨G, hG⟩ : ∃ G, grownCap w (0 + n) 0 74 = G := ⟨_, rfl⟩
    rw [hG] at hr hG1 hG2
    obtain ⟨cur, hcur⟩ : ∃ cur : Array Value, (([] : List Value).toArray ++ Builtin.zeroCells z.cells n ++ Builtin.zeroCells z.cells (G - (0 + n))) = cur := ⟨_, rfl⟩
    have hsize : cur.size = G * (encWr).size := by
      rw [← hcur, Array.size_append, Array.size_append, size_zeroCells, size_zeroCells, hzs]
      show 0 + n * (encWr).size + (G - (0 + n)) * (encWr).size = G * (encWr).size
      rw [Nat.zero_add, ← Nat.add_mul, show n + (G - (0 + n)) = G by omega]
    rw [hcur] at hr
    have hO : Hid (∀ S : Nat → Prop, (∀ b, S b → b < w.heap.size) → Own encWr (w.drew.alloc (.cells cur 74)) w.heap.size 74 S (.slice (some ⟨w.heap.size, 0, none⟩) 0 G) []) := fun S hS =>
      Own.make0 (w := w.drew) (Nat.le_refl _) hG2 hsize (fun h => Nat.lt_irrefl _ (hS _ h))
    have e1 : ((0 + n : Nat) : Int) = (n : Int) := by simp
    have hn0 : (0 : Int) < n := by omega
    simp only [Nat.zero_add] at hr
    have hGi : (n : Int) ≤ G := by omega
    unfold maxLen at hG2
    clear hi hz hsz hby hzs hold hb1 hb2 hG hcur hsize hG1
    go_enter Tryz.func89, Tryz.ntmps89
    go_wp2_with (at_builtin; refine Lib.wpList_append_run _ rfl _ _ _ _ rfl _ _ rfl rfl _ _ (hr _) ?_)
    all_goals (go_ret; exact ⟨_, _, rfl, hO.out, (Below.refl _ w).drew.alloc (Nat.le_refl _) _⟩)
set_option maxHeartbeats 1000000 in
theorem concatWr (A : Option Addr) (c n N : Nat) (ls : List (List _)) (w : World) (hn : ls.length = n) (h1 : SlAt (encSl encWr) w (Bl w.heap.size) A ls) (hN : ls.flatten.length = N) (hl : N ≤ 100000) (hn4 : n ≤ 100000) :
    Calls Tryz.prog 72 #[.slice A n c] w fun e w' => ∃ A c, e = .returned (.slice A N c) ∧ Own encWr w' w.heap.size 74 (Bl w.heap.size) (.slice A N c) ls.flatten ∧ Below w.heap.size w w' := by
  subst hn
  have H1 : Hid (∀ w', Below w.heap.size w w' → SlAt (encSl encWr) w' (Bl w.heap.size) A ls) := fun w' hb => h1.below hb
  clear h1
  have hpre : ∀ k, (ls.take k).flatten.length ≤ N := fun k => by
    rw [← hN]
    conv => rhs; rw [← List.take_append_drop k ls]
    rw [List.flatten_append, List.length_append]; omega
  have HP := Lib.hid hpre; clear hpre
  have HN := Lib.hid hN; clear hN
  have HG := Lib.hid (fun W => growWr N W hl)
  have hl64 : (N : Int) ≤ 100000 := by omega
  go_enter Tryz.func72, Tryz.ntmps72
  go_wp2
  go_loopw [3, 11] (fun sz i wr => ∃ (k q : Nat), k ≤ ls.length ∧ i = .int .i64 k ∧ sz = .int .i64 q ∧ Hid (q = (ls.take k).flatten.length) ∧ Drew w wr) (fun _ i _ => ls.length - (intOf i).toNat)
  case atStart => exact ⟨0, 0, by omega, rfl, rfl, by simp [Hid], Drew.refl _⟩
  case round =>
    obtain ⟨wo, rfl⟩ : ∃ wo : World, wo = wr := ⟨_, rfl⟩
    obtain ⟨k, q, hk, rfl, rfl, hq, hd⟩ := hrel
    have hqN : q ≤ N := by rw [hq.out]; exact HP.out k
    by_cases hlt : k < ls.length
    · obtain ⟨b, off, D, dc, rfl, hb, g0, hD, hd1, hd2⟩ := (H1.out wo (hd.below _)).sl hlt
      have hst : Hid (q + (ls[k]'hlt).length = (ls.take (k + 1)).flatten.length) := by rw [Hid, hq.out, List.take_succ_eq_append_getElem hlt, List.flatten_append, List.flatten_singleton, List.length_append]
      have hst2 : q + (ls[k]'hlt).length ≤ N := by rw [hst.out]; exact HP.out _
      obtain ⟨x, hx⟩ : ∃ x, Hid (x = ls[k]'hlt) := ⟨_, Lib.hid rfl⟩
      rw [← hx.out] at g0 hst hst2
      have hnn : (0 : Int) ≤ k := by omega
      have hki : (k : Int) < ls.length := by omega
      have hneg : ¬ (q : Int) + (x.length : Int) < 0 := by omega
      clear hD hd1 hd2
      go_wp2
      go_roundw
      case rel => exact ⟨k + 1, q + x.length, hlt, by go_num, by go_num, hst.out, hd⟩
      case measure => simp [intOf]; omega
    · have hkk : k = ls.length := by omega
      subst hkk
      have hqn : q = N := by rw [hq.out, List.take_length]; exact HN.out
      subst hqn
      have hB0 : Below w.heap.size w wo := hd.below _
      clear hqN hq hd HP
      go_wp2_with fail
      refine (HG.out wo).mono ?_
      rintro e w1 ⟨A1, c1, rfl, hO1, hb1⟩
      have hB1 : Below w.heap.size w w1 := hB0.trans (hb1.mono hB0.size)
      have HO1 : Hid (Own encWr w1 w.heap.size 74 (Bl w.heap.size) (.slice A1 0 c1) []) := by
        have h := hO1 (Bl w.heap.size) (fun b hb => Nat.lt_of_lt_of_le hb hB0.size)
        obtain ⟨css, ⟨k0, k1⟩, k2, k3⟩ := h
        refine ⟨css, ⟨k0, ?_⟩, k2, k3⟩
        rcases k1 with k1 | ⟨g, cap, cur, e1, hg, r⟩
        · exact Or.inl k1
        · exact Or.inr ⟨g, cap, cur, e1, Nat.le_trans hB0.size hg, r⟩
      clear hO1 HG
      go_wp2
      go_loopw [6, 27] (fun v i wr => ∃ (k : Nat) (B : Option Addr) (vc : Nat) (out : List _), k ≤ ls.length ∧ i = .int .i64 k ∧ v = .slice B out.length vc ∧ Hid (out = (ls.take k).flatten) ∧ Below w.heap.size w wr ∧ Hid (Own encWr wr w.heap.size 74 (Bl w.heap.size) (.slice B out.length vc) out)) (fun _ i _ => ls.length - (intOf i).toNat)
      case atStart => exact ⟨0, A1, c1, [], by omega, rfl, rfl, by simp [Hid], hB1, HO1.out⟩
      case round =>
        obtain ⟨wo2, rfl⟩ : ∃ wo : World, wo = wr := ⟨_, rfl⟩
        obtain ⟨k, B, vc, out, hk, rfl, rfl, hout, hB, hown⟩ := hrel
        by_cases hlt : k < ls.length
        · obtain ⟨b, off, D, dc, he, hb, g0, hD, hd1, hd2⟩ := (H1.out wo2 hB).sl hlt
          subst he
          have hst : Hid (out ++ (ls[k]'hlt) = (ls.take (k + 1)).flatten) := by rw [Hid, hout.out, List.take_succ_eq_append_getElem hlt, List.flatten_append, List.flatten_singleton]
          have hst2 : out.length + (ls[k]'hlt).length ≤ q := by
            rw [← List.length_append, hst.out, ← HN.out]
            conv => rhs; rw [← List.take_append_drop (k + 1) ls]
            rw [List.flatten_append, List.length_append]; omega
          obtain ⟨x, hx⟩ : ∃ x, Hid (x = ls[k]'hlt) := ⟨_, Lib.hid rfl⟩
          rw [← hx.out] at g0 hst hst2 hD hd1
          have hDh := Lib.hid hD; clear hD
          have hnn : (0 : Int) ≤ k := by omega
          have hki : (k : Int) < ls.length := by omega
          have hszw := hB.size
          go_wp2_with (at_builtin; refine Hid.out ?_)
          change wpList _ _ _ _ _ _
          refine wpList_appAll (E := encWr) tyWrs rfl _ _ rfl rfl hown.out rfl rfl hDh.out (fun g hg => Nat.lt_of_lt_of_le hg hszw) hszw (by unfold maxLen; omega) (by omega) ?_
          intro A5 c5 w5 hown5 hg5 hat5
          have hB5 := Lib.hid (hB.grown hg5 hszw (fun g h => (hown.out.lt g h).1))
          have HO5 : Hid (Own encWr w5 w.heap.size 74 (Bl w.heap.size) (.slice A5 (out ++ x).length c5) (out ++ x)) := by rw [List.length_append]; exact hown5
          clear hown5 hg5 hat5 hd1 hd2 g0
          go_wp2
          go_roundw
          case rel => exact ⟨k + 1, A5, c5, out ++ x, hlt, by go_num, by simp, hst.out, hB5.out, HO5.out⟩
          case measure => simp [intOf]; omega
        · have hkk : k = ls.length := by omega
          subst hkk
          go_wp2
          go_ret
          have e := hout.out
          rw [List.take_length] at e
          have el : out.length = q := by rw [e]; exact HN.out
          refine ⟨B, vc, by rw [← el]; rfl, ?_, hB⟩
          rw [← e, ← el]
          exact hown.out
theorem litSl36 {α : Type} {E : Enc α} {W : World} {S S0 : Nat → Prop} {g : Nat} {T : TypeId} {cs : Array Value} {css : List (List Value)} {l : List α} (hg : W.heap[g]? = some (.cells cs T (0, 0))) (hcs : cs = css.flatten.toArray) (hr : All2 (E.rd W S0) css l) (h0 : ∀ b, S0 b → S b) (h1 : S g) : SlAt E W S (some ⟨g, 0, none⟩) l := by
  have hsz := All2.sizes hr
  have hlen : css.flatten.length = l.length * E.size := by rw [flatten_len E.size css hsz, hr.length]
  intro hne
  refine ⟨g, 0, rfl, h1, fun i x hx => ?_⟩
  obtain ⟨c, hc, hr'⟩ := hr.get hx
  refine ⟨c, fun j v hv => ?_, Enc.more hr' h0⟩
  rw [cell_of_row W g _ _ T _ hg, hcs]
  have := flatten_at E.size css i j c v hsz hc hv
  rw [show 0 + i * E.size + j = i * E.size + j from by omega]
  simpa using this
theorem grownBelow36 {w w' : World} {b : Nat} (hb : Below w.heap.size w w') (u : Value) (j : Nat) : w.grownBy (w'.setCell ⟨b, j, none⟩ u) (some b) :=
  ⟨hb.os, hb.tape, hb.output, by simpa [World.setCell] using hb.size, fun i hi hne => (Below.heap_setCell w' _ u i (fun e => hne (by rw [e]))).trans (hb.block i hi)⟩
def SaveRet (pb : Nat) (num tm : Int) (r : List Wr) (w : World) (e : Ending) (w' : World) : Prop :=
  ∃ A c, e = .returned (.tuple #[]) ∧ w'.heap[pb]? = some (.cells #[.int .i64 num, .int .i64 tm, .slice A r.length c] 89 (0, 0)) ∧ (r.length ≤ c ∧ c ≤ maxLen ∧ SlAt encWr w' (Nw w.heap.size w'.heap.size) A r) ∧ w.grownBy w' (some pb)
set_option maxHeartbeats 2000000 in
set_option maxRecDepth 100000 in
theorem save_any (pb : Nat) (num tm : Int) (A D : Option Addr) (c d n : Nat) (l sv : List Wr) (w : World) (hn : l.length = n) (hr : w.heap[pb]? = some (.cells #[.int .i64 num, .int .i64 tm, .slice D sv.length d] 89 (0, 0))) (h1 : SlAt encWr w (Bl w.heap.size) A l) (h2 : SlAt encWr w (Bl w.heap.size) D sv)
    (hc : n ≤ c ∧ c ≤ maxLen) (hd : sv.length ≤ d ∧ d ≤ maxLen) (hl : n + sv.length ≤ 100000) :
    Calls Tryz.prog 43 #[.pointer (some ⟨pb, 0, none⟩), .slice A n c] w (SaveRet pb num tm (foldL (l ++ sv)) w) := by
  subst hn
  have hpb : pb < w.heap.size := (Array.getElem?_eq_some_iff.1 hr).1
  obtain ⟨r0, r1, r2, rf⟩ := blk3 hr
  obtain ⟨W1, hW1⟩ : ∃ W1, w.alloc (.cells #[.slice A l.length c, .slice D sv.length d] 43) = W1 := ⟨_, rfl⟩
  have hb1 : Below w.heap.size w W1 := by rw [← hW1]; exact ext_alloc (Below.refl _ _)
  have hs1 : w.heap.size < W1.heap.size := by rw [← hW1]; simp
  have hr1 : W1.heap[w.heap.size]? = some (.cells #[.slice A l.length c, .slice D sv.length d] 43 (0, 0)) := by rw [← hW1]; exact heap_alloc_new _ _
  have hL : SlAt (encSl encWr) W1 (Bl W1.heap.size) (some ⟨w.heap.size, 0, none⟩) [l, sv] :=
    litSl36 (S0 := Bl w.heap.size) (css := [[.slice A l.length c], [.slice D sv.length d]]) hr1 rfl ⟨⟨A, c, rfl, hc.1, hc.2, h1.below hb1⟩, ⟨D, d, rfl, hd.1, hd.2, h2.below hb1⟩, trivial⟩ (fun b hb => Nat.lt_trans hb hs1) hs1
  have HCT := Lib.hid (concatWr (some ⟨w.heap.size, 0, none⟩) 2 2 (l ++ sv).length [l, sv] W1 rfl hL (by simp) (by simp; omega) (by omega))
  have hfl : ([l, sv] : List (List Wr)).flatten = l ++ sv := by simp
  rw [hfl] at HCT
  obtain ⟨cat, hcat⟩ : ∃ cat, l ++ sv = cat := ⟨_, rfl⟩
  have hcl : cat.length ≤ 100000 := by rw [← hcat, List.length_append]; exact hl
  rw [hcat] at HCT ⊢
  clear hcat
  clear h1 h2 hL hr1 hfl
  go_enter Tryz.func43, Tryz.ntmps43
  go_wp2_with fail
  refine HCT.out.mono ?_
  rintro e w2 ⟨A2, c2, rfl, ho, hb2⟩
  have hbw2 : Below w.heap.size w w2 := ext_trans hb1 hb2
  obtain ⟨A', c', he, _, _, k3⟩ := ho.reads (S' := Bl w2.heap.size) (fun g hg => Nat.lt_of_lt_of_le hg hb2.size) (fun g hg => (ho.lt g hg).2)
  simp only [List.cons.injEq, Value.slice.injEq, and_true] at he
  obtain ⟨rfl, _, rfl⟩ := he
  have HFD := Lib.hid (fold_any A2 c2 cat w2 k3 (by omega))
  clear ho k3 HCT hb2 hW1
  go_wp2_with fail
  refine HFD.out.mono ?_
  rintro e w3 ⟨A3, c3, rfl, t1, t2, t3, hb3⟩
  have hbw3 : Below w.heap.size w w3 := ext_trans hbw2 hb3
  have hr3 := (hbw3.block pb hpb).trans hr
  obtain ⟨q0, q1, q2, qf⟩ := blk3 hr3
  have hz := blk3_set hr3 (.slice A3 (foldL cat).length c3)
  have hg := grownBelow36 (b := pb) hbw3 (.slice A3 (foldL cat).length c3) 2
  have hs3 : SlAt encWr (w3.setCell ⟨pb, 2, none⟩ (.slice A3 (foldL cat).length c3)) (Nw w.heap.size (w3.setCell ⟨pb, 2, none⟩ (.slice A3 (foldL cat).length c3)).heap.size) A3 (foldL cat) := by
    have e : (w3.setCell ⟨pb, 2, none⟩ (.slice A3 (foldL cat).length c3)).heap.size = w3.heap.size := by simp [World.setCell]
    rw [e]
    have hz2 := hbw2.size
    exact (t3.blk (w' := w3.setCell ⟨pb, 2, none⟩ (.slice A3 (foldL cat).length c3)) (fun g hg => heap_setCell_other w3 ⟨pb, 2, none⟩ g _ (by have := hg.1; show g ≠ pb; omega))).more (fun g hg => hg.mono hz2 (Nat.le_refl _))
  clear r0 r1 r2 rf HFD t3 hr hr3
  go_wp2_with fail
  refine bodyPost_ret (results_none rfl _ _ _) rfl ?_
  exact ⟨A3, c3, rfl, hz, ⟨t1, t2, hs3⟩, hg⟩
end Go.Proofs.YtnkmklnlaepdeaaGreat

namespace Go.Proofs.YtnkmklnlaepdeaaGreat
open Go.RowKit Go.Shelf
attribute [local go_sem] Oper.semAt_some

theorem contW_len {im : Img} {x : Wr} (h : fitsN (lens im) x = 0) : (contW im x).2.2.length = x.2.2.length := by
  obtain ⟨k, s, e1, e2, h1, h2, h3⟩ := fits_img h
  have e3 : x.1.toNat = k := by omega
  have e4 : x.2.1.toNat = s := by omega
  unfold contW
  rw [e3, e4, List.length_take, List.length_drop]; omega
end Go.Proofs.YtnkmklnlaepdeaaGreat

namespace Go.Proofs.YtnkmklnlaepdeaaGreat
open Go.RowKit Go.Shelf
attribute [local go_sem] Oper.semAt_some

theorem setLast_set {l : List Snp} (h : 0 < l.length) (f : List Wr → List Wr) : setLast l f = l.set (l.length - 1) ((l[l.length - 1]).1, (l[l.length - 1]).2.1, f (l[l.length - 1]).2.2) := by
  have e : l.getLast? = some (l[l.length - 1]) := by rw [List.getLast?_eq_getElem?, List.getElem?_eq_getElem (by omega)]
  unfold setLast
  rw [e]
  obtain ⟨r, hr⟩ := List.getLast?_eq_some_iff.1 e
  obtain ⟨x, hx⟩ : ∃ x, l[l.length - 1] = x := ⟨_, rfl⟩
  rw [hx] at hr ⊢
  show l.dropLast ++ [(x.1, x.2.1, f x.2.2)] = _
  have hd : l.dropLast = r := by rw [hr]; simp
  have hn : l.length - 1 = r.length := by rw [hr]; simp
  rw [hd, hn]
  rw [hr]; simp
theorem setLast_nil (f : List Wr → List Wr) : setLast [] f = [] := rfl
def st3 (w : World) (g i : Nat) (u v t : Value) : World := ((w.setCell ⟨g, i * 3, none⟩ u).setCell ⟨g, i * 3 + 1, none⟩ v).setCell ⟨g, i * 3 + 2, none⟩ t
theorem st3_other {w : World} {g i b : Nat} {u v t : Value} (h : b ≠ g) : (st3 w g i u v t).heap[b]? = w.heap[b]? :=
  (Below.heap_setCell _ ⟨g, i * 3 + 2, none⟩ _ _ h).trans ((Below.heap_setCell _ ⟨g, i * 3 + 1, none⟩ _ _ h).trans (Below.heap_setCell _ ⟨g, i * 3, none⟩ _ _ h))
theorem st3_size {w : World} {g i : Nat} {u v t : Value} : (st3 w g i u v t).heap.size = w.heap.size := by simp [st3, World.setCell]
/-- a whole snapshot stored into an owned slice -/
theorem Own.storeS {w : World} {base g n c : Nat} {T : TypeId} {S : Nat → Prop} {l : List Snp} (h : Own encSnp w base T S (.slice (some ⟨g, 0, none⟩) n c) l) {i : Nat} (hi : i < l.length) {v s : Int} {d : List Wr} {D : Option Addr} {dc : Nat}
    (h1 : I64 v) (h2 : I64 s) (h3 : d.length ≤ dc) (h4 : dc ≤ maxLen) (h5 : SlAt encWr w S D d) :
    Own encSnp (st3 w g i (.int .i64 v) (.int .i64 s) (.slice D d.length dc)) base T S (.slice (some ⟨g, 0, none⟩) n c) (l.set i (v, s, d)) := by
  have hg : ¬ S g := by obtain ⟨_, _, _, h3⟩ := h; exact h3 g rfl
  have a1 : Own encSnp (w.setCell ⟨g, i * 3, none⟩ (.int .i64 v)) base T S (.slice (some ⟨g, 0, none⟩) n c) (l.set i (v, l[i].2.1, l[i].2.2)) := by
    refine Own.stored (E := encSnp) h (j := 0) hi (by decide) (.int .i64 v) (v, l[i].2.1, l[i].2.2) (fun cs hr => ?_)
    obtain ⟨D', c', rfl, k1, k2, k3, k4, k5⟩ := snp_cs hr
    exact snp_mk (x := (v, l[i].2.1, l[i].2.2)) h1 k2 k3 k4 k5
  have a2 : Own encSnp ((w.setCell ⟨g, i * 3, none⟩ (.int .i64 v)).setCell ⟨g, i * 3 + 1, none⟩ (.int .i64 s)) base T S (.slice (some ⟨g, 0, none⟩) n c) (l.set i (v, s, l[i].2.2)) := by
    have := Own.stored (E := encSnp) a1 (j := 1) (i := i) (by simpa using hi) (by decide) (.int .i64 s) (v, s, l[i].2.2) (fun cs hr => by
      obtain ⟨D', c', rfl, k1, k2, k3, k4, k5⟩ := snp_cs hr
      simp only [List.getElem_set_self] at k1 k2 k3 k4 k5 ⊢
      exact snp_mk (x := (v, s, l[i].2.2)) h1 h2 k3 k4 k5)
    rw [List.set_set] at this
    exact this
  have a3 := Own.stored (E := encSnp) a2 (j := 2) (i := i) (by simpa using hi) (by decide) (.slice D d.length dc) (v, s, d) (fun cs hr => by
    obtain ⟨D', c', rfl, k1, k2, k3, k4, k5⟩ := snp_cs hr
    simp only [List.getElem_set_self] at k1 k2 k3 k4 k5 ⊢
    exact snp_mk (x := (v, s, d)) h1 h2 h3 h4 (h5.blk (fun b hb => (Below.heap_setCell _ _ _ _ (fun e => hg (by rw [show g = b from e.symm]; exact hb))).trans (Below.heap_setCell _ _ _ _ (fun e => hg (by rw [show g = b from e.symm]; exact hb))))))
  rw [List.set_set] at a3
  exact a3
theorem OwnX.storeS {X : Nat → Prop} {w : World} {lo g n c : Nat} {T : TypeId} {l : List Snp} (h : OwnX X encSnp w lo T (.slice (some ⟨g, 0, none⟩) n c) l) {i : Nat} (hi : i < l.length) {v s : Int} {d : List Wr} {D : Option Addr} {dc : Nat}
    (h1 : I64 v) (h2 : I64 s) (h3 : d.length ≤ dc) (h4 : dc ≤ maxLen) (h5 : SlAt encWr w (fun b => Nw lo w.heap.size b ∧ ¬ X b ∧ b ≠ g) D d) :
    OwnX X encSnp (st3 w g i (.int .i64 v) (.int .i64 s) (.slice D d.length dc)) lo T (.slice (some ⟨g, 0, none⟩) n c) (l.set i (v, s, d)) := by
  have hg : (Value.slice (some ⟨g, 0, none⟩) n c).ownBlock = some g := rfl
  refine ⟨?_, h.2⟩
  have := Own.storeS h.1 hi h1 h2 h3 h4 (h5.more (fun b hb => ⟨hb.1, hb.2.1, by rw [hg]; intro e; injection e with e; exact hb.2.2 e.symm⟩))
  rw [st3_size]
  exact this
end Go.Proofs.YtnkmklnlaepdeaaGreat

namespace Go.Proofs.YtnkmklnlaepdeaaGreat
open Go.RowKit Go.Shelf
attribute [local go_sem] Oper.semAt_some

theorem errOf_conv36 {α : Type} {f : α → Int} {l : List α} (h : errOf f l = 0) : ∀ x ∈ l, f x = 0 := by
  intro x hx
  unfold errOf at h
  cases hq : l.find? (fun x => f x != 0) with
  | none =>
    have := List.find?_eq_none.1 hq x hx
    simpa using this
  | some y =>
    rw [hq] at h
    have := List.find?_some hq
    simp at this h
    exact absurd h this
theorem applyErr_ok {im : Img} {l : List Wr} (h : applyErr im l = 0) : sizesN (lens im) = 0 ∧ ∀ x ∈ l, fitsN (lens im) x = 0 := by
  unfold applyErr at h
  by_cases h1 : sizesN (lens im) = 0
  · rw [if_neg (by simp [h1])] at h
    exact ⟨h1, errOf_conv36 h⟩
  · rw [if_pos h1] at h; exact absurd h h1
end Go.Proofs.YtnkmklnlaepdeaaGreat

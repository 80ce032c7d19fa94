/-
  The sort of ends of extents, and the walk of ends.
  The walk of ends.
-/
import Derived.Test.YthneomehfmjbkaaEb
import Derived.Test.YthneomehfmjbkaaUs
import Derived.Test.YthneomehfmjbkaaShelf
import Derived.Test.YthneomehfmjbkaaLaws
set_option linter.unusedVariables false
set_option linter.unusedSimpArgs false
set_option linter.unusedSectionVars false
set_option linter.unnecessarySimpa false
namespace Go.Proofs.Ythneomehfmjbkaa
open Go.RowKit Go.Shelf Go.Lib Go.Sort

def encEnd : Enc End := encPair encInt (encPair encInt encInt)
def endCells (x : End) : List Value := [.int .i64 x.1, .int .i64 x.2.1, .int .i64 x.2.2]
theorem end_cs {w : World} {S : Nat → Prop} {cs : List Value} {x : End} (h : encEnd.rd w S cs x) : cs = endCells x ∧ I64 x.1 ∧ I64 x.2.1 ∧ I64 x.2.2 := by
  obtain ⟨c1, c2, rfl, ⟨rfl, h1⟩, ⟨c3, c4, rfl, ⟨rfl, h2⟩, ⟨rfl, h3⟩⟩⟩ := h
  exact ⟨rfl, h1, h2, h3⟩
theorem end_mk {w : World} {S : Nat → Prop} {x : End} (h1 : I64 x.1) (h2 : I64 x.2.1) (h3 : I64 x.2.2) : encEnd.rd w S (endCells x) x := ⟨[_], [_, _], rfl, ⟨rfl, h1⟩, ⟨[_], [_], rfl, ⟨rfl, h2⟩, ⟨rfl, h3⟩⟩⟩
theorem SlAt.end_ {w : World} {S : Nat → Prop} {A : Option Addr} {l : List End} {k : Nat} (h : SlAt encEnd w S A l) (hk : k < l.length) :
    ∃ b off, A = some ⟨b, off, none⟩ ∧ S b ∧ w.cell? ⟨b, off + k * 3, none⟩ = some (.int .i64 l[k].1) ∧ w.cell? ⟨b, off + k * 3 + 1, none⟩ = some (.int .i64 l[k].2.1) ∧ w.cell? ⟨b, off + k * 3 + 2, none⟩ = some (.int .i64 l[k].2.2) ∧ I64 l[k].1 ∧ I64 l[k].2.1 ∧ I64 l[k].2.2 := by
  obtain ⟨b, off, cs, e, hb, hs, hr⟩ := h.at_ hk
  obtain ⟨rfl, h1, h2, h3⟩ := end_cs hr
  exact ⟨b, off, e, hb, hs 0 _ rfl, hs 1 _ rfl, hs 2 _ rfl, h1, h2, h3⟩
theorem Own.cells_ {α : Type} {E : Enc α} {w : World} {base : Nat} {e : TypeId} {S : Nat → Prop} {v : Value} {l : List α} (h : Own E w base e S v l) : ∀ g, v.ownBlock = some g → ∃ cs fr, w.heap[g]? = some (.cells cs e fr) := by
  obtain ⟨css, h1, h2, h3⟩ := h
  intro g hg
  rcases h1.2 with ⟨rfl, _⟩ | ⟨g', cap, cur, rfl, hb, hh, _⟩
  · simp [Value.ownBlock] at hg
  · have : g' = g := by simpa [Value.ownBlock] using hg
    subst this
    exact ⟨_, _, hh⟩
def cfEnd (x y : End) : Int := cmpI x.1 y.1
theorem cfEnd_lt (x y : End) : ltOf cfEnd x y = decide (x.1 < y.1) := by
  unfold ltOf cfEnd cmpI
  rw [decide_eq_decide]
  split <;> (try split) <;> omega
theorem swoEnd : SWO (ltOf cfEnd) where
  irrefl x := by rw [cfEnd_lt]; simp
  trans x y z h1 h2 := by rw [cfEnd_lt] at *; simp at *; omega
  ntrans x y z h1 h2 := by rw [cfEnd_lt] at *; simp at *; omega
theorem ends1_grow (p q : End) (W : World) :
    Calls Try.prog 71 #[.agg #[.int .i64 p.1, .int .i64 p.2.1, .int .i64 p.2.2], .agg #[.int .i64 q.1, .int .i64 q.2.1, .int .i64 q.2.2]] W fun e w' => e = .returned (.int .i64 (cfEnd p q)) ∧ ∃ n os', w' = grow (W.drewN n) os' := by
  obtain ⟨a, b, c⟩ := p
  obtain ⟨a', b', c'⟩ := q
  go_enter Try.func71, Try.ntmps71
  go_wp2_with fail
  refine (compare_any a a' _).mono ?_
  rintro e w' ⟨rfl, rfl⟩
  go_wp2
  go_ret
  exact ⟨ret_int rfl, 0, _, by rw [alloc_eq_grow, alloc_eq_grow, grow_grow]; rfl⟩
theorem cmpLaysEnd (blk off size : Nat) (w : World) : CmpLays Try.prog 71 #[] endCells 3 cfEnd blk off size w := fun _ _ _ _ x y => ends1_grow x y _
theorem get_flat3 (ps : List End) (i : Nat) (hi : i < ps.length) : (ps.toArray)[i]! = ps[i] := by simp [hi]
theorem heap_sortK3 {w : World} {g n : Nat} {os : Array Obj} (d : Array End) : w.grownBy (sortWorldK endCells 3 w g 0 n d os) (some g) := by
  refine ⟨rfl, rfl, rfl, by simp [sortWorldK, grow, putRowK, putRow, mapBlock, Sort.ahead], fun k hk hne => ?_⟩
  unfold sortWorldK putRowK
  rw [heap_grow_old _ _ (by simpa [putRow, mapBlock, Sort.ahead] using hk)]
  have : g ≠ k := fun e => hne (by rw [e])
  simp [putRow, mapBlock, Sort.ahead, Array.getElem?_modify, this]
/-- the sort of ends that a call owns -/
theorem sortEnd_any (A : Option Addr) (base c n : Nat) (T : TypeId) (S : Nat → Prop) (ps : List End) (w : World) (hn : ps.length = n) (h : Own encEnd w base T S (.slice A n c) ps) (hl : n ≤ 4611686018427387000) (hok : ∀ p ∈ ps, I64 p.1 ∧ I64 p.2.1 ∧ I64 p.2.2) :
    Calls Try.prog 70 #[.slice A n c, .func (.func 71) #[] #[]] w fun e w' => (∃ v, e = .returned v) ∧ ∃ qs : List End, qs.length = n ∧ qs.Perm ps ∧ qs.Pairwise (fun x y => x.1 ≤ y.1) ∧ SlAt encEnd w' (fun b => A = some ⟨b, 0, none⟩) A qs ∧ w.grownBy w' (Value.slice A n c).ownBlock ∧ (∀ b off, qs ≠ [] → A = some ⟨b, off, none⟩ → ∃ cs fr, w'.heap[b]? = some (.cells cs T fr)) := by
  subst hn
  by_cases h0 : ps = []
  · subst h0
    have hcon := AnyF.slices_SortFunc_none { Try.sortEnd with } A c (.func (.func 71) #[] #[]) w
    change Calls Try.prog 70 _ _ _ at hcon
    refine hcon.mono fun e w' ⟨he, hw⟩ => ⟨⟨_, he⟩, [], rfl, List.Perm.refl _, List.Pairwise.nil, SlAt.nil_, ?_, fun _ _ h => absurd rfl h⟩
    rw [hw]; exact World.grownBy.refl _ _
  · have hpos : 0 < ps.length := List.length_pos_iff.2 h0
    obtain ⟨g, _, rfl, _, hg, _⟩ := h.elem hpos
    have eg : ∀ args w, (callFunc 71 args).run Try.prog w = .ok (.enter 71 args) w := enters_of Try.func71 (by kernel_rfl) rfl
    have hH : HoldsK endCells 3 w g 0 ps.toArray := by
      intro t ht
      rw [size_flatK] at ht
      have ht' : t < ps.length * 3 := by simpa using ht
      have hi : t / 3 < ps.length := by omega
      obtain ⟨g', cs, he, _, _, _, hc, hf, hr⟩ := h.elem (i := t / 3) hi
      injection he with he
      injection he with he
      subst he
      obtain ⟨rfl, _⟩ := end_cs hr
      refine ⟨?_, by simpa using hf (0 + t)⟩
      rw [get_flatK _ _ _ _ ht, get_flat3 ps _ hi]
      have hm : t % 3 = 0 ∨ t % 3 = 1 ∨ t % 3 = 2 := by omega
      have e3 : encEnd.size = 3 := rfl
      rcases hm with hm | hm | hm
      · have := hc 0 _ rfl
        rw [e3, show t / 3 * 3 + 0 = 0 + t from by omega] at this
        rw [hm]; exact this
      · have := hc 1 _ rfl
        rw [e3, show t / 3 * 3 + 1 = 0 + t from by omega] at this
        rw [hm]; exact this
      · have := hc 2 _ rfl
        rw [e3, show t / 3 * 3 + 2 = 0 + t from by omega] at this
        rw [hm]; exact this
    have hcon := AnyQ.slices_SortFunc Try.sortEnd 3 Try.isAgg118 Try.sizeOf118 endCells (fun _ => rfl) (fun x v hv => by simp [endCells] at hv; rcases hv with rfl | rfl | rfl <;> rfl) cfEnd swoEnd 71 #[] g 0 c ps.toArray w eg (cmpLaysEnd g 0 ps.toArray.size w) hH hg (by simp; omega)
    change Calls Try.prog 70 _ _ _ at hcon
    rw [List.size_toArray] at hcon
    refine hcon.mono fun e w' ⟨he, d', n, os, hp, hs, hw⟩ => ⟨⟨_, he⟩, d'.toList, ?_, ?_, ?_, ?_, ?_, ?_⟩
    · have := hp.1; simpa using this
    · have hsz : d'.size = ps.length := by have := hp.1; simpa using this
      have h3 := hp.2.2
      rw [← hsz] at h3
      have e1 : (d'.extract 0 d'.size) = d' := by simp
      have e2 : (ps.toArray.extract 0 d'.size) = ps.toArray := by rw [hsz]; simp
      rw [e1, e2] at h3
      simpa using h3
    · have hsz : d'.size = ps.length := by have := hp.1; simpa using this
      rw [List.pairwise_iff_getElem]
      intro i j hi hj hij
      have hj' : j < d'.size := by simpa using hj
      have := hs i j (Nat.zero_le _) hij (by omega)
      rw [cfEnd_lt, getElem!_pos d' j hj', getElem!_pos d' i (by omega)] at this
      simp only [decide_eq_false_iff_not] at this
      simp only [Array.getElem_toList]
      omega
    · subst hw
      have hsz : d'.size = ps.length := by have := hp.1; simpa using this
      have hperm : d'.toList.Perm ps := by
        have h3 := hp.2.2
        rw [← hsz] at h3
        have e1 : (d'.extract 0 d'.size) = d' := by simp
        have e2 : (ps.toArray.extract 0 d'.size) = ps.toArray := by rw [hsz]; simp
        rw [e1, e2] at h3
        simpa using h3
      refine fun _ => ⟨g, 0, rfl, rfl, fun i x hx => ⟨endCells x, fun j u hu => ?_, ?_⟩⟩
      · have hi : i < d'.size := by have := (List.getElem?_eq_some_iff.1 hx).1; simpa using this
        have hq := holdsK_putRowK endCells 3 (Sort.ahead w n) g 0 ps.toArray d' (holdsK_ahead endCells 3 w n g 0 _ hH) (by simp [hsz])
        have hq2 := holdsK_grow endCells 3 _ os g 0 _ (by simpa [putRowK, putRow, mapBlock, Sort.ahead] using hg) hq
        have hj : j < 3 := (List.getElem?_eq_some_iff.1 hu).1
        have := (HoldsK.cell hq2 (i := i) (c := j) hi hj).1
        have e1 : d'[i]! = x := by
          rw [getElem!_pos d' i hi]
          have := (List.getElem?_eq_some_iff.1 hx).2
          simpa using this
        rw [e1] at this
        have e2 : (endCells x)[j]! = u := by
          obtain ⟨hj', hu'⟩ := List.getElem?_eq_some_iff.1 hu
          rw [getElem!_pos _ j hj']; exact hu'
        rw [e2] at this
        exact this
      · have hm : x ∈ ps := hperm.mem_iff.1 (List.mem_of_getElem? hx)
        exact end_mk (hok x hm).1 (hok x hm).2.1 (hok x hm).2.2
    · subst hw
      exact heap_sortK3 _
    · subst hw
      intro b off _ e
      injection e with e
      injection e with e1 e2
      subst e1
      obtain ⟨cs, fr, h1⟩ := h.cells_ g rfl
      refine ⟨?_, fr, ?_⟩
      rotate_left
      · unfold sortWorldK putRowK
        rw [heap_grow_old _ _ (by simpa [putRow, mapBlock, Sort.ahead] using hg)]
        simp only [putRow, mapBlock, Sort.ahead, Array.getElem?_modify, if_true]
        show Option.map _ (w.heap[g]?) = _
        rw [h1]
        rfl
end Go.Proofs.Ythneomehfmjbkaa

namespace Go.Proofs.Ythneomehfmjbkaa
open Go.RowKit

theorem tyEnds : SliceTy Try.prog 114 118 3 24 := sliceTy_mk (z := .agg #[.int .i64 0, .int .i64 0, .int .i64 0]) Try.underlying114 (by kernel_rfl) rfl (by decide)
theorem within2_any (s n : Int) (w : World) (hs : I64 s) (hn : I64 n) : Calls Try.prog 69 #[.agg #[.int .i64 s, .int .i64 n]] w fun e w' => ∃ f t q, e = .returned (.tuple #[.int .i64 f, .int .i64 t, .bool q]) ∧ q = decide (clipF (s, n) < clipT (s, n)) ∧ (q = true → f = clipF (s, n) ∧ t = clipT (s, n)) ∧ Below w.heap.size w w' := by
  refine (within_any s n w hs hn).mono fun e w' h => ?_
  obtain ⟨f, t, q, he, h1, h2, h3, h4, h5, h6⟩ := h
  refine ⟨f, t, q, he, ?_, ?_, h6⟩
  · cases q with
    | true =>
      have hft := h1.1 rfl
      have a1 := (h4 rfl f).1 ⟨Int.le_refl _, hft⟩
      simp only at a1
      rw [eq_comm, decide_eq_true_eq]
      unfold clipF clipT
      simp only
      split <;> split <;> omega
    | false =>
      rw [eq_comm, decide_eq_false_iff_not]
      intro hc
      have := h5 rfl (clipF (s, n))
      unfold clipF clipT at *
      simp only at *
      split at this <;> split at hc <;> omega
  · rintro rfl
    have hft := h1.1 rfl
    have a1 := (h4 rfl f).1 ⟨Int.le_refl _, hft⟩
    have a2 := (h4 rfl (t - 1)).1 ⟨by omega, by omega⟩
    have a3 := (h4 rfl (clipF (s, n))).2
    have a4 := (h4 rfl (clipT (s, n) - 1)).2
    unfold clipF clipT at *
    simp only at *
    split at a3 <;> split at a4 <;> (constructor <;> omega)
def endsE (i : Int) (e : Ext) : List End := if clipF e < clipT e then [(clipF e, i, 1), (clipT e, i, -1)] else []
theorem endsL_snoc (i : Int) (l : List Ext) (e : Ext) : endsL i (l ++ [e]) = endsL i l ++ endsE i e := by simp [endsL, endsE]
theorem endsL_len (i : Int) (l : List Ext) : (endsL i l).length ≤ 2 * l.length := by
  induction l using snocRec with
  | h0 => simp [endsL]
  | h1 l e ih =>
    rw [endsL_snoc, List.length_append, List.length_append]
    have : (endsE i e).length ≤ 2 := by unfold endsE; split <;> simp
    simp; omega
def endsN (ls : List (List Ext)) (k : Nat) : List End := (List.range k).flatMap fun (i : Nat) => endsL i (ls.getD i [])
theorem endsN_succ (ls : List (List Ext)) (k : Nat) : endsN ls (k + 1) = endsN ls k ++ endsL k (ls.getD k []) := by simp [endsN, List.range_succ]
theorem endsN_len (ls : List (List Ext)) (k : Nat) (hk : k ≤ ls.length) : (endsN ls k).length ≤ 2 * ((ls.take k).map List.length).sum := by
  induction k with
  | zero => simp [endsN]
  | succ k ih =>
    have h1 := ih (by omega)
    have h2 := endsL_len k (ls.getD k [])
    have e : ls.getD k [] = ls[k]'(by omega) := by simp [List.getD_eq_getElem?_getD, List.getElem?_eq_getElem (show k < ls.length by omega)]
    rw [endsN_succ, List.length_append, List.take_succ_eq_append_getElem (by omega), List.map_append, List.sum_append]
    rw [e] at h2 ⊢
    simp only [List.map_cons, List.map_nil, List.sum_cons, List.sum_nil]
    omega
theorem endsL_ok {i : Int} (hi : 0 ≤ i ∧ i ≤ 1000) (l : List Ext) : ∀ e ∈ endsL i l, I64 e.1 ∧ I64 e.2.1 ∧ I64 e.2.2 := by
  intro e he
  obtain ⟨x, _, hx⟩ := List.mem_flatMap.1 he
  split at hx
  · rename_i hc
    have hF : 0 ≤ clipF x := by unfold clipF; split <;> omega
    have hT : clipT x ≤ 4096 := by unfold clipT; split <;> omega
    simp only [List.mem_cons, List.not_mem_nil, or_false] at hx
    unfold I64
    rcases hx with rfl | rfl <;> (simp only; omega)
  · simp at hx
def EndsRet (ls : List (List Ext)) (w : World) (e : Ending) (w' : World) : Prop :=
  ∃ A c, ∃ qs : List End, e = .returned (.slice A qs.length c) ∧ qs.length ≤ c ∧ c ≤ maxLen ∧ qs.Perm (endsN ls ls.length) ∧ qs.Pairwise (fun x y => x.1 ≤ y.1) ∧ (∀ e ∈ qs, I64 e.1 ∧ I64 e.2.1 ∧ I64 e.2.2) ∧ SlAt encEnd w' (Nw w.heap.size w'.heap.size) A qs ∧ Below w.heap.size w w' ∧ (∀ b off, qs ≠ [] → A = some ⟨b, off, none⟩ → ∃ cs fr, w'.heap[b]? = some (.cells cs 118 fr))
set_option maxHeartbeats 4000000 in
theorem ends_any (A : Option Addr) (c : Nat) (ls : List (List Ext)) (w : World) (h1 : SlAt (encSl encExt) w (Bl w.heap.size) A ls) (hl : ls.length ≤ 1000) (ht : (ls.map List.length).sum ≤ 1000000) :
    Calls Try.prog 67 #[.slice A ls.length c] w (EndsRet ls w) := by
  have H1 : Hid (∀ w', Below w.heap.size w w' → SlAt (encSl encExt) w' (Bl w.heap.size) A ls) := fun w' hb => h1.below hb
  clear h1
  have hsum : ∀ k, ((ls.take k).map List.length).sum ≤ (ls.map List.length).sum := fun k => by
    have := congrArg (fun l => (l.map List.length).sum) (List.take_append_drop k ls)
    simp only [List.map_append, List.sum_append] at this
    omega
  have HSUM := Lib.hid hsum; clear hsum
  go_enter Try.func67, Try.ntmps67
  go_wp2
  go_loopw [3, 13] (fun v i wr => ∃ (k : Nat) (B : Option Addr) (vc : Nat) (out : List End), k ≤ ls.length ∧ i = .int .i64 k ∧ v = .slice B out.length vc ∧ Below w.heap.size w wr ∧ Hid (out = endsN ls k) ∧ Hid (OwnW encEnd wr w.heap.size w.heap.size 118 (.slice B out.length vc) out)) (fun _ i _ => ls.length - (intOf i).toNat)
  case atStart => exact ⟨0, none, 0, [], by omega, rfl, rfl, Below.refl _ _, by simp [Hid, endsN], OwnW.nil_⟩
  case round =>
    obtain ⟨wo, rfl⟩ : ∃ wo : World, wo = wr := ⟨_, rfl⟩
    obtain ⟨k, B, vc, out, hk, rfl, rfl, hB, hout, hown⟩ := hrel
    by_cases hlt : k < ls.length
    · obtain ⟨b, off, D, dc, rfl, hb, g0, hD, hn1, hn2⟩ := (H1.out wo hB).sl hlt
      have hnn : (0 : Int) ≤ k := by omega
      have hki : (k : Int) < ls.length := by omega
      obtain ⟨l, hl'⟩ : ∃ l, Hid (l = ls[k]'hlt) := ⟨_, Lib.hid rfl⟩
      have hgd : ls.getD k [] = l := by rw [hl'.out]; simp [List.getD_eq_getElem?_getD, List.getElem?_eq_getElem hlt]
      have HGD := Lib.hid hgd; clear hgd
      rw [← hl'.out] at g0 hD hn1
      have hlen : (endsN ls k).length + 2 * l.length ≤ 2000000 := by
        have h1 := endsN_len ls k hk
        have h2 := HSUM.out (k + 1)
        rw [List.take_succ_eq_append_getElem hlt, List.map_append, List.sum_append, ← hl'.out] at h2
        simp only [List.map_cons, List.map_nil, List.sum_cons, List.sum_nil] at h2
        omega
      have HD : Hid (∀ w', Below w.heap.size w w' → SlAt encExt w' (Bl w.heap.size) D l) := fun w' hb => hD.keep (fun p hp => World.cell?_of_block ((hb.block _ hp).trans (hB.block _ hp).symm)) (fun _ h => h)
      unfold maxLen at hn2
      clear hD
      go_wp2
      go_loopw [3, 20] (fun v j wr => ∃ (m : Nat) (B : Option Addr) (vc : Nat) (out : List End), m ≤ l.length ∧ j = .int .i64 m ∧ v = .slice B out.length vc ∧ Below w.heap.size w wr ∧ Hid (out = endsN ls k ++ endsL k (l.take m)) ∧ Hid (OwnW encEnd wr w.heap.size w.heap.size 118 (.slice B out.length vc) out)) (fun _ j _ => l.length - (intOf j).toNat)
      case atStart => exact ⟨0, B, vc, out, by omega, rfl, rfl, hB, by rw [hout.out]; simp [Hid, endsL], hown.out⟩
      case round =>
        obtain ⟨wp, rfl⟩ : ∃ wp : World, wp = wr := ⟨_, rfl⟩
        clear hB hout hown
        obtain ⟨m, B, vc, out, hm, rfl, rfl, hB, hout, hown⟩ := hrel
        have hol : out.length ≤ 2000000 := by
          have h3 := endsL_len k (l.take m)
          have h4 : (l.take m).length ≤ l.length := by rw [List.length_take]; omega
          rw [hout.out, List.length_append]; omega
        by_cases hlm : m < l.length
        · obtain ⟨b', off', rfl, hb', e0, e1, hi1, hi2⟩ := (HD.out wp hB).ext hlm
          have hmm : (0 : Int) ≤ m := by omega
          have hmi : (m : Int) < l.length := by omega
          have hsz := hB.size
          go_wp2_with fail
          refine (within2_any l[m].1 l[m].2 _ hi1 hi2).mono ?_
          rintro e w1 ⟨f, t, q, rfl, hq, hft, hb1⟩
          have hB1 : Below w.heap.size w w1 := ext_trans (ext_alloc hB) hb1
          have hw1 := ext_trans (ext_alloc (Below.refl wp.heap.size wp)) hb1
          have HO1 := Lib.hid (hown.out.below hw1)
          have hsz1 := hw1.size
          have HQ := Lib.hid hq; have HFT := Lib.hid hft
          clear hq hft
          have hst : Hid (endsN ls k ++ endsL k (l.take (m + 1)) = out ++ endsE k l[m]) := by
            rw [Hid, List.take_succ_eq_append_getElem hlm, endsL_snoc, ← List.append_assoc, ← hout.out]
          cases q with
          | false =>
            have hE : Hid (endsE k l[m] = []) := if_neg (by
              have := HQ.out
              rw [eq_comm, decide_eq_false_iff_not] at this
              exact this)
            clear e0 e1
            go_wp2
            go_roundw
            case rel => exact ⟨m + 1, B, vc, out, hlm, by go_num, rfl, hB1, by rw [Hid, hst.out, hE.out, List.append_nil], HO1.out⟩
            case measure => simp [intOf]; omega
          | true =>
            obtain ⟨hf1, hf2⟩ := HFT.out rfl
            have hE : Hid (endsE k l[m] = [(f, (k : Int), 1), (t, (k : Int), -1)]) := by
              rw [hf1, hf2]
              exact if_pos (by
                have := HQ.out
                rw [eq_comm, decide_eq_true_eq] at this
                exact this)
            have hFb : I64 f := by rw [hf1]; unfold I64 clipF; split <;> (unfold I64 at hi1; simp only at *; omega)
            have hTb : I64 t := by
              have := HQ.out
              rw [eq_comm, decide_eq_true_eq] at this
              have hF0 : 0 ≤ clipF (l[m].1, l[m].2) := by unfold clipF; split <;> (simp only at *; omega)
              have hT0 : clipT (l[m].1, l[m].2) ≤ 4096 := by unfold clipT; split <;> (simp only at *; omega)
              rw [hf2]; unfold I64; omega
            have hKb : I64 (k : Int) := by unfold I64; omega
            have HO2 := Lib.hid (Own.alloc HO1.out (fun _ h => h.1.2) (.cells #[.int .i64 f, .int .i64 k, .int .i64 1, .int .i64 t, .int .i64 k, .int .i64 (-1)] 118))
            clear hf1 hf2 e0 e1
            go_wp2_with (at_builtin; refine Hid.out ?_)
            change wpList _ _ _ _ _ _
            refine wpList_app (E := encEnd) tyEnds rfl _ _ rfl rfl HO2.out (news := [(f, (k : Int), 1), (t, (k : Int), -1)]) (css := [endCells (f, (k : Int), 1), endCells (t, (k : Int), -1)]) rfl rfl ⟨end_mk hFb hKb (by unfold I64; simp only; omega), end_mk hTb hKb (by unfold I64; simp only; omega), trivial⟩ (fun _ => ⟨_, rfl, fun j u hu => cell_new w1 _ _ j u hu⟩) (fun _ h => by simp; have := h.1.2; omega) (by simp; omega) (by unfold maxLen; omega) (by omega) ?_
            intro A' c' w5 hown5 hg5 hat5
            have hlt1 : ∀ g, (Value.slice B out.length vc).ownBlock = some g → g < w1.heap.size := fun g hg => (HO1.out.lt g hg).2
            have hok5 := Lib.hid (OwnW.app (hown5.more (S' := fun b => Nw w.heap.size (w1.alloc (.cells #[.int .i64 f, .int .i64 k, .int .i64 1, .int .i64 t, .int .i64 k, .int .i64 (-1)] 118)).heap.size b ∧ (Value.slice B out.length vc).ownBlock ≠ some b) (fun b hb => ⟨hb.1.mono (Nat.le_refl _) (by simp), hb.2⟩) (OwnW_new hown5 hat5 hlt1 (by simp))) hg5 hat5)
            have hB5 := Lib.hid ((ext_alloc (o := .cells #[.int .i64 f, .int .i64 k, .int .i64 1, .int .i64 t, .int .i64 k, .int .i64 (-1)] 118) hB1).grown hg5 (by simp; omega) (fun g h => (hown.out.lt g h).1))
            clear hown5 hg5 hat5 hlt1
            go_wp2
            go_roundw
            case rel => exact ⟨m + 1, A', c', out ++ [(f, (k : Int), 1), (t, (k : Int), -1)], hlm, by go_num, by simp, hB5.out, by rw [Hid, hst.out, hE.out], by have := hok5.out; simpa [Hid] using this⟩
            case measure => simp [intOf]; omega
        · have hkk : m = l.length := by omega
          subst hkk
          go_wp2
          go_roundw
          case rel => exact ⟨k + 1, B, vc, out, hlt, by go_num, rfl, hB, by rw [Hid, endsN_succ, HGD.out, hout.out, List.take_length], hown.out⟩
          case measure => simp [intOf]; omega
    · have hkk : k = ls.length := by omega
      subst hkk
      have hln := endsN_len ls ls.length (Nat.le_refl _)
      rw [List.take_length] at hln
      have hol : out.length ≤ 2000000 := by rw [hout.out]; omega
      have hokp : ∀ p ∈ out, I64 p.1 ∧ I64 p.2.1 ∧ I64 p.2.2 := by
        rw [hout.out]
        intro p hp
        obtain ⟨i, hi, hp⟩ := List.mem_flatMap.1 hp
        have := List.mem_range.1 hi
        exact endsL_ok (by omega) _ p hp
      have HOKP := Lib.hid hokp; clear hokp hln
      have hc := Lib.hid (sortEnd_any B w.heap.size vc out.length 118 _ out wo rfl hown.out (by omega) HOKP.out)
      go_wp2_with fail
      refine hc.out.mono ?_
      rintro e w1 ⟨⟨v, rfl⟩, qs, hql, hqp, hqs, hsl, hg1, hty⟩
      obtain ⟨_, p1, p2, _⟩ := hown.out.parts
      have hsz := hB.size
      have hown2 := Lib.hid hown.out.lt
      have hfin : Hid (EndsRet ls w (.returned (.slice B out.length vc)) w1) := by
        refine ⟨B, vc, qs, by rw [hql], by omega, p2, hqp.trans (by rw [hout.out]), hqs, fun e he => HOKP.out e (hqp.mem_iff.1 he), hsl.more (fun g hg => ?_), hB.grown hg1 hsz (fun g hg => (hown2.out g hg).1), hty⟩
        have := hown2.out g (by rw [hg]; rfl)
        have := hg1.size
        exact ⟨by omega, by omega⟩
      clear hqp hqs hsl hg1 hql p1 p2 hty
      go_wp2
      go_ret
      exact hfin.out
end Go.Proofs.Ythneomehfmjbkaa

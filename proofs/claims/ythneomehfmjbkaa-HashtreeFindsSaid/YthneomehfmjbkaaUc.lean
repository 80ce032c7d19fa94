/-
  The sweep as an iterator.
-/
import Derived.Sort.QuietIn
import Derived.Test.YthneomehfmjbkaaIw
import Derived.Test.YthneomehfmjbkaaUa
import Derived.Test.YthneomehfmjbkaaUs
set_option linter.unusedVariables false
set_option linter.unusedSimpArgs false
set_option linter.unusedSectionVars false
set_option linter.unnecessarySimpa false
namespace Go.Proofs.Ythneomehfmjbkaa
open Go.RowKit Go.Shelf
attribute [local go_sem] Oper.semAt_some


/-- the types of the blocks that a sweep stores into -/
def swOwn (T : TypeId) : Prop := T = 118 ∨ T = 116
/-- every block of ends lies as it lay -/
def KeepEnd (W W' : World) : Prop := ∀ (i : Nat) (cs : Array Value) (fr : Nat × Nat), W.heap[i]? = some (.cells cs 118 fr) → W'.heap[i]? = W.heap[i]?
theorem KeepEnd.refl (W : World) : KeepEnd W W := fun _ _ _ _ => rfl
theorem KeepEnd.trans {A B C : World} (h : KeepEnd A B) (k : KeepEnd B C) : KeepEnd A C := fun i cs fr hi => (k i cs fr ((h i cs fr hi).trans hi)).trans (h i cs fr hi)
theorem KeepEnd.kpT {n₀ : Nat} {A B C : World} (h : KeepEnd A B) (k : KpT swOwn n₀ B C) : KeepEnd A C := h.trans (fun i cs fr hi => k.2.2 i cs _ fr hi (Or.inl rfl))
theorem KeepEnd.alloc {A B : World} (h : KeepEnd A B) (o : Obj) : KeepEnd A (B.alloc o) := h.trans (fun i cs fr hi => Below.heap_alloc _ _ _ (Array.getElem?_eq_some_iff.1 hi).1)
theorem KeepEnd.set {A B : World} (h : KeepEnd A B) {b j : Nat} {u : Value} (hb : A.heap.size ≤ b) : KeepEnd A (B.setCell ⟨b, j, none⟩ u) := fun i cs fr hi => (Below.heap_setCell _ _ _ _ (fun e => by have := (Array.getElem?_eq_some_iff.1 hi).1; simp only at e; omega)).trans (h i cs fr hi)
theorem SlAt.keepEnd {W W' : World} {A : Option Addr} {l : List End} {S : Nat → Prop} (h : SlAt encEnd W S A l) (hT : ∀ b off, l ≠ [] → A = some ⟨b, off, none⟩ → ∃ cs fr, W.heap[b]? = some (.cells cs 118 fr)) (hk : KeepEnd W W') : SlAt encEnd W' S A l := fun hl => by
  obtain ⟨b, off, e, hb, hc⟩ := h hl
  obtain ⟨cs, fr, hh⟩ := hT b off hl e
  have hs := hk _ _ _ hh
  refine ⟨b, off, e, hb, fun i x hx => ?_⟩
  obtain ⟨ys, h1, h2⟩ := hc i x hx
  obtain ⟨rfl, k1, k2, k3⟩ := end_cs h2
  exact ⟨_, fun j v hv => (World.cell?_of_block (a := ⟨b, _, none⟩) hs).trans (h1 j v hv), end_mk k1 k2 k3⟩
def depth2 (k : Nat) (a b : Int) (d : Int) : Int × Int := if k = 0 then (a + d, b) else (a, b + d)
theorem grown_drew {W W' : World} {row : Option Nat} (h : W.grownBy W' row) : W.grownBy W'.drew row := ⟨h.os, h.tape, h.output, h.size, h.block⟩
theorem last_true {qs : List End} {k : Nat} {x : End} (h : ∀ h : k + 1 < qs.length, qs[k + 1].1 ≠ x.1) : lastAt x (qs.drop (k + 1)) = true := by
  by_cases hk : k + 1 < qs.length
  · rw [List.drop_eq_getElem_cons hk]
    exact decide_eq_true (h hk)
  · rw [List.drop_of_length_le (by omega)]; rfl
theorem last_false {qs : List End} {k : Nat} {x : End} (hk : k + 1 < qs.length) (h : qs[k + 1].1 = x.1) : lastAt x (qs.drop (k + 1)) = false := by
  rw [List.drop_eq_getElem_cons hk]
  exact decide_eq_false (by simpa using h)
/-- both depths behind an end -/
def depA (dA d : Int) (L : Nat) : Int := if L = 0 then dA + d else dA
def depB (dB d : Int) (L : Nat) : Int := if L = 0 then dB else dB + d
theorem step_last (keep : Bool → Bool → Bool) (dA dB start : Int) (inside : Bool) (out : List Ext) (p d : Int) (L : Nat) (now : Bool) (hn : now = swIn keep (depA dA d L) (depB dB d L)) : swStep keep ⟨dA, dB, start, inside, out⟩ (p, (L : Int), d) true = ⟨depA dA d L, depB dB d L, if now && !inside then p else start, now, if !now && inside then out ++ [(start, p - start)] else out⟩ := by
  subst hn
  unfold swStep depA depB
  simp only [Bool.true_eq_false, if_false, Int.natCast_eq_zero]
theorem step_more (keep : Bool → Bool → Bool) (dA dB start : Int) (inside : Bool) (out : List Ext) (p d : Int) (L : Nat) : swStep keep ⟨dA, dB, start, inside, out⟩ (p, (L : Int), d) false = ⟨depA dA d L, depB dB d L, start, inside, out⟩ := by
  unfold swStep depA depB
  simp only [if_true, Int.natCast_eq_zero]
theorem dep_set {w : World} {D : Nat} {dA dB d dl : Int} {L : Nat} {T : TypeId} (h : w.heap[D]? = some (.cells #[.int .i64 dA, .int .i64 dB] T (0, 0))) (hL : L < 2) (hd : dl = if L = 0 then dA else dB) : (w.setCell ⟨D, L, none⟩ (.int .i64 (dl + d))).heap[D]? = some (.cells #[.int .i64 (depA dA d L), .int .i64 (depB dB d L)] T (0, 0)) := by
  match L, hL with
  | 0, _ => simp [World.setCell, Array.getElem?_modify, h, depA, depB, hd]
  | 1, _ => simp [World.setCell, Array.getElem?_modify, h, depA, depB, hd]
theorem union1_any (p q : Bool) (w : World) : Calls Try.prog 63 #[.bool p, .bool q] w fun e w' => e = .returned (.bool (or p q)) ∧ w' = w := by
  cases p with
  | true =>
    go_enter Try.func63, Try.ntmps63
    go_wp2
    go_ret
    exact ⟨rfl, rfl⟩
  | false =>
    go_enter Try.func63, Try.ntmps63
    go_wp2
    go_ret
    exact ⟨rfl, rfl⟩
/-- a function of two marks -/
structure KeepFn (kf : Nat) (keep : Bool → Bool → Bool) : Prop where
  enters : ∀ args w, (callFunc kf args).run Try.prog w = .ok (.enter kf args) w
  calls : ∀ (p q : Bool) (w : World), Calls Try.prog kf #[.bool p, .bool q] w fun e w' => e = .returned (.bool (keep p q)) ∧ w' = w
  off : keep false false = false
theorem KeepFn.at {kf : Nat} {keep : Bool → Bool → Bool} (h : KeepFn kf keep) (p q now : Bool) (hn : keep p q = now) (w : World) : Calls Try.prog kf #[.bool p, .bool q] w fun e w' => e = .returned (.bool now) ∧ w = w' :=
  (h.calls p q w).mono fun _ _ ⟨h1, h2⟩ => ⟨by rw [h1, hn], h2.symm⟩
set_option maxRecDepth 100000 in
set_option maxHeartbeats 4000000 in
theorem sweep_in (kf : Nat) (keep : Bool → Bool → Bool) (hkf : KeepFn kf keep) (n : Nat) (hn : 3 ≤ n) (l B1 B2 B3 n₀ : Nat) (A A' : Option Addr) (c c' : Nat) (a b : List Ext) (J Jx : List ExtI → World → Prop)
    (hY : ∀ pre x W, J pre W → pre.length < 1000000 → YieldAt Fence.wide (n - 1) Try.prog l #[.agg #[.int .i64 x.1.1, .int .i64 x.1.2]] W fun e W' =>
      (e = .returned (.bool true) ∧ J (pre ++ [x]) W' ∧ KpT swOwn n₀ W W') ∨ (e = .returned (.bool false) ∧ Jx (pre ++ [x]) W'))
    (W : World) (hn₀ : n₀ ≤ W.heap.size) (hJ : AbidesT swOwn W.heap.size J) (h1 : W.cell? ⟨B1, 0, none⟩ = some (.slice A a.length c)) (h2 : W.cell? ⟨B2, 0, none⟩ = some (.slice A' b.length c')) (h3 : W.cell? ⟨B3, 0, none⟩ = some (.func (.func kf) #[] #[])) (hB3' : B3 < n₀) (h0 : J [] W) (ha : SlAt encExt W (Bl W.heap.size) A a) (hb : SlAt encExt W (Bl W.heap.size) A' b) (hla : a.length ≤ 100000) (hlb : b.length ≤ 100000) (hca : a.length ≤ c ∧ c ≤ maxLen) (hcb : b.length ≤ c' ∧ c' ≤ maxLen) :
    CallsIn Fence.wide n Try.prog 66 #[.func (.yield l) #[] #[], .pointer (some ⟨B1, 0, none⟩), .pointer (some ⟨B2, 0, none⟩), .pointer (some ⟨B3, 0, none⟩)] W fun e W' => (∃ v, e = .returned v) ∧
      ((∃ ys : List ExtI, ys.map (·.1) = opL keep a b ∧ J ys W') ∨ (∃ pre : List ExtI, pre.map (·.1) <+: opL keep a b ∧ Jx pre W')) := by
  have hls : SlAt (encSl encExt) (W.alloc (.cells #[.slice A a.length c, .slice A' b.length c'] 40)) (Bl (W.alloc (.cells #[.slice A a.length c, .slice A' b.length c'] 40)).heap.size) (some ⟨W.heap.size, 0, none⟩) [a, b] := fun _ => by
    have hb' : Below W.heap.size W (W.alloc (.cells #[.slice A a.length c, .slice A' b.length c'] 40)) := ext_alloc (Below.refl _ _)
    refine ⟨W.heap.size, 0, rfl, by simp [Bl], fun i x hx => ?_⟩
    match i, hx with
    | 0, hx =>
      cases hx
      exact ⟨[.slice A a.length c], fun j v hv => by
        have hj : j = 0 := by have := (List.getElem?_eq_some_iff.1 hv).1; simp at this; exact this
        subst hj
        cases hv
        exact cell_of_row _ _ 0 _ _ _ (heap_alloc_new _ _), A, c, rfl, hca.1, hca.2, ha.fwd hb'⟩
    | 1, hx =>
      cases hx
      exact ⟨[.slice A' b.length c'], fun j v hv => by
        have hj : j = 0 := by have := (List.getElem?_eq_some_iff.1 hv).1; simp at this; exact this
        subst hj
        cases hv
        exact cell_of_row _ _ 1 _ _ _ (heap_alloc_new _ _), A', c', rfl, hcb.1, hcb.2, hb.fwd hb'⟩
  have hend := ends_any (some ⟨W.heap.size, 0, none⟩) 2 [a, b] (W.alloc (.cells #[.slice A a.length c, .slice A' b.length c'] 40)) hls (by simp) (by simp; omega)
  have HE := Lib.hid hend; clear hend hls
  have hent := hkf.enters
  have HKF := Lib.hid hkf; clear hkf
  have HJ := Lib.hid hJ; clear hJ
  have HA := Lib.hid ha; have HB := Lib.hid hb; clear ha hb
  refine callsIn_of_wp Try.func66 rfl trivial ?_ rfl
  simp only [Try.ntmps66, List.size_toArray, List.length_cons, List.length_nil, Nat.reduceAdd, Nat.reduceSub, Array.replicate_succ, Array.replicate_zero, List.push_toArray, List.append_toArray, List.nil_append, List.cons_append]
  gi_wp2_with fail
  refine ⟨trivial, fun _ => by omega, CallsIn.mono (callsIn_wide.2 HE.out) ?_⟩
  rintro e w1 ⟨Q, qc, qs, rfl, k1, k2, hperm, hsrt, hok, hsl, hb1, hty⟩
  have hB1 : Below W.heap.size W w1 := ext_trans (ext_alloc (Below.refl _ _)) hb1
  have HP := Lib.hid hperm; have HS := Lib.hid hsrt; have HOK := Lib.hid hok; have HSL := Lib.hid hsl; have HTY := Lib.hid hty
  have HJ1 : Hid (J [] w1) := HJ.out [] W w1 none h0 ⟨hB1.os, hB1.tape, hB1.output, hB1.size, fun i hi _ => hB1.block i hi⟩ (fun r e => by cases e)
  clear hperm hsrt hok hsl hty h0 hb1
  have hrg : ∀ e ∈ qs, 0 ≤ e.1 ∧ e.1 ≤ 4096 ∧ (e.2.1 = 0 ∨ e.2.1 = 1) ∧ (e.2.2 = 1 ∨ e.2.2 = -1) := fun e he => by
    have h2 := HP.out.mem_iff.1 he
    exact ends_range (a := a) (b := b) e (by simpa [endsN, List.range_succ, endsOf] using h2)
  have hql : qs.length ≤ 400000 := by
    have h2 := HP.out.length_eq
    have h3 := endsN_len [a, b] 2 (by simp)
    simp at h2 h3
    omega
  have HRG := Lib.hid hrg; clear hrg
  have hsz1 := hB1.size
  gi_wp2_with fail
  gi_loopw [7, 8, 18] (fun s ins i wr => ∃ (k : Nat) (pre : List ExtI) (st : Sw), k ≤ qs.length ∧ i = .int .i64 k ∧ s = .int .i64 st.start ∧ ins = .bool st.inside ∧ Hid (st = swN keep qs k) ∧ Hid (pre.map (·.1) = st.out) ∧ J pre wr ∧ Hid (wr.heap[w1.heap.size]? = some (.cells #[.int .i64 st.dA, .int .i64 st.dB] 116 (0, 0))) ∧ Below n₀ W wr ∧ KeepEnd w1 wr) (fun _ _ i _ => qs.length - (intOf i).toNat)
  case atStart =>
    refine ⟨0, [], sw0, Nat.zero_le _, rfl, rfl, rfl, rfl, rfl, ?_, heap_alloc_new _ _, (hB1.mono hn₀).alloc (by omega) _, (KeepEnd.refl _).alloc _⟩
    exact HJ.out [] w1 _ none HJ1.out (World.grownBy_alloc _ _ _) (fun r e => by cases e)
  case round =>
    obtain ⟨k, pre, st, hk, rfl, rfl, rfl, hst, hpre, hJs, hdep, hB, hke⟩ := hrel
    have hdl := (Array.getElem?_eq_some_iff.1 hdep.out).1
    by_cases hlt : k < qs.length
    · obtain ⟨bq, off, rfl, hbq, e0, e1, e2, i1, i2, i3⟩ := (HSL.out.keepEnd HTY.out hke).end_ hlt
      obtain ⟨g1, g2, g3, g4⟩ := HRG.out qs[k] (List.getElem_mem hlt)
      obtain ⟨y, hy⟩ : ∃ y, Hid (y = qs[k]'hlt) := ⟨_, Lib.hid rfl⟩
      rw [← hy.out] at e0 e1 e2 i1 i2 i3 g1 g2 g3 g4
      obtain ⟨p, L, d⟩ := y
      simp only at e0 e1 e2 i1 i2 i3 g1 g2 g3 g4
      obtain ⟨Ln, hLn⟩ : ∃ Ln : Nat, L = Ln := ⟨L.toNat, by omega⟩
      subst hLn
      have hnn : (0 : Int) ≤ k := by omega
      have hki : (k : Int) < qs.length := by omega
      have hok := swN_ok keep qs HRG.out k hk
      rw [← hst.out] at hok
      obtain ⟨o1, o2, o3, o4, o5, o6, o7, o8⟩ := hok
      obtain ⟨dl, hdl2, hdl3, hdl4⟩ : ∃ dl, Hid (dl = if Ln = 0 then st.dA else st.dB) ∧ -(k : Int) ≤ dl ∧ dl ≤ k := ⟨_, Lib.hid rfl, by split <;> assumption, by split <;> assumption⟩
      have hdc : wr.cell? ⟨w1.heap.size, Ln, none⟩ = some (.int .i64 dl) := by
        rw [cell_of_row _ _ _ _ _ _ hdep.out, hdl2.out]
        rcases g3 with g3 | g3
        · have : Ln = 0 := by omega
          subst this; rfl
        · have : Ln = 1 := by omega
          subst this; rfl
      have hdf : ∀ j, wr.frozen? ⟨w1.heap.size, j, none⟩ = false := fun j => by simp [World.frozen?, hdep.out]
      have hL2 : (Ln : Int) < 2 := by omega
      have hL0 : (0 : Int) ≤ Ln := by omega
      have hd1 : -1 ≤ d := by omega
      have hd2 : d ≤ 1 := by omega
      have HG3 := Lib.hid g3; have HG4 := Lib.hid g4
      clear g3 g4
      obtain ⟨dA, dB, start, inside, out⟩ := st
      simp only at hst hpre hdep hdl2 o1 o2 o3 o4 o5 o6 o7 o8
      have hls := fun (q : Bool) (hq : lastAt (p, (Ln : Int), d) (qs.drop (k + 1)) = q) => Lib.hid (show swN keep qs (k + 1) = swStep keep ⟨dA, dB, start, inside, out⟩ (p, (Ln : Int), d) q by rw [swN_succ hlt, ← hst.out, ← hy.out, hq])
      have HLS := Lib.hid hls; clear hls
      gi_wp2_with fail
      gi_region
      have hdep2 := Lib.hid (dep_set (d := d) hdep.out (by omega) hdl2.out)
      have hX := heap_alloc_new (wr.setCell ⟨w1.heap.size, Ln, none⟩ (.int .i64 (dl + d))) (.cells #[.int .i64 p, .int .i64 Ln, .int .i64 d] 118)
      have hszs : (wr.setCell ⟨w1.heap.size, Ln, none⟩ (.int .i64 (dl + d))).heap.size = wr.heap.size := by simp [World.setCell]
      rw [hszs] at hX
      have hJ2 : Hid (J pre ((wr.setCell ⟨w1.heap.size, Ln, none⟩ (.int .i64 (dl + d))).alloc (.cells #[.int .i64 p, .int .i64 Ln, .int .i64 d] 118)).drew) := by
        have hg1 : wr.grownBy (wr.setCell ⟨w1.heap.size, Ln, none⟩ (.int .i64 (dl + d))) (some w1.heap.size) := ⟨rfl, rfl, rfl, by rw [hszs]; exact Nat.le_refl _, fun i hi hne => Below.heap_setCell _ _ _ _ (fun e => hne (by rw [e]))⟩
        refine HJ.out pre wr _ (some w1.heap.size) hJs (grown_drew (grown_alloc hg1 _)) (fun r e => ?_)
        cases e
        exact ⟨hsz1, _, hdep.out, Or.inr ⟨_, _, _, rfl, Or.inr rfl⟩⟩
      have hB2 : Below n₀ W ((wr.setCell ⟨w1.heap.size, Ln, none⟩ (.int .i64 (dl + d))).alloc (.cells #[.int .i64 p, .int .i64 Ln, .int .i64 d] 118)).drew := ((hB.setCell (p := ⟨w1.heap.size, Ln, none⟩) (by simp; omega) _).alloc (by rw [hszs]; omega) _).drew
      have hke2 : Hid (KeepEnd w1 ((wr.setCell ⟨w1.heap.size, Ln, none⟩ (.int .i64 (dl + d))).alloc (.cells #[.int .i64 p, .int .i64 Ln, .int .i64 d] 118)).drew) := (hke.set (Nat.le_refl _)).alloc _
      have hdep3 : Hid (((wr.setCell ⟨w1.heap.size, Ln, none⟩ (.int .i64 (dl + d))).alloc (.cells #[.int .i64 p, .int .i64 Ln, .int .i64 d] 118)).drew.heap[w1.heap.size]? = some (.cells #[.int .i64 (depA dA d Ln), .int .i64 (depB dB d Ln)] 116 (0, 0))) := (Below.heap_alloc _ _ _ (by rw [hszs]; exact hdl)).trans hdep2.out
      have hX2 : ((wr.setCell ⟨w1.heap.size, Ln, none⟩ (.int .i64 (dl + d))).alloc (.cells #[.int .i64 p, .int .i64 Ln, .int .i64 d] 118)).drew.heap[wr.heap.size]? = some (.cells #[.int .i64 p, .int .i64 Ln, .int .i64 d] 118 (0, 0)) := hX
      have hsz2 : wr.heap.size < ((wr.setCell ⟨w1.heap.size, Ln, none⟩ (.int .i64 (dl + d))).alloc (.cells #[.int .i64 p, .int .i64 Ln, .int .i64 d] 118)).drew.heap.size := (Array.getElem?_eq_some_iff.1 hX2).1
      clear hX hszs hdep2 hJs
      generalize ((wr.setCell ⟨w1.heap.size, Ln, none⟩ (.int .i64 (dl + d))).alloc (.cells #[.int .i64 p, .int .i64 Ln, .int .i64 d] 118)).drew = w2 at hJ2 hB2 hke2 hdep3 hX2 hsz2 ⊢
      have x0 := cell_of_row _ _ 0 _ _ _ hX2
      clear hdc hdf e0 e1 e2
      by_cases hk1 : k + 1 < qs.length
      · obtain ⟨bq', off', hbo, _, f0, f1, f2, _⟩ := (HSL.out.keepEnd HTY.out hke2.out).end_ hk1
        injection hbo with hbo
        injection hbo with hbo1 hbo2
        subst hbo1 hbo2
        obtain ⟨p2, hp2⟩ : ∃ p2, Hid (p2 = (qs[k + 1]'hk1).1) := ⟨_, Lib.hid rfl⟩
        rw [← hp2.out] at f0
        clear f1 f2
        have hk1i : (k : Int) + 1 < qs.length := by omega
        have hk1d : decide ((k : Int) + 1 < qs.length) = true := decide_eq_true hk1i
        by_cases hpp : p2 = p
        · have hppb : (p2 == p) = true := by simp [hpp]
          have HPP := Lib.hid hpp; clear hpp
          gi_wp2_with fail
          gi_quiet (fail)
          gi_wp2_with fail
          go_roundw
          case rel =>
            refine ⟨k + 1, pre, ⟨depA dA d Ln, depB dB d Ln, start, inside, out⟩, hlt, by go_num, rfl, rfl, ?_, hpre.out, ?_, hdep3.out, bDrew hB2 _, hke2.out⟩
            · rw [Hid, (HLS.out false (last_false hk1 (by rw [← hp2.out]; exact HPP.out))).out, step_more]
            · exact HJ.out pre w2 _ none hJ2.out ⟨rfl, rfl, rfl, Nat.le_refl _, fun _ _ _ => rfl⟩ (fun r e => by cases e)
          case measure => simp [intOf]; omega
        · have hppb : (p2 == p) = false := by simp [hpp]
          have hlast : Hid (lastAt (p, (Ln : Int), d) (qs.drop (k + 1)) = true) := last_true (fun h => by rw [← hp2.out]; exact hpp)
          have HPP := Lib.hid hpp; clear hpp
          gi_wp2_with fail
          gi_quiet (fail)
          have hJ3 : Hid (J pre (w2.drewN nq)) := HJ.out pre w2 _ none hJ2.out ⟨rfl, rfl, rfl, Nat.le_refl _, fun _ _ _ => rfl⟩ (fun r e => by cases e)
          have hB3 : Below n₀ W (w2.drewN nq) := bDrew hB2 _
          have hke3 : Hid (KeepEnd w1 (w2.drewN nq)) := hke2.out
          have hdep4 : (w2.drewN nq).heap[w1.heap.size]? = some (.cells #[.int .i64 (depA dA d Ln), .int .i64 (depB dB d Ln)] 116 (0, 0)) := hdep3.out
          have hX3 : (w2.drewN nq).heap[wr.heap.size]? = some (.cells #[.int .i64 p, .int .i64 Ln, .int .i64 d] 118 (0, 0)) := hX2
          clear hJ2 hB2 hke2 hdep3 hX2 hsz2 x0
          generalize w2.drewN nq = w3 at hJ3 hB3 hke3 hdep4 hX3 ⊢
          have x0 := cell_of_row _ _ 0 _ _ _ hX3
          have d0 := cell_of_row _ _ 0 _ _ _ hdep4
          have d1 := cell_of_row _ _ 1 _ _ _ hdep4
          have hb3 := (hB3.cell (p := ⟨B3, 0, none⟩) hB3').trans h3
          have HDEP := Lib.hid hdep4
          clear hX3 hdep4
          obtain ⟨eA, hA⟩ : ∃ eA, Hid (eA = depA dA d Ln) := ⟨_, Lib.hid rfl⟩
          obtain ⟨eB, hB'⟩ : ∃ eB, Hid (eB = depB dB d Ln) := ⟨_, Lib.hid rfl⟩
          rw [← hA.out] at d0
          rw [← hB'.out] at d1
          obtain ⟨now, hnow⟩ : ∃ now, Hid (now = swIn keep eA eB) := ⟨_, Lib.hid rfl⟩
          have hstep : Hid (swN keep qs (k + 1) = ⟨depA dA d Ln, depB dB d Ln, if now && !inside then p else start, now, if !now && inside then out ++ [(start, p - start)] else out⟩) := by
            rw [Hid, (HLS.out true hlast.out).out, step_last (now := now) (hn := by rw [hnow.out, hA.out, hB'.out])]
          gi_wp2_with fail
          refine ⟨trivial, fun _ => by omega, CallsIn.mono (callsIn_wide.2 (HKF.out.at _ _ now hnow.out.symm w3)) ?_⟩
          clear d0 d1 hb3
          rintro e w' ⟨rfl, rfl⟩
          cases now with
          | true =>
            cases inside with
            | true =>
              gi_wp2_with fail
              refine ⟨fun _ h => (by cases h), ?_⟩
              gi_wp2_with fail
              go_roundw
              case rel => exact ⟨k + 1, pre, _, hlt, by go_num, rfl, rfl, hstep.out.symm, hpre.out, hJ3.out, HDEP.out, hB3, hke3.out⟩
              case measure => simp [intOf]; omega
            | false =>
              gi_wp2_with fail
              refine ⟨fun _ h => (by cases h), ?_⟩
              gi_wp2_with fail
              go_roundw
              case rel => exact ⟨k + 1, pre, _, hlt, by go_num, rfl, rfl, hstep.out.symm, hpre.out, hJ3.out, HDEP.out, hB3, hke3.out⟩
              case measure => simp [intOf]; omega
          | false =>
            cases inside with
            | false =>
              gi_wp2_with fail
              refine ⟨fun _ h => (by cases h), ?_⟩
              gi_wp2_with fail
              go_roundw
              case rel => exact ⟨k + 1, pre, _, hlt, by go_num, rfl, rfl, hstep.out.symm, hpre.out, hJ3.out, HDEP.out, hB3, hke3.out⟩
              case measure => simp [intOf]; omega
            | true =>
              have hpl : pre.length < 1000000 := by
                have h2 := congrArg List.length hpre.out
                rw [List.length_map] at h2
                omega
              have hx64 : I64 start ∧ I64 (p - start) := by unfold I64; omega
              obtain ⟨fn, tmps, assign, body, hy', hR⟩ := hY pre ⟨(start, p - start), hx64⟩ w3 hJ3.out hpl
              dsimp only at hy'
              gi_wp2_with fail
              refine ⟨fun _ => by omega, hR.mono ?_⟩
              clear x0 hy' hR
              have hgr := Lib.hid hB3; clear hB3
              rintro e w4 (⟨rfl, hJ4, hk4⟩ | ⟨rfl, hJx4⟩)
              · have hd4 : Hid (w4.heap[w1.heap.size]? = some (.cells #[.int .i64 (depA dA d Ln), .int .i64 (depB dB d Ln)] 116 (0, 0))) := (hk4.2.2 _ _ _ _ HDEP.out (Or.inr rfl)).trans HDEP.out
                gi_wp2_with fail
                go_roundw
                case rel => exact ⟨k + 1, pre ++ [⟨(start, p - start), hx64⟩], _, hlt, by go_num, rfl, rfl, hstep.out.symm, by rw [Hid, List.map_append, hpre.out]; rfl, hJ4, hd4.out, hgr.out.trans hk4.1, hke3.out.kpT hk4⟩
                case measure => simp [intOf]; omega
              · have hpf : Hid ((pre ++ [(⟨(start, p - start), hx64⟩ : ExtI)]).map (·.1) <+: opL keep a b) := by
                  have h2 := sweep_law keep HKF.out.off a b qs (by have h2 := HP.out; simpa [endsN, List.range_succ, endsOf] using h2) HS.out
                  have h3 := swN_prefix keep qs (k := k + 1) hlt
                  rw [← sweepL_swN, h2, hstep.out] at h3
                  rw [Hid, List.map_append, hpre.out]
                  exact h3
                gi_wp2_with fail
                refine bodyPost_ret (results_none rfl _ _ _) rfl ?_
                exact ⟨⟨_, rfl⟩, .inr ⟨_, hpf.out, hJx4⟩⟩
      · have hk1i : ¬ ((k : Int) + 1 < qs.length) := by omega
        have hk1d : decide ((k : Int) + 1 < qs.length) = false := decide_eq_false hk1i
        have hlast : Hid (lastAt (p, (Ln : Int), d) (qs.drop (k + 1)) = true) := last_true (fun h => absurd h hk1)
        have hk1e : (qs.length : Int) ≤ (k : Int) + 1 := by omega
        clear hk1 hk1i
        gi_wp2_with fail
        gi_quiet (fail)
        have hJ3 : Hid (J pre (w2.drewN nq)) := HJ.out pre w2 _ none hJ2.out ⟨rfl, rfl, rfl, Nat.le_refl _, fun _ _ _ => rfl⟩ (fun r e => by cases e)
        have hB3 : Below n₀ W (w2.drewN nq) := bDrew hB2 _
        have hke3 : Hid (KeepEnd w1 (w2.drewN nq)) := hke2.out
        have hdep4 : (w2.drewN nq).heap[w1.heap.size]? = some (.cells #[.int .i64 (depA dA d Ln), .int .i64 (depB dB d Ln)] 116 (0, 0)) := hdep3.out
        have hX3 : (w2.drewN nq).heap[wr.heap.size]? = some (.cells #[.int .i64 p, .int .i64 Ln, .int .i64 d] 118 (0, 0)) := hX2
        clear hJ2 hB2 hke2 hdep3 hX2 hsz2 x0
        generalize w2.drewN nq = w3 at hJ3 hB3 hke3 hdep4 hX3 ⊢
        have x0 := cell_of_row _ _ 0 _ _ _ hX3
        have d0 := cell_of_row _ _ 0 _ _ _ hdep4
        have d1 := cell_of_row _ _ 1 _ _ _ hdep4
        have hb3 := (hB3.cell (p := ⟨B3, 0, none⟩) hB3').trans h3
        have HDEP := Lib.hid hdep4
        clear hX3 hdep4
        obtain ⟨eA, hA⟩ : ∃ eA, Hid (eA = depA dA d Ln) := ⟨_, Lib.hid rfl⟩
        obtain ⟨eB, hB'⟩ : ∃ eB, Hid (eB = depB dB d Ln) := ⟨_, Lib.hid rfl⟩
        rw [← hA.out] at d0
        rw [← hB'.out] at d1
        obtain ⟨now, hnow⟩ : ∃ now, Hid (now = swIn keep eA eB) := ⟨_, Lib.hid rfl⟩
        have hstep : Hid (swN keep qs (k + 1) = ⟨depA dA d Ln, depB dB d Ln, if now && !inside then p else start, now, if !now && inside then out ++ [(start, p - start)] else out⟩) := by
          rw [Hid, (HLS.out true hlast.out).out, step_last (now := now) (hn := by rw [hnow.out, hA.out, hB'.out])]
        gi_wp2_with fail
        refine ⟨trivial, fun _ => by omega, CallsIn.mono (callsIn_wide.2 (HKF.out.at _ _ now hnow.out.symm w3)) ?_⟩
        clear d0 d1 hb3
        rintro e w' ⟨rfl, rfl⟩
        cases now with
        | true =>
          cases inside with
          | true =>
            gi_wp2_with fail
            refine ⟨fun _ h => (by cases h), ?_⟩
            gi_wp2_with fail
            go_roundw
            case rel => exact ⟨k + 1, pre, _, hlt, by go_num, rfl, rfl, hstep.out.symm, hpre.out, hJ3.out, HDEP.out, hB3, hke3.out⟩
            case measure => simp [intOf]; omega
          | false =>
            gi_wp2_with fail
            refine ⟨fun _ h => (by cases h), ?_⟩
            gi_wp2_with fail
            go_roundw
            case rel => exact ⟨k + 1, pre, _, hlt, by go_num, rfl, rfl, hstep.out.symm, hpre.out, hJ3.out, HDEP.out, hB3, hke3.out⟩
            case measure => simp [intOf]; omega
        | false =>
          cases inside with
          | false =>
            gi_wp2_with fail
            refine ⟨fun _ h => (by cases h), ?_⟩
            gi_wp2_with fail
            go_roundw
            case rel => exact ⟨k + 1, pre, _, hlt, by go_num, rfl, rfl, hstep.out.symm, hpre.out, hJ3.out, HDEP.out, hB3, hke3.out⟩
            case measure => simp [intOf]; omega
          | true =>
            have hpl : pre.length < 1000000 := by
              have h2 := congrArg List.length hpre.out
              rw [List.length_map] at h2
              omega
            have hx64 : I64 start ∧ I64 (p - start) := by unfold I64; omega
            obtain ⟨fn, tmps, assign, body, hy', hR⟩ := hY pre ⟨(start, p - start), hx64⟩ w3 hJ3.out hpl
            dsimp only at hy'
            gi_wp2_with fail
            refine ⟨fun _ => by omega, hR.mono ?_⟩
            clear x0 hy' hR
            have hgr := Lib.hid hB3; clear hB3
            rintro e w4 (⟨rfl, hJ4, hk4⟩ | ⟨rfl, hJx4⟩)
            · have hd4 : Hid (w4.heap[w1.heap.size]? = some (.cells #[.int .i64 (depA dA d Ln), .int .i64 (depB dB d Ln)] 116 (0, 0))) := (hk4.2.2 _ _ _ _ HDEP.out (Or.inr rfl)).trans HDEP.out
              gi_wp2_with fail
              go_roundw
              case rel => exact ⟨k + 1, pre ++ [⟨(start, p - start), hx64⟩], _, hlt, by go_num, rfl, rfl, hstep.out.symm, by rw [Hid, List.map_append, hpre.out]; rfl, hJ4, hd4.out, hgr.out.trans hk4.1, hke3.out.kpT hk4⟩
              case measure => simp [intOf]; omega
            · have hpf : Hid ((pre ++ [(⟨(start, p - start), hx64⟩ : ExtI)]).map (·.1) <+: opL keep a b) := by
                have h2 := sweep_law keep HKF.out.off a b qs (by have h2 := HP.out; simpa [endsN, List.range_succ, endsOf] using h2) HS.out
                have h3 := swN_prefix keep qs (k := k + 1) hlt
                rw [← sweepL_swN, h2, hstep.out] at h3
                rw [Hid, List.map_append, hpre.out]
                exact h3
              gi_wp2_with fail
              refine bodyPost_ret (results_none rfl _ _ _) rfl ?_
              exact ⟨⟨_, rfl⟩, .inr ⟨_, hpf.out, hJx4⟩⟩
    · have hkk : k = qs.length := by omega
      subst hkk
      have hfin : Hid (pre.map (·.1) = opL keep a b) := by
        rw [Hid, hpre.out, hst.out, ← sweepL_swN]
        exact sweep_law _ HKF.out.off a b qs (by have h2 := HP.out; simpa [endsN, List.range_succ, endsOf] using h2) HS.out
      gi_wp2_with fail
      go_end0
      exact ⟨⟨_, rfl⟩, .inl ⟨pre, hfin.out, hJs⟩⟩
end Go.Proofs.Ythneomehfmjbkaa

/-
  Plain words: pruning step by step keeps what pruning at the end keeps; each index that is kept has a reason. No program in sight.
  slices.Equal over numbers, the reference's Same of policies, the reasons of RetentionBounded: the walks.
-/
import Derived.Test.YtnkmklnlaepdeaaGreatY4
import Derived.Test.YtnkmklnlaepdeaaGreatYe
import Derived.Test.YtnkmklnlaepdeaaGreatTk
set_option linter.unusedVariables false
set_option linter.unusedSimpArgs false
set_option linter.unusedSectionVars false
set_option linter.unnecessarySimpa false
namespace Go.Proofs.YtnkmklnlaepdeaaGreat

def nowT (d : List Int) (k : Nat) : Int := (d.take k).sum
def allT (d : List Int) (k : Nat) : List Int := (List.range k).map fun j => nowT d (j + 1)
def leftT (p : Pol) (d : List Int) : Nat → List Int
  | 0 => []
  | k + 1 => keepV p (leftT p d k ++ [nowT d (k + 1)]) (nowT d (k + 1))
theorem nowT_zero (d : List Int) : nowT d 0 = 0 := by simp [nowT]
theorem nowT_succ {d : List Int} {k : Nat} (hk : k < d.length) : nowT d (k + 1) = nowT d k + d[k] := by
  unfold nowT; rw [List.take_succ_eq_append_getElem hk, List.sum_append]; simp
theorem allT_succ (d : List Int) (k : Nat) : allT d (k + 1) = allT d k ++ [nowT d (k + 1)] := by
  unfold allT; rw [List.range_succ, List.map_append]; rfl
theorem allT_len (d : List Int) (k : Nat) : (allT d k).length = k := by simp [allT]
theorem nowT_bound {d : List Int} (hd : ∀ x ∈ d, 0 ≤ x ∧ x < 65536) : ∀ k, k ≤ d.length → 0 ≤ nowT d k ∧ nowT d k ≤ 65536 * (k : Int)
  | 0, _ => by rw [nowT_zero]; omega
  | k + 1, hk => by
    have h := nowT_bound hd k (by omega)
    have h2 := hd d[k] (List.getElem_mem _)
    rw [nowT_succ (by omega)]
    omega
theorem keepV_mem {p : Pol} {l : List Int} {now t : Int} (h : t ∈ keepV p l now) : t ∈ l := (keepV_sub p l now).subset h
theorem sorted_snoc {l : List Int} {t : Int} (h : l.Pairwise (· ≤ ·)) (hl : ∀ x ∈ l, x ≤ t) : (l ++ [t]).Pairwise (· ≤ ·) :=
  List.pairwise_append.2 ⟨h, List.pairwise_singleton .., fun a ha b hb => by rw [List.mem_singleton] at hb; rw [hb]; exact hl a ha⟩
theorem leftT_ok {p : Pol} {d : List Int} (hd : ∀ x ∈ d, 0 ≤ x ∧ x < 65536) : ∀ k, k ≤ d.length → (∀ t ∈ leftT p d k, 0 ≤ t ∧ t ≤ nowT d k) ∧ (leftT p d k).Pairwise (· ≤ ·) ∧ (leftT p d k).length ≤ k
  | 0, _ => ⟨by simp [leftT], List.Pairwise.nil, by simp [leftT]⟩
  | k + 1, hk => by
    obtain ⟨h1, h2, h3⟩ := leftT_ok (p := p) hd k (by omega)
    have hs := nowT_succ (d := d) (k := k) (by omega)
    have hb := hd d[k] (List.getElem_mem _)
    have hn := nowT_bound hd k (by omega)
    have hall : ∀ t ∈ leftT p d k ++ [nowT d (k + 1)], 0 ≤ t ∧ t ≤ nowT d (k + 1) := by
      intro t ht
      rcases List.mem_append.1 ht with ht | ht
      · have := h1 t ht; omega
      · rw [List.mem_singleton] at ht; omega
    refine ⟨fun t ht => hall t (keepV_mem ht), (sorted_snoc h2 (fun x hx => by have := h1 x hx; omega)).sublist (keepV_sub _ _ _), ?_⟩
    have := (keepV_sub p (leftT p d k ++ [nowT d (k + 1)]) (nowT d (k + 1))).length_le
    rw [List.length_append, List.length_singleton] at this
    show (keepV p _ _).length ≤ _
    omega
theorem allT_ok {d : List Int} (hd : ∀ x ∈ d, 0 ≤ x ∧ x < 65536) : ∀ k, k ≤ d.length → (∀ t ∈ allT d k, 0 ≤ t ∧ t ≤ nowT d k) ∧ (allT d k).Pairwise (· ≤ ·)
  | 0, _ => ⟨by simp [allT], List.Pairwise.nil⟩
  | k + 1, hk => by
    obtain ⟨h1, h2⟩ := allT_ok hd k (by omega)
    have hs := nowT_succ (d := d) (k := k) (by omega)
    have hb := hd d[k] (List.getElem_mem _)
    have hn := nowT_bound hd k (by omega)
    rw [allT_succ]
    refine ⟨fun t ht => ?_, sorted_snoc h2 (fun x hx => by have := h1 x hx; omega)⟩
    rcases List.mem_append.1 ht with ht | ht
    · have := h1 t ht; omega
    · rw [List.mem_singleton] at ht; omega
/-- what is left keeps what all would keep -/
theorem stable_law {p : Pol} (hp : polE p = 0) {d : List Int} (hd : ∀ x ∈ d, 0 ≤ x ∧ x < 65536) : ∀ k, k ≤ d.length → ∀ (n : Int), nowT d k ≤ n → ∀ m, keepV p (leftT p d k ++ m) n = keepV p (allT d k ++ m) n
  | 0, _, _, _, _ => rfl
  | k + 1, hk, n, hn, m => by
    have hs := nowT_succ (d := d) (k := k) (by omega)
    have hb := hd d[k] (List.getElem_mem _)
    have ho := (polE_ok hp).2.2.2.1
    have h1 := leftT_ok (p := p) hd k (by omega)
    show keepV p (keepV p (leftT p d k ++ [nowT d (k + 1)]) (nowT d (k + 1)) ++ m) n = _
    rw [keepV_drop (fun r hr => (ho r hr).1) hn, allT_succ, List.append_assoc, List.append_assoc, stable_law hp hd k (by omega) n (by omega)]
    intro t ht
    rcases List.mem_append.1 ht with ht | ht
    · have := h1.1 t ht; omega
    · rw [List.mem_singleton] at ht; omega
/-- the times of the indices that are kept -/
theorem keepL_V {p : Pol} (hp : polE p = 0) {l : List Int} {now : Int} (h1 : ∀ t ∈ l, 0 ≤ t ∧ t ≤ now) (h2 : l.Pairwise (· ≤ ·)) (h3 : l.length ≤ 1024) (hn : 0 ≤ now ∧ now ≤ 1073741824) : (keepL p l now).map (fun i => l.getD i 0) = keepV p l now := by
  unfold keepL
  rw [if_pos ⟨hp, timesB_mk (fun t ht => by have := h1 t ht; omega) h2 h3, by simp [okT, hn]⟩]
  rfl
theorem keepL_lt {p : Pol} {l : List Int} {now : Int} {i : Nat} (h : i ∈ keepL p l now) : i < l.length := by
  unfold keepL at h
  split at h
  · exact (mem_keepN.1 h).1
  · simp at h
/-- the two final lists are equal -/
theorem stable_end {p : Pol} (hp : polE p = 0) {d : List Int} (hd : ∀ x ∈ d, 0 ≤ x ∧ x < 65536) (hk : d.length ≤ 40) {n : Int} (hn : nowT d d.length ≤ n) (hm : n ≤ 1073741824) :
    (keepL p (allT d d.length) n).map (fun i => (allT d d.length).getD i 0) = (keepL p (leftT p d d.length) n).map (fun i => (leftT p d d.length).getD i 0) := by
  obtain ⟨a1, a2⟩ := allT_ok hd d.length (Nat.le_refl _)
  obtain ⟨b1, b2, b3⟩ := leftT_ok (p := p) hd d.length (Nat.le_refl _)
  have h0 := nowT_bound hd d.length (Nat.le_refl _)
  rw [keepL_V hp (fun t ht => by have := a1 t ht; omega) a2 (by rw [allT_len]; omega) (by omega), keepL_V hp (fun t ht => by have := b1 t ht; omega) b2 (by omega) (by omega)]
  have := stable_law hp hd d.length (Nat.le_refl _) n hn []
  rw [List.append_nil, List.append_nil] at this
  exact this.symm

/-! bounds -/
/-- a rule's reason for an index, as the statement has it -/
def bndB (ts : List Int) (now : Int) (i : Nat) (r : Rule) : Bool :=
  if r.1 < 1 then false else decide (ts.getD i 0 ≤ now) && decide (now / r.1 - ts.getD i 0 / r.1 < r.2) && !(decide (i + 1 < ts.length) && decide (ts.getD (i + 1) 0 ≤ now) && decide (ts.getD (i + 1) 0 / r.1 = ts.getD i 0 / r.1))
theorem getD_mem {l : List Int} {i : Nat} (h : i < l.length) : l.getD i 0 ∈ l := by
  rw [List.getD_eq_getElem?_getD, List.getElem?_eq_getElem h]; exact List.getElem_mem _
theorem keepL_cond {p : Pol} {ts : List Int} {now : Int} {i : Nat} (h : i ∈ keepL p ts now) : (polE p = 0 ∧ timesB ts = true ∧ okT now = true) ∧ i ∈ keepN p ts now := by
  unfold keepL at h
  split at h
  · rename_i hc; exact ⟨hc, h⟩
  · simp at h
theorem keepL_pairwise (p : Pol) (ts : List Int) (now : Int) : (keepL p ts now).Pairwise (· < ·) := by
  unfold keepL
  split
  · exact List.Pairwise.filter _ List.pairwise_lt_range
  · exact List.Pairwise.nil
theorem keepL_len (p : Pol) (ts : List Int) (now : Int) : (keepL p ts now).length ≤ ts.length := by
  unfold keepL keepN
  split
  · have := List.length_filter_le (keptB p ts now) (List.range ts.length); simpa using this
  · simp
theorem bound_rule {p : Pol} {ts : List Int} {now : Int} {i : Nat} (h : i ∈ keepL p ts now) (hn : ¬ (ts.length : Int) - p.1 ≤ i) : (p.2.any (bndB ts now i)) = true := by
  obtain ⟨⟨hp, ht, ho⟩, hm⟩ := keepL_cond h
  obtain ⟨hi, hk⟩ := mem_keepN.1 hm
  obtain ⟨t1, _, _⟩ := timesB_ok ht
  have ho : 0 ≤ now ∧ now ≤ 1073741824 := by simpa [okT] using ho
  have hr := (polE_ok hp).2.2.2.1
  unfold keptB at hk
  rw [decide_eq_false hn, Bool.false_or, List.any_eq_true] at hk
  obtain ⟨r, hr1, hr2⟩ := hk
  rw [List.any_eq_true]
  refine ⟨r, hr1, ?_⟩
  have hre := hr r hr1
  unfold ruledB at hr2
  simp only [Bool.and_eq_true, decide_eq_true_eq] at hr2
  obtain ⟨⟨q1, q2⟩, q3⟩ := hr2
  unfold bndB
  rw [if_neg (by omega), decide_eq_true q1, decide_eq_true (by omega), Bool.true_and, Bool.true_and, Bool.not_eq_true']
  by_cases hl : i + 1 < ts.length
  · unfold noLater at q3
    rw [List.all_eq_true] at q3
    have := q3 (ts.getD (i + 1) 0) (by
      have e : ts.getD (i + 1) 0 = ts[i + 1] := by rw [List.getD_eq_getElem?_getD, List.getElem?_eq_getElem hl]; rfl
      rw [e, List.drop_eq_getElem_cons hl]; exact List.mem_cons_self ..)
    rw [Bool.not_eq_true'] at this
    rw [Bool.and_assoc, this, Bool.and_false]
  · rw [decide_eq_false hl]; rfl
/-- the newest ones are kept -/
theorem bound_new {p : Pol} {ts : List Int} {now : Int} (hne : (polE p = 0 ∧ timesB ts = true ∧ okT now = true)) {i : Nat} (hi : i < ts.length) (hn : (ts.length : Int) - p.1 ≤ i) : i ∈ keepL p ts now := by
  unfold keepL
  rw [if_pos hne]
  exact mem_keepN.2 ⟨hi, by unfold keptB; rw [decide_eq_true hn]; rfl⟩
theorem bound_nil {p : Pol} {ts : List Int} {now : Int} (h : keepL p ts now = []) (hc : polE p = 0 ∧ timesB ts = true ∧ okT now = true) : ¬ (0 < p.1 ∧ 0 < ts.length) := by
  rintro ⟨h1, h2⟩
  have := bound_new (p := p) hc (i := ts.length - 1) (by omega) (by omega)
  rw [h] at this
  simp at this
end Go.Proofs.YtnkmklnlaepdeaaGreat

namespace Go.Proofs.YtnkmklnlaepdeaaGreat
open Go.RowKit Go.Shelf
attribute [local go_sem] Oper.semAt_some

set_option maxHeartbeats 4000000 in
theorem eqInts_any (A A' : Option Addr) (c c' n n' : Nat) (S S' : Nat → Prop) (l m : List Int) (r : Bool) (w : World) (hn : l.length = n) (hn' : m.length = n') (hr : decide (l = m) = r) (h1 : SlAt encInt w S A l) (h2 : SlAt encInt w S' A' m) (hs : n ≤ 9223372036854775807) (ht : n' ≤ 9223372036854775807) :
    Calls Tryz.prog 9 #[.slice A n c, .slice A' n' c'] w fun e w' => e = .returned (.bool r) ∧ Drew w w' := by
  subst hn hn'
  have HR := Lib.hid hr; clear hr
  by_cases hl : l.length = m.length
  · have hl' : (((l.length : Nat) : Int) != (m.length : Int)) = false := by simp [hl]
    have HL := Lib.hid hl; clear hl
    go_enter Tryz.func9, Tryz.ntmps9
    go_wp2
    go_loopw [13] (fun i wr => ∃ k : Nat, k ≤ l.length ∧ i = .int .i64 k ∧ Drew w wr ∧ Hid (l.take k = m.take k)) (fun i _ => l.length - (intOf i).toNat)
    case atStart => exact ⟨0, by omega, rfl, Drew.refl _, by simp [Hid]⟩
    case round =>
      obtain ⟨wo, rfl⟩ : ∃ wo : World, wo = wr := ⟨_, rfl⟩
      obtain ⟨k, hk, rfl, hd, hp⟩ := hrel
      replace h1 := h1.drew hd
      replace h2 := h2.drew hd
      by_cases hlt : k < l.length
      · have hlt2 : k < m.length := by have := HL.out; omega
        obtain ⟨b, off, rfl, _, g0, _, _⟩ := h1.int hlt
        obtain ⟨b', off', rfl, _, g0', _, _⟩ := h2.int hlt2
        have hnn : (0 : Int) ≤ k := by omega
        have hki : (k : Int) < l.length := by omega
        have hki2 : (k : Int) < m.length := by omega
        obtain ⟨x, hx⟩ : ∃ x, Hid (x = l[k]'hlt) := ⟨_, Lib.hid rfl⟩
        obtain ⟨y, hy⟩ : ∃ y, Hid (y = m[k]'hlt2) := ⟨_, Lib.hid rfl⟩
        rw [← hx.out] at g0; rw [← hy.out] at g0'
        by_cases hxy : x = y
        · have hxy' : (x == y) = true := by simp [hxy]
          have HXY := Lib.hid hxy; clear hxy
          go_wp2_with fail
          go_quiet (fail)
          go_wp2
          go_roundw
          case rel => exact ⟨k + 1, hlt, by go_num, hd.step _, take_step hlt hlt2 hp.out (by rw [← hx.out, ← hy.out]; exact HXY.out)⟩
          case measure => simp [intOf]; omega
        · have hxy' : (x == y) = false := by simp [hxy]
          have hne : Hid (decide (l = m) = false) := by
            rw [Hid, decide_eq_false_iff_not]
            rintro rfl
            exact hxy (hx.out.trans hy.out.symm)
          clear hxy
          go_wp2_with fail
          go_quiet (fail)
          go_wp2
          go_ret
          rw [← HR.out, hne.out]
          exact ⟨rfl, hd.step _⟩
      · have hkk : k = l.length := by omega
        subst hkk
        go_wp2
        go_ret
        have e := hp.out
        rw [List.take_length, HL.out, List.take_length] at e
        rw [← HR.out]
        exact ⟨by simp [e], hd⟩
  · have hl' : (((l.length : Nat) : Int) != (m.length : Int)) = true := by simp; omega
    have hne : Hid (decide (l = m) = false) := by
      rw [Hid, decide_eq_false_iff_not]
      rintro rfl
      exact hl rfl
    clear hl
    go_enter Tryz.func9, Tryz.ntmps9
    go_wp2
    go_ret
    rw [← HR.out, hne.out]
    exact ⟨rfl, Drew.refl _⟩
theorem run_eq_rule (w : World) (a b c d : Int) : (Op.equalIn 10000 48 (.agg #[.int .i64 a, .int .i64 b]) (.agg #[.int .i64 c, .int .i64 d])).run Tryz.prog w = .ok ((a, b) == (c, d)) w := by
  have und : Tryz.prog.underlying 48 = some (.struct (Tryz.prog.fieldsOf 48)) := by kernel_rfl
  have fld : (Tryz.prog.fieldsOf 48).toList = [(Tryz.prog.fieldsOf 48)[0]!, (Tryz.prog.fieldsOf 48)[1]!] := by kernel_rfl
  have n0 : (Tryz.prog.fieldsOf 48)[0]!.name = "Every" := by kernel_rfl
  have n1 : (Tryz.prog.fieldsOf 48)[1]!.name = "Count" := by kernel_rfl
  have p0 : ∀ w, (part (Tryz.prog.fieldsOf 48)[0]!.type #[.int .i64 a, .int .i64 b] (Tryz.prog.fieldsOf 48)[0]!.offset).run Tryz.prog w = .ok (.int .i64 a) w := by intro w; kernel_rfl
  have p1 : ∀ w, (part (Tryz.prog.fieldsOf 48)[1]!.type #[.int .i64 a, .int .i64 b] (Tryz.prog.fieldsOf 48)[1]!.offset).run Tryz.prog w = .ok (.int .i64 b) w := by intro w; kernel_rfl
  have q0 : ∀ w, (part (Tryz.prog.fieldsOf 48)[0]!.type #[.int .i64 c, .int .i64 d] (Tryz.prog.fieldsOf 48)[0]!.offset).run Tryz.prog w = .ok (.int .i64 c) w := by intro w; kernel_rfl
  have q1 : ∀ w, (part (Tryz.prog.fieldsOf 48)[1]!.type #[.int .i64 c, .int .i64 d] (Tryz.prog.fieldsOf 48)[1]!.offset).run Tryz.prog w = .ok (.int .i64 d) w := by intro w; kernel_rfl
  have t0 : Tryz.prog.underlying (Tryz.prog.fieldsOf 48)[0]!.type = some (.int .i64) := by kernel_rfl
  have t1 : Tryz.prog.underlying (Tryz.prog.fieldsOf 48)[1]!.type = some (.int .i64) := by kernel_rfl
  have h := run_equalIn_agg w 9999 48 #[.int .i64 a, .int .i64 b] #[.int .i64 c, .int .i64 d] und (by kernel_rfl)
  rw [fld] at h
  simp only [Op.eqFields, n0, n1, if_pos (show "Every" ≠ "_" by decide), if_pos (show "Count" ≠ "_" by decide), Sem.run_bind, Sem.run_ite, Sem.run_pure, p0, p1, q0, q1, Result.andThen_ok, run_equalIn_int _ 9998 _ .i64 .i64 _ _ t0, run_equalIn_int _ 9998 _ .i64 .i64 _ _ t1] at h
  refine h.trans ?_
  by_cases h1 : a = c <;> by_cases h2 : b = d <;> simp [h1, h2]
/-- the closure's variables -/
def BndCl (T : Option Addr) (tc i bi bt bn : Nat) (ts : List Int) (now : Int) (w : World) : Prop :=
  (i < ts.length ∧ ts.length ≤ 60) ∧ SlAt encInt w (Bl w.heap.size) T ts ∧ (∀ t ∈ ts, 0 ≤ t ∧ t ≤ 1073741824) ∧ (0 ≤ now ∧ now ≤ 1073741824) ∧ (bi < w.heap.size ∧ bt < w.heap.size ∧ bn < w.heap.size) ∧ w.cell? ⟨bi, 0, none⟩ = some (.int .i64 i) ∧ w.cell? ⟨bt, 0, none⟩ = some (.slice T ts.length tc) ∧ w.cell? ⟨bn, 0, none⟩ = some (.int .i64 now)
theorem BndCl.below {T : Option Addr} {tc i bi bt bn : Nat} {ts : List Int} {now : Int} {w w' : World} (h : BndCl T tc i bi bt bn ts now w) (hb : Below w.heap.size w w') : BndCl T tc i bi bt bn ts now w' := by
  obtain ⟨h1, h2, h3, h4, ⟨b1, b2, b3⟩, c1, c2, c3⟩ := h
  have hs := hb.size
  exact ⟨h1, h2.fwd hb, h3, h4, ⟨by omega, by omega, by omega⟩, (hb.cell (p := ⟨bi, 0, none⟩) b1).trans c1, (hb.cell (p := ⟨bt, 0, none⟩) b2).trans c2, (hb.cell (p := ⟨bn, 0, none⟩) b3).trans c3⟩
end Go.Proofs.YtnkmklnlaepdeaaGreat

/-
  The walks of standbyref03.SameSectors and SameWrites: they compare two lists of writes.
  A map of places to sectors: what it holds, and the laws of its update, its lookup and of a range over it.
-/
import Derived.Test.YtnkmklnlaepdeaaGreatCb
import Derived.Maps.RangeWalk
set_option linter.unusedVariables false
set_option linter.unusedSimpArgs false
set_option linter.unusedSectionVars false
set_option linter.unnecessarySimpa false
namespace Go.Proofs.YtnkmklnlaepdeaaGreat
open Go.RowKit

set_option maxHeartbeats 400000 in
theorem sameSecs_any (A A' : Option Addr) (c c' : Nat) (S S' : Nat → Prop) (ss ts : List Sec) (w : World) (h1 : SlAt encSec w S A ss) (h2 : SlAt encSec w S' A' ts) (hs : ss.length ≤ 9223372036854775807) (ht : ts.length ≤ 9223372036854775807) :
    Calls Tryz.prog 77 #[.slice A ss.length c, .slice A' ts.length c'] w fun e w' => e = .returned (.bool (ss == ts)) ∧ Drew w w' := by
  by_cases hl : ss.length = ts.length
  · have hl' : (((ss.length : Nat) : Int) != (ts.length : Int)) = false := by simp [hl]
    have HL := Lib.hid hl; clear hl
    go_enter Tryz.func77, Tryz.ntmps77
    go_wp2
    go_loopw [5] (fun i wr => ∃ k : Nat, k ≤ ss.length ∧ i = .int .i64 k ∧ Drew w wr ∧ Hid (ss.take k = ts.take k)) (fun i _ => ss.length - (intOf i).toNat)
    case atStart => exact ⟨0, by omega, rfl, Drew.refl _, by simp [Hid]⟩
    case round =>
      obtain ⟨k, hk, rfl, hd, hp⟩ := hrel
      replace h1 := h1.drew hd
      replace h2 := h2.drew hd
      by_cases hlt : k < ss.length
      · have hlt2 : k < ts.length := by have := HL.out; omega
        obtain ⟨b, off, x0, x1, x2, x3, x4, x5, x6, x7, rfl, hb, hx, _, g0, g1, g2, g3, g4, g5, g6, g7⟩ := h1.sec hlt
        obtain ⟨b', off', y0, y1, y2, y3, y4, y5, y6, y7, rfl, hb', hy, _, k0, k1, k2, k3, k4, k5, k6, k7⟩ := h2.sec hlt2
        have HX := Lib.hid hx; clear hx
        have HY := Lib.hid hy; clear hy
        have hnn : (0 : Int) ≤ k := by omega
        have hki : (k : Int) < ss.length := by omega
        have hki2 : (k : Int) < ts.length := by omega
        have hq := fun W => run_eq_sec W x0 x1 x2 x3 x4 x5 x6 x7 y0 y1 y2 y3 y4 y5 y6 y7
        generalize hqq : ([x0, x1, x2, x3, x4, x5, x6, x7] == [y0, y1, y2, y3, y4, y5, y6, y7]) = q at hq
        have HQ := Lib.hid hqq; clear hqq
        go_wp2
        go_quiet (fail)
        cases q with
        | true =>
          go_wp2
          go_roundw
          case rel => exact ⟨k + 1, hlt, by go_num, hd.step _, take_succ_eq _ _ _ hlt hlt2 hp (by rw [HX.out, HY.out]; exact eq_of_beq HQ.out)⟩
          case measure => simp [intOf]; omega
        | false =>
          go_wp2
          go_ret
          refine ⟨ret_bool ?_, hd.step _⟩
          rw [eq_comm, beq_eq_false_iff_ne]
          intro e
          subst e
          rw [HX.out] at HY
          have := HY.out
          rw [this] at HQ
          simp [Hid] at HQ
      · have : k = ss.length := by omega
        subst this
        go_wp2
        go_ret
        refine ⟨ret_bool ?_, hd⟩
        have := hp.out
        rw [List.take_length, List.take_of_length_le (by rw [HL.out]; omega)] at this
        simp [this]
  · have hl' : (((ss.length : Nat) : Int) != (ts.length : Int)) = true := by simp; omega
    have HL := Lib.hid hl; clear hl
    go_enter Tryz.func77, Tryz.ntmps77
    go_wp2
    go_ret
    refine ⟨ret_bool ?_, Drew.refl _⟩
    rw [eq_comm, beq_eq_false_iff_ne]
    intro e
    exact HL.out (by rw [e])

theorem ne_at {l m : List Wr} {k : Nat} (h1 : k < l.length) (h2 : k < m.length) (h : l[k] ≠ m[k]) : (l == m) = false := by
  rw [beq_eq_false_iff_ne]; intro e; subst e; exact h rfl
theorem ss_len (a b : List Wr) (h : a.length ≠ b.length) : (a == b) = false := by
  rw [beq_eq_false_iff_ne]; intro e; exact h (by rw [e])

set_option maxHeartbeats 1000000 in
theorem sameWrs_any (A A' : Option Addr) (c c' : Nat) (S S' : Nat → Prop) (l m : List Wr) (w : World) (h1 : SlAt encWr w S A l) (h2 : SlAt encWr w S' A' m) (hs : l.length ≤ 9223372036854775807) (_ht : m.length ≤ 9223372036854775807) :
    Calls Tryz.prog 56 #[.slice A l.length c, .slice A' m.length c'] w fun e w' => e = .returned (.bool (l == m)) ∧ Drew w w' := by
  by_cases hl : l.length = m.length
  · have hl' : (((l.length : Nat) : Int) != (m.length : Int)) = false := by simp [hl]
    have HL := Lib.hid hl; clear hl
    go_enter Tryz.func56, Tryz.ntmps56
    go_wp2
    go_loopw [5] (fun i wr => ∃ k : Nat, k ≤ l.length ∧ i = .int .i64 k ∧ Drew w wr ∧ Hid (l.take k = m.take k)) (fun i _ => l.length - (intOf i).toNat)
    case atStart => exact ⟨0, by omega, rfl, Drew.refl _, by simp [Hid]⟩
    case round =>
      obtain ⟨k, hk, rfl, hd, hp⟩ := hrel
      replace h1 := h1.drew hd
      replace h2 := h2.drew hd
      by_cases hlt : k < l.length
      · have hlt2 : k < m.length := by have := HL.out; omega
        obtain ⟨b, off, D, dc, rfl, hb, g0, g1, g2, hD, hn1, hn2, _, _⟩ := h1.wr hlt
        obtain ⟨b', off', D', dc', rfl, hb', k0, k1, k2, hD', hn3, hn4, _, _⟩ := h2.wr hlt2
        have hnn : (0 : Int) ≤ k := by omega
        have hki : (k : Int) < l.length := by omega
        have hki2 : (k : Int) < m.length := by omega
        have hc := fun n => sameSecs_any D D' dc dc' S S' l[k].2.2 m[k].2.2 (wr.drewN n) hD hD' (by unfold maxLen at hn2; omega) (by unfold maxLen at hn4; omega)
        have HC := Lib.hid hc; clear hc hn1 hn2 hn3 hn4
        have HP := Lib.hid hp; clear hp
        by_cases e0 : l[k].1 = m[k].1
        · have e0' : (l[k].1 != m[k].1) = false := by simp [e0]
          by_cases e1 : l[k].2.1 = m[k].2.1
          · have e1' : (l[k].2.1 != m[k].2.1) = false := by simp [e1]
            have E0 := Lib.hid e0; clear e0
            have E1 := Lib.hid e1; clear e1
            generalize hq : (l[k].2.2 == m[k].2.2) = q at HC
            have HQ := Lib.hid hq; clear hq
            go_wp2
            go_quiet ((go_at_call 77; exact Calls.quiet_of (HC.out _)))
            cases q with
            | true =>
              go_wp2
              go_roundw
              case rel => exact ⟨k + 1, hlt, by go_num, hd.step _, take_succ_eq _ _ _ hlt hlt2 HP.out (Prod.ext E0.out (Prod.ext E1.out (eq_of_beq HQ.out)))⟩
              case measure => simp [intOf]; omega
            | false =>
              go_wp2
              go_ret
              refine ⟨ret_bool (ne_at hlt hlt2 ?_).symm, hd.step _⟩
              intro e
              have := HQ.out
              rw [e] at this
              simp at this
          · have e1' : (l[k].2.1 != m[k].2.1) = true := by simp [e1]
            have E0 := Lib.hid e0; clear e0
            have E1 := Lib.hid e1; clear e1
            go_wp2
            go_quiet (fail)
            go_wp2
            go_ret
            exact ⟨ret_bool (ne_at hlt hlt2 (fun e => E1.out (by rw [e]))).symm, hd.step _⟩
        · have e0' : (l[k].1 != m[k].1) = true := by simp [e0]
          have E0 := Lib.hid e0; clear e0
          go_wp2
          go_quiet (fail)
          go_wp2
          go_ret
          exact ⟨ret_bool (ne_at hlt hlt2 (fun e => E0.out (by rw [e]))).symm, hd.step _⟩
      · have : k = l.length := by omega
        subst this
        go_wp2
        go_ret
        refine ⟨ret_bool ?_, hd⟩
        have := hp.out
        rw [List.take_length, List.take_of_length_le (by rw [HL.out]; omega)] at this
        simp [this]
  · have hl' : (((l.length : Nat) : Int) != (m.length : Int)) = true := by simp; omega
    have HL := Lib.hid hl; clear hl
    go_enter Tryz.func56, Tryz.ntmps56
    go_wp2
    go_ret
    exact ⟨ret_bool (ss_len _ _ HL.out).symm, Drew.refl _⟩
end Go.Proofs.YtnkmklnlaepdeaaGreat

namespace Go.Proofs.YtnkmklnlaepdeaaGreat
open Go.RowKit Go.MapKept Go.ChangeMaps



def plV (p : Pl) : Value := .agg #[.int .i64 p.1, .int .i64 p.2]
def secVal (s : Sec) : Value := .agg (secV s).toArray
def entV (x : Pl × Sec) : Value × Value := (plV x.1, secVal x.2)
def kvOf (e : MapEntry) : Value × Value := (e.key, e.val)
theorem plV_inj {p q : Pl} (h : plV p = plV q) : p = q := by
  cases p; cases q; simp [plV] at h; simp [h]
theorem secVal_inj {s t : Sec} (h : secVal s = secVal t) : s = t := by
  simp [secVal, secV] at h
  exact (List.map_inj_right (fun a b e => by simpa using e)).1 h
theorem entV_inj {x y : Pl × Sec} (h : entV x = entV y) : x = y := by
  simp only [entV, Prod.mk.injEq] at h
  exact Prod.ext (plV_inj h.1) (secVal_inj h.2)

def PMap (w : World) (b : Nat) (m : Eff) : Prop :=
  ∃ es clock, w.heap[b]? = some (.map es clock) ∧ Stamped es clock ∧ es.toList.map kvOf = m.map entV ∧ ∀ x ∈ m, OkSec x.2
/-- an entry laid into a map -/
def putE : Eff → Pl → Sec → Eff
  | [], p, s => [(p, s)]
  | x :: m, p, s => if x.1 = p then (p, s) :: m else x :: putE m p s
theorem putE_new {m : Eff} {p : Pl} (s : Sec) (h : ∀ x ∈ m, x.1 ≠ p) : putE m p s = m ++ [(p, s)] := by
  induction m with
  | nil => rfl
  | cons x m ih => simp only [putE, if_neg (h x (by simp)), ih (fun y hy => h y (by simp [hy])), List.cons_append]
theorem putE_old {m1 m2 : Eff} {p : Pl} {s0 : Sec} (s : Sec) (h : ∀ x ∈ m1, x.1 ≠ p) : putE (m1 ++ (p, s0) :: m2) p s = m1 ++ (p, s) :: m2 := by
  induction m1 with
  | nil => simp [putE]
  | cons x m ih => simp only [putE, List.cons_append, if_neg (h x (by simp)), ih (fun y hy => h y (by simp [hy]))]
def getE (m : Eff) (p : Pl) : Option Sec := (m.find? (fun x => x.1 = p)).map (·.2)

theorem PMap.keys {w : World} {b : Nat} {m : Eff} (h : PMap w b m) : (m.map (·.1)).Nodup := by
  obtain ⟨es, clock, _, hs, he, _⟩ := h
  have h1 := hs.2.2
  have h2 : es.toList.map (·.key) = (m.map (·.1)).map plV := by
    have := congrArg (List.map Prod.fst) he
    simp only [List.map_map] at this
    simp only [List.map_map]
    exact this
  rw [h2, List.nodup_iff_pairwise_ne, List.pairwise_map] at h1
  rw [List.nodup_iff_pairwise_ne]
  exact h1.imp (fun h e => h (by rw [e]))
theorem PMap.lt {w : World} {b : Nat} {m : Eff} (h : PMap w b m) : b < w.heap.size := by
  obtain ⟨es, clock, hb, _⟩ := h
  exact (Array.getElem?_eq_some_iff.1 hb).1
theorem PMap.kept {w w' : World} {b : Nat} {m : Eff} (h : PMap w b m) (hk : w'.heap[b]? = w.heap[b]?) : PMap w' b m := by
  obtain ⟨es, clock, hb, r⟩ := h
  exact ⟨es, clock, hk.trans hb, r⟩

theorem undPl : Tryz.prog.underlying 137 = some (.struct (Tryz.prog.fieldsOf 137)) := by kernel_rfl
theorem undEff : Tryz.prog.underlying 127 = some (.map 137 54) := by kernel_rfl
theorem run_check_pl (w : World) (q : Bool) (p : Pl) : (Instr.checkKey q 10000 137 (plV p)).run Tryz.prog w = .ok () w := by kernel_rfl
theorem fldPl : (Tryz.prog.fieldsOf 137).toList = [(Tryz.prog.fieldsOf 137)[0]!, (Tryz.prog.fieldsOf 137)[1]!] := by kernel_rfl
theorem run_eq_pl (w : World) (p q : Pl) : (Op.equal 137 (plV p) (plV q)).run Tryz.prog w = .ok (p == q) w := by
  obtain ⟨a, b⟩ := p
  obtain ⟨c, d⟩ := q
  have n0 : (Tryz.prog.fieldsOf 137)[0]!.name = "volume" := by kernel_rfl
  have n1 : (Tryz.prog.fieldsOf 137)[1]!.name = "sector" := by kernel_rfl
  have p0 : ∀ w, (part (Tryz.prog.fieldsOf 137)[0]!.type #[.int .i64 a, .int .i64 b] (Tryz.prog.fieldsOf 137)[0]!.offset).run Tryz.prog w = .ok (.int .i64 a) w := by intro w; kernel_rfl
  have p1 : ∀ w, (part (Tryz.prog.fieldsOf 137)[1]!.type #[.int .i64 a, .int .i64 b] (Tryz.prog.fieldsOf 137)[1]!.offset).run Tryz.prog w = .ok (.int .i64 b) w := by intro w; kernel_rfl
  have q0 : ∀ w, (part (Tryz.prog.fieldsOf 137)[0]!.type #[.int .i64 c, .int .i64 d] (Tryz.prog.fieldsOf 137)[0]!.offset).run Tryz.prog w = .ok (.int .i64 c) w := by intro w; kernel_rfl
  have q1 : ∀ w, (part (Tryz.prog.fieldsOf 137)[1]!.type #[.int .i64 c, .int .i64 d] (Tryz.prog.fieldsOf 137)[1]!.offset).run Tryz.prog w = .ok (.int .i64 d) w := by intro w; kernel_rfl
  have t0 : Tryz.prog.underlying (Tryz.prog.fieldsOf 137)[0]!.type = some (.int .i64) := by kernel_rfl
  have t1 : Tryz.prog.underlying (Tryz.prog.fieldsOf 137)[1]!.type = some (.int .i64) := by kernel_rfl
  have h := run_equalIn_agg w 9999 137 #[.int .i64 a, .int .i64 b] #[.int .i64 c, .int .i64 d] undPl (by kernel_rfl)
  rw [fldPl] at h
  simp only [Op.eqFields, n0, n1, if_pos (show "volume" ≠ "_" by decide), if_pos (show "sector" ≠ "_" by decide), Sem.run_bind, Sem.run_ite, Sem.run_pure, p0, p1, q0, q1, Result.andThen_ok, run_equalIn_int _ 9998 _ .i64 .i64 _ _ t0, run_equalIn_int _ 9998 _ .i64 .i64 _ _ t1] at h
  refine h.trans ?_
  by_cases h1 : a = c <;> by_cases h2 : b = d <;> simp [h1, h2]

theorem run_find_asking (w : World) (p : Pl) : ∀ (l : List MapEntry) (m : Eff) (i : Nat), l.map kvOf = m.map entV →
    ((∀ x ∈ m, x.1 ≠ p) ∧ (Instr.findAsking 137 (plV p) l i).run Tryz.prog w = .ok none w) ∨
    ∃ m1 s m2, m = m1 ++ (p, s) :: m2 ∧ (∀ x ∈ m1, x.1 ≠ p) ∧ (Instr.findAsking 137 (plV p) l i).run Tryz.prog w = .ok (some (i + m1.length, secVal s)) w
  | [], [], _, _ => Or.inl ⟨by simp, rfl⟩
  | [], _ :: _, _, h => by simp at h
  | _ :: _, [], _, h => by simp at h
  | e :: l, x :: m, i, h => by
    simp only [List.map_cons, List.cons.injEq] at h
    obtain ⟨h1, h2⟩ := h
    have hk : e.key = plV x.1 := congrArg Prod.fst h1
    have hv : e.val = secVal x.2 := congrArg Prod.snd h1
    by_cases hx : x.1 = p
    · refine Or.inr ⟨[], x.2, m, by rw [← hx]; rfl, by simp, ?_⟩
      simp only [Instr.findAsking, Sem.run_bind, hk, run_eq_pl, Result.andThen_ok]
      simp [hx, hv]
    · have hne : (p == x.1) = false := by
        rw [beq_eq_false_iff_ne]; exact fun e => hx e.symm
      have hstep : (Instr.findAsking 137 (plV p) (e :: l) i).run Tryz.prog w = (Instr.findAsking 137 (plV p) l (i + 1)).run Tryz.prog w := by
        simp only [Instr.findAsking, Sem.run_bind, hk, run_eq_pl, Result.andThen_ok, hne]
        simp
      rcases run_find_asking w p l m (i + 1) h2 with ⟨a1, a2⟩ | ⟨m1, s, m2, rfl, a2, a3⟩
      · exact Or.inl ⟨by
          intro y hy
          rcases List.mem_cons.1 hy with rfl | hy
          · exact hx
          · exact a1 y hy, hstep.trans a2⟩
      · refine Or.inr ⟨x :: m1, s, m2, rfl, ?_, ?_⟩
        · intro y hy
          rcases List.mem_cons.1 hy with rfl | hy
          · exact hx
          · exact a2 y hy
        · rw [hstep, a3]
          simp only [List.length_cons]
          rw [show i + 1 + m1.length = i + (m1.length + 1) from by omega]
theorem run_find_pl (w : World) (p : Pl) (l : List MapEntry) (m : Eff) (h : l.map kvOf = m.map entV) :
    ((∀ x ∈ m, x.1 ≠ p) ∧ (Instr.findKey 137 (plV p) l).run Tryz.prog w = .ok none w) ∨
    ∃ m1 s m2, m = m1 ++ (p, s) :: m2 ∧ (∀ x ∈ m1, x.1 ≠ p) ∧ (Instr.findKey 137 (plV p) l).run Tryz.prog w = .ok (some (m1.length, secVal s)) w := by
  have hf : (Instr.findKey 137 (plV p) l).run Tryz.prog w = (Instr.findAsking 137 (plV p) l 0).run Tryz.prog w := by
    cases l with
    | nil =>
      simp only [Instr.findKey, Sem.run_bind, run_underlying undPl, Result.andThen_ok]
      rfl
    | cons e l =>
      simp only [Instr.findKey, Sem.run_bind, run_underlying undPl, Result.andThen_ok]
      rfl
  rw [hf]
  have := run_find_asking w p l m 0 h
  simpa using this

theorem sameBits_pl (p : Pl) : Instr.sameBits 10000 (plV p) (plV p) = true := by
  simp [plV, Instr.sameBits]
theorem modify_at (l : List MapEntry) (m1 m2 : Eff) (x y : Pl × Sec) (f : MapEntry → MapEntry) (h : l.map kvOf = (m1 ++ x :: m2).map entV) (hf : ∀ e, kvOf e = entV x → kvOf (f e) = entV y) :
    (l.modify m1.length f).map kvOf = (m1 ++ y :: m2).map entV := by
  induction m1 generalizing l with
  | nil =>
    cases l with
    | nil => simp at h
    | cons e l =>
      simp only [List.nil_append, List.map_cons, List.cons.injEq] at h
      simp [hf e h.1, h.2]
  | cons z m1 ih =>
    cases l with
    | nil => simp at h
    | cons e l =>
      simp only [List.cons_append, List.map_cons, List.cons.injEq] at h
      simp only [List.length_cons, List.modify_succ_cons, List.map_cons, List.cons_append, List.cons.injEq]
      exact ⟨h.1, ih l h.2⟩
/-- m[p] = s -/
theorem PMap.update {w : World} {b : Nat} {m : Eff} (h : PMap w b m) (p : Pl) {s : Sec} (hs : OkSec s) :
    ∃ o, (Instr.mapUpdate 127 (.map (some b)) (plV p) (secVal s)).run Tryz.prog w = .ok () (setBlock w b o) ∧ PMap (setBlock w b o) b (putE m p s) := by
  obtain ⟨es, clock, hb, hst, he, hok⟩ := h
  rcases run_find_pl w p es.toList m he with ⟨h1, h2⟩ | ⟨m1, s0, m2, rfl, h1, h2⟩
  · refine ⟨.map (es.push { key := plV p, val := secVal s, born := clock }) (clock + 1), ?_, ?_⟩
    · simp [Instr.mapUpdate, run_underlying undEff, MapKept.run_getObj_map hb, run_check_pl, h2, MapKept.run_setObj_map _ hb, Result.andThen, setBlock]
    · rw [putE_new s h1]
      refine ⟨_, _, heap_setBlock_same hb _, stamped_push hst ?_, ?_, ?_⟩
      · intro x hx e
        have : kvOf x ∈ m.map entV := by rw [← he]; exact List.mem_map_of_mem hx
        obtain ⟨y, hy, hye⟩ := List.mem_map.1 this
        exact h1 y hy (plV_inj ((congrArg Prod.fst hye).trans e))
      · simp [he, kvOf, entV]
      · intro x hx
        rcases List.mem_append.1 hx with hx | hx
        · exact hok x hx
        · rw [List.mem_singleton.1 hx]; exact hs
  · have hlen : m1.length < es.toList.length := by
      have := congrArg List.length he
      simp at this ⊢
      omega
    have hlen' : m1.length < es.size := by simpa using hlen
    have hat : kvOf es[m1.length] = entV (p, s0) := by
      have := congrArg (fun l => l[m1.length]?) he
      simpa [hlen'] using this
    have hkey : es[m1.length].key = plV p := congrArg Prod.fst hat
    refine ⟨.map (es.modify m1.length fun e => { e with key := plV p, val := secVal s }) clock, ?_, ?_⟩
    · simp [Instr.mapUpdate, run_underlying undEff, MapKept.run_getObj_map hb, run_check_pl, h2, Instr.keyThatStays, hlen', hkey, sameBits_pl, MapKept.run_setObj_map _ hb, Result.andThen, setBlock]
    · rw [putE_old s h1]
      refine ⟨_, _, heap_setBlock_same hb _, stamped_modify hst _ _ (fun e _ => rfl) (fun e _ hx => ?_), ?_, ?_⟩
      · rw [Array.getElem?_eq_getElem hlen', Option.some.injEq] at hx
        rw [← hx]; exact hkey.symm
      · rw [Array.toList_modify]
        exact modify_at _ _ _ _ _ _ he (fun e _ => rfl)
      · intro x hx
        rcases List.mem_append.1 hx with hx | hx
        · exact hok x (List.mem_append_left _ hx)
        · rcases List.mem_cons.1 hx with rfl | hx
          · exact hs
          · exact hok x (List.mem_append_right _ (List.mem_cons_of_mem _ hx))
/-- m[p], of a place that the map holds -/
theorem PMap.lookup {w : World} {b : Nat} {m : Eff} (h : PMap w b m) {p : Pl} {s : Sec} (hp : (p, s) ∈ m) :
    (Instr.lookup 127 (.map (some b)) (plV p) false).run Tryz.prog w = .ok (secVal s) w := by
  have hk := h.keys
  obtain ⟨es, clock, hb, hst, he, hok⟩ := h
  rcases run_find_pl w p es.toList m he with ⟨h1, _⟩ | ⟨m1, s0, m2, rfl, h1, h2⟩
  · exact absurd rfl (h1 _ hp)
  · have : s = s0 := by
      rcases List.mem_append.1 hp with hx | hx
      · exact absurd rfl (h1 _ hx)
      · rcases List.mem_cons.1 hx with hx | hx
        · simpa using hx
        · rw [List.map_append, List.map_cons, List.nodup_append] at hk
          have := (List.nodup_cons.1 hk.2.1).1
          exact absurd (List.mem_map.2 ⟨_, hx, rfl⟩) this
    subst this
    simp [Instr.lookup, run_underlying undEff, MapKept.run_getObj_map hb, run_check_pl, h2, Result.andThen]

theorem PMap.grown {w w' : World} {b : Nat} {m : Eff} {row : Option Nat} (h : PMap w b m) (hg : w.grownBy w' row) (hr : some b ≠ row) : PMap w' b m := h.kept (hg.block b h.lt hr)
theorem PMap.alloc {w : World} {b : Nat} {m : Eff} (h : PMap w b m) (o : Obj) : PMap (w.alloc o) b m := h.kept (Below.heap_alloc _ _ _ h.lt)
theorem PMap.setCell {w : World} {b : Nat} {m : Eff} (h : PMap w b m) (p : Addr) (u : Value) (hne : b ≠ p.block) : PMap (w.setCell p u) b m := h.kept (Below.heap_setCell _ _ _ _ hne)
theorem PMap.drewN {w : World} {b : Nat} {m : Eff} (h : PMap w b m) (n : Nat) : PMap (w.drewN n) b m := h.kept rfl
theorem grown_setBlock (w : World) (b : Nat) (o : Obj) : w.grownBy (setBlock w b o) (some b) :=
  ⟨rfl, rfl, rfl, by simp [setBlock], fun k _ hk => by
    have hk' : k ≠ b := fun e => hk (by rw [e])
    simp only [setBlock]
    rw [Array.getElem?_setIfInBounds]
    simp [Ne.symm hk']⟩
section
variable (w : World) {ops : Array Oper} {rest : List Oper} {o : Oper} {a : Act} {Q : Exit → Act → World → Prop}
theorem wpList_mapUpdate_pl (hg : o.guard = none) (m x v : Operand) (hop : o.op = Op.mapUpdate 127 m x v) (b : Nat) (M : Eff) (p : Pl) (s : Sec) (hm : a.eval m = .map (some b)) (hx : a.eval x = plV p) (hv : a.eval v = secVal s)
    (h : PMap w b M) (hs : OkSec s) (hK : ∀ w', PMap w' b (putE M p s) → w.grownBy w' (some b) → w'.heap.size = w.heap.size → wpList Tryz.prog ops Q rest (a.put o.dst undef) w') : wpList Tryz.prog ops Q (o :: rest) a w := by
  refine wpList_plain hg fun K' hK' => ?_
  obtain ⟨ob, hrun, r1⟩ := h.update p hs
  unfold Oper.wp
  simp [execOp, hop, hm, hx, hv, hrun, Result.andThen]
  exact hK' _ _ (hK _ r1 (grown_setBlock w b ob) (by simp [setBlock]))
end
/-- a range over a map under way: todo is what has not come yet -/
def PRange (w : World) (b r : Nat) (m todo : Eff) : Prop :=
  ∃ es clock since seen c0, w.heap[b]? = some (.map es clock) ∧ Stamped es clock ∧ es.toList.map kvOf = m.map entV ∧ (∀ x ∈ m, OkSec x.2) ∧ w.heap[r]? = some (.mapIter (some b) since seen c0) ∧ (∀ x ∈ es.toList, x.born < since) ∧ since ≤ c0 ∧ since ≤ clock ∧
    ((leftOf es seen).toList.map kvOf).Perm (todo.map entV)
theorem PRange.map {w : World} {b r : Nat} {m todo : Eff} (h : PRange w b r m todo) : PMap w b m := by
  obtain ⟨es, clock, since, seen, c0, h1, h2, h3, h4, _⟩ := h
  exact ⟨es, clock, h1, h2, h3, h4⟩
theorem PRange.lt {w : World} {b r : Nat} {m todo : Eff} (h : PRange w b r m todo) : r < w.heap.size := by
  obtain ⟨es, clock, since, seen, c0, _, _, _, _, hr, _⟩ := h
  exact (Array.getElem?_eq_some_iff.1 hr).1
theorem PRange.kept {w w' : World} {b r : Nat} {m todo : Eff} (h : PRange w b r m todo) (h1 : w'.heap[b]? = w.heap[b]?) (h2 : w'.heap[r]? = w.heap[r]?) : PRange w' b r m todo := by
  obtain ⟨es, clock, since, seen, c0, a1, a2, a3, a4, a5, r⟩ := h
  exact ⟨es, clock, since, seen, c0, h1.trans a1, a2, a3, a4, h2.trans a5, r⟩
theorem PRange.left {w : World} {b r : Nat} {m todo : Eff} (h : PRange w b r m todo) : w.rangeLeft b r = todo.length := by
  obtain ⟨es, clock, since, seen, c0, hb, _, _, _, hr, _, _, _, hp⟩ := h
  simp only [World.rangeLeft, hb, hr]
  have := hp.length_eq
  simpa using this
theorem perm_born : ∀ (L : List MapEntry) (e : MapEntry), (L.map (·.born)).Nodup → e ∈ L → L.Perm (e :: L.filter (fun x => x.born != e.born))
  | [], _, _, h => by simp at h
  | a :: L, e, hn, he => by
    simp only [List.map_cons, List.nodup_cons] at hn
    by_cases h : a.born = e.born
    · have hae : a = e := by
        rcases List.mem_cons.1 he with rfl | he
        · rfl
        · exact absurd (List.mem_map.2 ⟨e, he, h.symm⟩) hn.1
      subst hae
      have : L.filter (fun x => x.born != a.born) = L := List.filter_eq_self.2 (fun x hx => by
        simp only [bne_iff_ne]
        intro e
        exact hn.1 (List.mem_map.2 ⟨x, hx, e⟩))
      simp [this]
    · have he' : e ∈ L := by
        rcases List.mem_cons.1 he with rfl | he
        · exact absurd rfl h
        · exact he
      have hb : (a.born != e.born) = true := by simp [h]
      rw [List.filter_cons_of_pos (by simpa using h)]
      exact ((perm_born L e hn.2 he').cons a).trans (List.Perm.swap e a _)
theorem PMap.range {w : World} {b : Nat} {m : Eff} (h : PMap w b m) :
    ∃ w', (Instr.range 127 (.map (some b))).run Tryz.prog w = .ok (.pointer (some ⟨w.heap.size, 0, none⟩)) w' ∧ PRange w' b w.heap.size m m ∧ w.grownBy w' none ∧ w'.heap.size = w.heap.size + 1 := by
  have hlt := h.lt
  obtain ⟨es, clock, hb, hst, he, hok⟩ := h
  refine ⟨_, run_range_map w _ _ _ b es clock undEff hb, ⟨es, clock, clock, #[], clock, ((MapKept.heap_alloc w _).2 b hlt).trans hb, hst, he, hok, (MapKept.heap_alloc w _).1, hst.1, Nat.le_refl _, Nat.le_refl _, ?_⟩, World.grownBy_alloc w _ none, by simp⟩
  have : (leftOf es #[]).toList = es.toList := by simp [leftOf]
  rw [this, he]
theorem PRange.next {w : World} {b r : Nat} {m todo : Eff} (h : PRange w b r m todo) (ty : TypeId) :
    (todo = [] ∧ (Instr.next (.pointer (some ⟨r, 0, none⟩)) false ty).run Tryz.prog w = .ok (.tuple #[.bool false]) w) ∨
    ∃ x todo' w', todo.Perm (x :: todo') ∧ (Instr.next (.pointer (some ⟨r, 0, none⟩)) false ty).run Tryz.prog w = .ok (.tuple #[.bool true, plV x.1, secVal x.2]) w' ∧ PRange w' b r m todo' ∧ w.grownBy w' (some r) ∧ w'.heap.size = w.heap.size ∧
      (Instr.entry (.pointer (some ⟨r, 0, none⟩))).run Tryz.prog w' = .ok (.tuple #[plV x.1, secVal x.2]) w' := by
  obtain ⟨es, clock, since, seen, c0, hb, hst, he, hok, hr, hold, hsc, hsk, hp⟩ := h
  have hne : r ≠ b := by
    intro e
    rw [e, hb] at hr
    cases hr
  rcases run_next_at (P := Tryz.prog) w ty r b since c0 seen es clock hr hb hold hsc with ⟨h0, hrun⟩ | ⟨e, hem, w1, hal, hrun⟩
  · refine Or.inl ⟨?_, hrun⟩
    have := hp.length_eq
    simp [h0] at this
    exact List.eq_nil_of_length_eq_zero this.symm
  · right
    have hmem : kvOf e ∈ todo.map entV := hp.mem_iff.1 (List.mem_map_of_mem hem)
    obtain ⟨x, hx, hxe⟩ := List.mem_map.1 hmem
    have hperm : todo.Perm (x :: todo.erase x) := List.perm_cons_erase hx
    have hk : e.key = plV x.1 := (congrArg Prod.fst hxe).symm
    have hv : e.val = secVal x.2 := (congrArg Prod.snd hxe).symm
    have hr1 : w1.heap[r]? = some (.mapIter (some b) since seen c0) := by rcases hal with rfl | rfl <;> exact hr
    have hb1 : w1.heap[b]? = some (.map es clock) := by rcases hal with rfl | rfl <;> exact hb
    have hset := heap_set (o' := .mapIter (some b) since (seen.push e.born) clock) hr1
    have hb' : (setBlock w1 r (.mapIter (some b) since (seen.push e.born) clock)).heap[b]? = some (.map es clock) := (hset.2 b (fun e1 => hne e1.symm)).trans hb1
    obtain ⟨hem1, hes⟩ := mem_left hem
    refine ⟨x, todo.erase x, _, hperm, by rw [← hk, ← hv]; exact hrun, ⟨es, clock, since, seen.push e.born, clock, hb', hst, he, hok, hset.1, hold, hsk, hsk, ?_⟩, ?_, ?_, by rw [← hk, ← hv]; exact run_entry_at _ r b since seen es clock e hset.1 hb' hem1 hst.2.1⟩
    · have hl : (leftOf es (seen.push e.born)).toList = (leftOf es seen).toList.filter (fun y => y.born != e.born) := by
        simp only [leftOf, Array.toList_filter, List.filter_filter]
        congr 1
        funext y
        rw [contains_push]
        cases seen.contains y.born <;> cases hy : (y.born == e.born) <;> simp_all
      have hnd : ((leftOf es seen).toList.map (·.born)).Nodup := by
        simp only [leftOf, Array.toList_filter]
        exact (List.filter_sublist.map _).nodup hst.2.1
      have h1 := (perm_born _ e hnd hem).map kvOf
      rw [hl]
      have h2 := hp.symm.trans h1
      have h3 := (hperm.map entV).symm.trans h2
      simp only [List.map_cons, hxe] at h3
      exact ((List.perm_cons _).1 h3).symm
    · rcases hal with rfl | rfl <;> exact ⟨rfl, rfl, rfl, by simp [setBlock], fun i _ hi => hset.2 i (fun e1 => hi (by rw [e1]))⟩
    · rcases hal with rfl | rfl <;> simp [setBlock]
section
variable (w : World) {ops : Array Oper} {rest : List Oper} {o : Oper} {a : Act} {Q : Exit → Act → World → Prop}
theorem wpList_range_pl (hg : o.guard = none) (m : Operand) (hop : o.op = Op.range 127 m) (b : Nat) (M : Eff) (hm : a.eval m = .map (some b)) (h : PMap w b M)
    (hK : ∀ w', PRange w' b w.heap.size M M → w.grownBy w' none → w'.heap.size = w.heap.size + 1 → wpList Tryz.prog ops Q rest (a.put o.dst (.pointer (some ⟨w.heap.size, 0, none⟩))) w') : wpList Tryz.prog ops Q (o :: rest) a w := by
  refine wpList_plain hg fun K' hK' => ?_
  obtain ⟨w', hrun, r1, r2, r3⟩ := h.range
  unfold Oper.wp
  simp [execOp, hop, hm, hrun, Result.andThen]
  exact hK' _ _ (hK w' r1 r2 r3)
theorem wpList_next_pl (hg : o.guard = none) (it : Operand) (hop : o.op = Op.next it false) (b r : Nat) (M todo : Eff) (hit : a.eval it = .pointer (some ⟨r, 0, none⟩)) (h : PRange w b r M todo)
    (hDone : todo = [] → wpList Tryz.prog ops Q rest (a.put o.dst (.tuple #[.bool false])) w)
    (hMore : ∀ x todo' w', todo.Perm (x :: todo') → PRange w' b r M todo' → w.grownBy w' (some r) → w'.heap.size = w.heap.size → (Instr.entry (.pointer (some ⟨r, 0, none⟩))).run Tryz.prog w' = .ok (.tuple #[plV x.1, secVal x.2]) w' →
      wpList Tryz.prog ops Q rest (a.put o.dst (.tuple #[.bool true, plV x.1, secVal x.2])) w') : wpList Tryz.prog ops Q (o :: rest) a w := by
  refine wpList_plain hg fun K' hK' => ?_
  unfold Oper.wp
  rcases h.next o.type with ⟨h0, hrun⟩ | ⟨x, todo', w', hp, hrun, hr', hgr, hsz, hen⟩
  · simp [execOp, hop, hit, hrun, Result.andThen]
    exact hK' _ _ (hDone h0)
  · simp [execOp, hop, hit, hrun, Result.andThen]
    exact hK' _ _ (hMore x todo' w' hp hr' hgr hsz hen)
end
end Go.Proofs.YtnkmklnlaepdeaaGreat

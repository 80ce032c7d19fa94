/-
  canonical, its parts: places collected from a map; the list under construction.
-/
import Derived.Test.YtfahbhjlkdcnpaaSort
set_option linter.unusedVariables false
set_option linter.unusedSimpArgs false
set_option linter.unusedSectionVars false
set_option linter.unnecessarySimpa false
namespace Go.Proofs.Ytfahbhjlkdcnpaa
open Go.RowKit Go.ChangeMaps

theorem PMap.len {w : World} {b : Nat} {M : Eff} (h : PMap w b M) (ty : TypeId) : (Builtin.len_ #[71] ty #[.map (some b)]).run Try.prog w = .ok (.int .i64 M.length) w := by
  obtain ⟨es, clock, hb, hst, he, hok⟩ := h
  have hl : es.size = M.length := by have := congrArg List.length he; simpa using this
  simp [Builtin.len_, run_underlying undEff, MapKept.run_getObj_map hb, Result.andThen, hl, goInt]
section
variable (w : World) {ops : Array Oper} {rest : List Oper} {o : Oper} {a : Act} {Q : Exit → Act → World → Prop}
theorem wpList_len_pl (hg : o.guard = none) (m : Operand) (hop : o.op = Op.call { callee := Callee.builtin Builtin.len, args := #[m], argTypes := #[71] }) (b : Nat) (M : Eff) (hm : a.eval m = .map (some b)) (h : PMap w b M)
    (hK : wpList Try.prog ops Q rest (a.put o.dst (.int .i64 M.length)) w) : wpList Try.prog ops Q (o :: rest) a w := by
  refine wpList_plain hg fun K' hK' => ?_
  unfold Oper.wp
  simp [execOp, hop, resolve, invoke, builtin, hm, h.len o.type, Result.andThen]
  exact hK' _ _ hK
end
theorem tyPls : SliceTy Try.prog 110 85 2 16 := sliceTy_mk (z := .agg #[.int .i64 0, .int .i64 0]) Try.underlying110 (by kernel_rfl) rfl (by decide)
theorem makePls (n : Nat) (hn : n ≤ 100000) (w : World) : ∃ cur : Array Value, cur.size = n * 2 ∧ (Instr.makeSlice 110 (.int .i64 0) (.int .i64 n)).run Try.prog w = .ok (.slice (some ⟨w.heap.size, 0, none⟩) 0 n) (w.alloc (.cells cur 85)) := by
  obtain ⟨i, z, hi, hz, hsz, hby, hzs⟩ := tyPls.info
  have hr := run_make (P := Try.prog) w 110 85 i z tyPls.und hi hz .i64 .i64 0 n (by omega) (by omega) (by rw [hby]; omega) (by omega)
  simp only [Int.toNat_natCast, Int.toNat_zero] at hr
  exact ⟨_, by rw [size_madeCells, hsz], hr⟩
theorem Own.made {α : Type} {E : Enc α} {w : World} {base : Nat} {e : TypeId} {S : Nat → Prop} {cur : Array Value} {cap : Nat} (hb : base ≤ w.heap.size) (hm : cap ≤ maxLen) (hs : cur.size = cap * E.size) (hS : ¬ S w.heap.size) :
    Own E (w.alloc (.cells cur e)) base e S (.slice (some ⟨w.heap.size, 0, none⟩) 0 cap) [] :=
  ⟨[], World.ownsRow_made w cur cap hb hm hs, trivial, fun g hg => by
    have : w.heap.size = g := by simpa [Value.ownBlock] using hg
    rw [← this]; exact hS⟩

/-- the place behind a list -/
def nextOf (L : List Wr) : Pl := match L.getLast? with | some (v, s, d) => (v, s + d.length) | none => (-1, 0)
theorem canonStep_new {L : List Wr} {p : Pl} {s : Sec} (h : p ≠ nextOf L) : canonStep L (p, s) = L ++ [(p.1, p.2, [s])] := by
  unfold canonStep
  unfold nextOf at h
  cases hg : L.getLast? with
  | none => rw [List.getLast?_eq_none_iff.1 hg]; rfl
  | some x =>
    obtain ⟨v, st, d⟩ := x
    rw [hg] at h
    simp only at h ⊢
    rw [if_neg (fun e => h e.symm)]
theorem canonStep_more {L : List Wr} {v st : Int} {d : List Sec} {p : Pl} {s : Sec} (h : p = nextOf (L ++ [(v, st, d)])) : canonStep (L ++ [(v, st, d)]) (p, s) = L ++ [(v, st, d ++ [s])] := by
  unfold canonStep
  unfold nextOf at h
  rw [List.getLast?_concat] at h ⊢
  simp only at h ⊢
  rw [if_pos h.symm, List.dropLast_concat]

/-- the list under construction: its row, the writes before the last one, and the last one, whose data are owned -/
def CanOwn (w : World) (base : Nat) (v : Value) (L : List Wr) : Prop :=
  (L = [] ∧ v = .slice none 0 0) ∨
  ∃ init vol st d D dc css g c, L = init ++ [(vol, st, d)] ∧ v = .slice (some ⟨g, 0, none⟩) (init.length + 1) c ∧ I64 vol ∧ I64 st ∧
    w.ownsRow base 35 3 v (init.length + 1) (css.flatten ++ [.int .i64 vol, .int .i64 st, .slice D d.length dc]) ∧
    All2 (encWr.rd w (fun b => Nw base w.heap.size b ∧ g ≠ b ∧ (Value.slice D d.length dc).ownBlock ≠ some b)) css init ∧
    Own encSec w base 53 (fun _ => False) (.slice D d.length dc) d
theorem rows_ne {w : World} {base n m : Nat} {v u : Value} {xs : List Value} {d : List Sec} (h : w.ownsRow base 35 3 v n xs) (h2 : Own encSec w base 53 (fun _ => False) u d) {g : Nat} (hv : v.ownBlock = some g) (_hm : m = 0) : u.ownBlock ≠ some g := by
  intro hu
  rcases h.2 with ⟨rfl, _⟩ | ⟨g1, cap, cur, rfl, _, hh, _⟩
  · simp [Value.ownBlock] at hv
  · obtain ⟨css, hr, _⟩ := h2
    rcases hr.2 with ⟨rfl, _⟩ | ⟨g2, cap2, cur2, rfl, _, hh2, _⟩
    · simp [Value.ownBlock] at hu
    · have e1 : g1 = g := by simpa [Value.ownBlock] using hv
      have e2 : g2 = g := by simpa [Value.ownBlock] using hu
      rw [e1] at hh
      rw [e2, hh] at hh2
      injection hh2 with hh2
      injection hh2 with _ ht
      exact absurd ht (by decide)
theorem CanOwn.below {w w' : World} {base : Nat} {v : Value} {L : List Wr} (h : CanOwn w base v L) (hb : Below w.heap.size w w') : CanOwn w' base v L := by
  rcases h with h | ⟨init, vol, st, d, D, dc, css, g, c, h1, h2, h3, h4, h5, h6, h7⟩
  · exact Or.inl h
  · refine Or.inr ⟨init, vol, st, d, D, dc, css, g, c, h1, h2, h3, h4, ?_, ?_, Own.below h7 hb (fun _ h => h.elim)⟩
    · exact h5.kept (row := none) ⟨hb.os, hb.tape, hb.output, hb.size, fun k hk _ => hb.block k hk⟩ (by rw [h2]; exact Or.inr (by simp [Value.ownBlock]))
    · exact h6.mono fun _ _ hr => Enc.more (Enc.blk hr (fun b hb' => hb.block b hb'.1.2)) (fun b hb' => ⟨hb'.1.mono (Nat.le_refl _) hb.size, hb'.2⟩)
theorem CanOwn.blockLt {w : World} {base : Nat} {v : Value} {L : List Wr} (h : CanOwn w base v L) : ∀ g, v.ownBlock = some g → base ≤ g ∧ g < w.heap.size := by
  rcases h with ⟨_, rfl⟩ | ⟨init, vol, st, d, D, dc, css, g, c, h1, h2, h3, h4, h5, h6, h7⟩
  · simp [Value.ownBlock]
  · exact h5.lt
theorem CanOwn.form {w : World} {base : Nat} {v : Value} {L : List Wr} (h : CanOwn w base v L) : ∃ A c, v = .slice A L.length c := by
  rcases h with ⟨rfl, rfl⟩ | ⟨init, vol, st, d, D, dc, css, g, c, rfl, rfl, _⟩
  · exact ⟨none, 0, rfl⟩
  · exact ⟨some ⟨g, 0, none⟩, c, by simp⟩
/-- the cells of a row of writes that is owned, but for the newest -/
theorem CanOwn.cells {w : World} {base : Nat} {v : Value} {L : List Wr} (h : CanOwn w base v L) : ∃ css, w.ownsRow base 35 3 v L.length css.flatten ∧ All2 (encWr.rd w (fun b => Nw base w.heap.size b ∧ v.ownBlock ≠ some b)) css L := by
  rcases h with ⟨rfl, rfl⟩ | ⟨init, vol, st, d, D, dc, css, g, c, rfl, rfl, h3, h4, h5, h6, h7⟩
  · exact ⟨[], World.ownsRow_nil _ _ _ _, trivial⟩
  · refine ⟨css ++ [[.int .i64 vol, .int .i64 st, .slice D d.length dc]], ?_, All2.append (h6.mono fun _ _ hr => Enc.more hr (fun b hb => ⟨hb.1, fun e => hb.2.1 (by simpa [Value.ownBlock] using e)⟩)) ⟨?_, trivial⟩⟩
    · simpa using h5
    · have hr := Own.reads (S' := fun b => Nw base w.heap.size b ∧ (Value.slice (some ⟨g, 0, none⟩) (init.length + 1) c).ownBlock ≠ some b) h7 (fun _ h => h.elim) (fun g' hg' => ⟨h7.lt g' hg', fun e => rows_ne (m := 0) h5 h7 e rfl hg'⟩)
      obtain ⟨D', dc', he, h8, h9, h10⟩ := hr
      simp only [List.cons.injEq, Value.slice.injEq, and_true, true_and] at he
      obtain ⟨rfl, rfl⟩ := he
      exact wr_mk (x := (vol, st, d)) h3 h4 h8 h9 h10
theorem CanOwn.own {w : World} {base : Nat} {v : Value} {L : List Wr} (h : CanOwn w base v L) : OwnW encWr w base base 35 v L := by
  obtain ⟨css, h1, h2⟩ := h.cells
  exact ⟨css, h1, h2, fun g hg h => h.2 hg⟩
/-- a new write behind the list, without data -/
theorem wpList_push (w : World) {ops : Array Oper} {rest : List Oper} {o : Oper} {a : Act} {Q : Exit → Act → World → Prop} (hgd : o.guard = none) (s x : Operand) (ho : o.op = .call { callee := .builtin .append, args := #[s, x], argTypes := #[22, 22] })
    {base : Nat} {v : Value} {L : List Wr} (hs : a.eval s = v) (hown : CanOwn w base v L) {b c : Nat} (p1 p2 : Int) (hx : a.eval x = .slice (some ⟨b, 0, none⟩) 1 c) (hnews : w.heap[b]? = some (.cells #[.int .i64 p1, .int .i64 p2, .slice none 0 0] 35 (0, 0)))
    (i1 : I64 p1) (i2 : I64 p2) (hbase : base ≤ w.heap.size) (hL : L.length ≤ 100000)
    (h : ∀ g c' w', CanOwn w' base (.slice (some ⟨g, 0, none⟩) (L.length + 1) c') (L ++ [(p1, p2, [])]) → w.grownBy w' v.ownBlock → base ≤ g → g < w'.heap.size → wpList Try.prog ops Q rest (a.put o.dst (.slice (some ⟨g, 0, none⟩) (L.length + 1) c')) w') :
    wpList Try.prog ops Q (o :: rest) a w := by
  obtain ⟨css, h1, h2⟩ := hown.cells
  obtain ⟨i, z, hi, hz, hsz, hby, hzs⟩ := tyWrs.info
  have hn : ∀ j u, [Value.int .i64 p1, .int .i64 p2, .slice none 0 0][j]? = some u → w.cell? ((⟨b, 0, none⟩ : Addr).add j) = some u := by
    intro j u hu
    have hadd : (⟨b, 0, none⟩ : Addr).add j = ⟨b, j, none⟩ := by unfold Addr.add; split <;> simp_all
    rw [hadd, cell_of_row w b j _ _ (0, 0) hnews]
    simpa using hu
  refine wpList_append_own_at w hgd s x 22 ho base 35 i z 3 40 tyWrs.und hi hz hsz hby hzs (by decide) v L.length css.flatten hs h1 ⟨b, 0, none⟩ 1 c _ hx rfl hn (by simp [Value.oneCell']) (by simp [maxLen]; omega) (by omega) hbase ?_
  intro v' w' hown' hg _ hat
  obtain ⟨g, cap, rfl, hgb, hgl⟩ := hown'.form (by omega)
  refine h g cap w' (Or.inr ⟨L, p1, p2, [], none, 0, css, g, cap, rfl, rfl, i1, i2, hown', ?_, Own.nil_⟩) hg hgb hgl
  refine h2.mono fun _ _ hr => Enc.more (Enc.blk hr (fun b' hb' => hg.block b' hb'.1.2 (fun e => hb'.2 e.symm))) (fun b' hb' => ⟨hb'.1.mono (Nat.le_refl _) hg.size, ?_, by simp [Value.ownBlock]⟩)
  rintro rfl
  rcases hat with hat | hat
  · exact hb'.2 (by rw [← hat]; rfl)
  · have : g = w.heap.size := by simpa [Value.ownBlock] using hat
    have := hb'.1.2
    omega
/-- one sector more in the last write -/
theorem CanOwn.grow {w w' : World} {base : Nat} {init : List Wr} {vol st : Int} {d : List Sec} {D D' : Option Addr} {dc dc' n : Nat} {css : List (List Value)} {g c : Nat} {s : Sec} (h3 : I64 vol) (h4 : I64 st)
    (h5 : w.ownsRow base 35 3 (.slice (some ⟨g, 0, none⟩) (init.length + 1) c) (init.length + 1) (css.flatten ++ [.int .i64 vol, .int .i64 st, .slice D n dc]))
    (h6 : All2 (encWr.rd w (fun b => Nw base w.heap.size b ∧ g ≠ b ∧ (Value.slice D d.length dc).ownBlock ≠ some b)) css init) (h7 : Own encSec w base 53 (fun _ => False) (.slice D d.length dc) d)
    (hg : w.grownBy w' (Value.slice D d.length dc).ownBlock) (h8 : Own encSec w' base 53 (fun _ => False) (.slice D' (d.length + 1) dc') (d ++ [s]))
    (hat : (Value.slice D' (d.length + 1) dc').ownBlock = (Value.slice D d.length dc).ownBlock ∨ (Value.slice D' (d.length + 1) dc').ownBlock = some w.heap.size) :
    CanOwn (w'.setCell ⟨g, init.length * 3 + 2, none⟩ (.slice D' (d.length + 1) dc')) base (.slice (some ⟨g, 0, none⟩) (init.length + 1) c) (init ++ [(vol, st, d ++ [s])]) := by
  have hgD : (Value.slice D d.length dc).ownBlock ≠ some g := rows_ne (m := 0) h5 h7 rfl rfl
  have hglt := (h5.lt g rfl).2
  have hgD' : (Value.slice D' (d.length + 1) dc').ownBlock ≠ some g := by
    rcases hat with hat | hat
    · rw [hat]; exact hgD
    · rw [hat]; intro e; injection e with e; omega
  have h5' := h5.kept hg (Or.inr (by simp [Value.ownBlock] at hgD ⊢; exact fun e => hgD e.symm))
  have hlen : css.flatten.length = init.length * 3 := by rw [flatten_len 3 css (All2.sizes h6), h6.length]
  have h5s := (h5'.stored (init.length * 3 + 2) (.slice D' (d.length + 1) dc')).1
  refine Or.inr ⟨init, vol, st, d ++ [s], D', dc', css, g, c, rfl, rfl, h3, h4, ?_, ?_, ?_⟩
  · rw [List.set_append_right _ _ (by omega)] at h5s
    rw [show init.length * 3 + 2 - css.flatten.length = 2 from by omega] at h5s
    simpa using h5s
  · refine h6.mono fun _ _ hr => Enc.more (Enc.blk hr (w' := w'.setCell ⟨g, init.length * 3 + 2, none⟩ (.slice D' (d.length + 1) dc')) (fun b hb => ?_)) (fun b hb => ⟨?_, hb.2.1, ?_⟩)
    · rw [Below.heap_setCell _ _ _ _ (fun e => hb.2.1 (by rw [show b = g from e]))]
      exact hg.block b hb.1.2 (fun e => hb.2.2 e.symm)
    · exact hb.1.mono (Nat.le_refl _) (by simpa [World.setCell] using hg.size)
    · rw [List.length_append, List.length_singleton]
      rcases hat with hat | hat
      · rw [hat]; exact hb.2.2
      · rw [hat]; intro e; injection e with e; have := hb.1.2; omega
  · rw [List.length_append, List.length_singleton]
    exact h8.blk (fun b hb => Below.heap_setCell _ _ _ _ (by
      rcases hb with hb | hb
      · exact hb.elim
      · rintro rfl; exact hgD' hb))
end Go.Proofs.Ytfahbhjlkdcnpaa

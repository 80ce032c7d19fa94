/-
  The readings of the program's types (sectors, writes, extents), element by element; worlds that have only drawn.
-/
import Derived.Test.YtfahbhjlkdcnpaaEnc
set_option linter.unusedVariables false
set_option linter.unusedSimpArgs false
set_option linter.unusedSectionVars false
set_option linter.unnecessarySimpa false
namespace Go.Proofs.Ytfahbhjlkdcnpaa
open Go.RowKit

abbrev Wr := Int × Int × List Sec
abbrev Ext := Int × Int
def encWr : Enc Wr := encPair encInt (encPair encInt (encSl encSec))
def encExt : Enc Ext := encPair encInt encInt

theorem sec8 {s : Sec} (h : OkSec s) : ∃ x0 x1 x2 x3 x4 x5 x6 x7, s = [x0, x1, x2, x3, x4, x5, x6, x7] := by
  obtain ⟨h, _⟩ := h
  match s, h with
  | [x0, x1, x2, x3, x4, x5, x6, x7], _ => exact ⟨_, _, _, _, _, _, _, _, rfl⟩
section
variable {w w' : World} {S : Nat → Prop} {A : Option Addr} {cs : List Value}
theorem ext_cs {x : Ext} (h : encExt.rd w S cs x) : cs = [.int .i64 x.1, .int .i64 x.2] ∧ I64 x.1 ∧ I64 x.2 := by
  obtain ⟨c1, c2, rfl, ⟨rfl, h1⟩, ⟨rfl, h2⟩⟩ := h
  exact ⟨rfl, h1, h2⟩
theorem ext_mk {x : Ext} (h1 : I64 x.1) (h2 : I64 x.2) : encExt.rd w S [.int .i64 x.1, .int .i64 x.2] x := ⟨[_], [_], rfl, ⟨rfl, h1⟩, ⟨rfl, h2⟩⟩
theorem wr_cs {x : Wr} (h : encWr.rd w S cs x) : ∃ D c, cs = [.int .i64 x.1, .int .i64 x.2.1, .slice D x.2.2.length c] ∧ I64 x.1 ∧ I64 x.2.1 ∧ x.2.2.length ≤ c ∧ c ≤ maxLen ∧ SlAt encSec w S D x.2.2 := by
  obtain ⟨c1, c2, rfl, ⟨rfl, h1⟩, ⟨c3, c4, rfl, ⟨rfl, h2⟩, ⟨D, c, rfl, h3, h4, h5⟩⟩⟩ := h
  exact ⟨D, c, rfl, h1, h2, h3, h4, h5⟩
theorem wr_mk {x : Wr} {D : Option Addr} {c : Nat} (h1 : I64 x.1) (h2 : I64 x.2.1) (h3 : x.2.2.length ≤ c) (h4 : c ≤ maxLen) (h5 : SlAt encSec w S D x.2.2) : encWr.rd w S [.int .i64 x.1, .int .i64 x.2.1, .slice D x.2.2.length c] x :=
  ⟨[_], [_, _], rfl, ⟨rfl, h1⟩, ⟨[_], [_], rfl, ⟨rfl, h2⟩, ⟨D, c, rfl, h3, h4, h5⟩⟩⟩
/-- one sector of a slice -/
theorem SlAt.sec {ss : List Sec} {k : Nat} (h : SlAt encSec w S A ss) (hk : k < ss.length) :
    ∃ b off x0 x1 x2 x3 x4 x5 x6 x7, A = some ⟨b, off, none⟩ ∧ S b ∧ ss[k] = [x0, x1, x2, x3, x4, x5, x6, x7] ∧ OkSec ss[k] ∧
      w.cell? ⟨b, off + k * 8, none⟩ = some (.int .u8 x0) ∧ w.cell? ⟨b, off + k * 8 + 1, none⟩ = some (.int .u8 x1) ∧ w.cell? ⟨b, off + k * 8 + 2, none⟩ = some (.int .u8 x2) ∧
      w.cell? ⟨b, off + k * 8 + 3, none⟩ = some (.int .u8 x3) ∧ w.cell? ⟨b, off + k * 8 + 4, none⟩ = some (.int .u8 x4) ∧ w.cell? ⟨b, off + k * 8 + 5, none⟩ = some (.int .u8 x5) ∧
      w.cell? ⟨b, off + k * 8 + 6, none⟩ = some (.int .u8 x6) ∧ w.cell? ⟨b, off + k * 8 + 7, none⟩ = some (.int .u8 x7) := by
  obtain ⟨b, off, cs, e, hb, hs, rfl, ho⟩ := h.at_ hk
  obtain ⟨x0, x1, x2, x3, x4, x5, x6, x7, he⟩ := sec8 ho
  rw [he] at hs
  exact ⟨b, off, x0, x1, x2, x3, x4, x5, x6, x7, e, hb, he, ho, hs 0 _ rfl, hs 1 _ rfl, hs 2 _ rfl, hs 3 _ rfl, hs 4 _ rfl, hs 5 _ rfl, hs 6 _ rfl, hs 7 _ rfl⟩
/-- one write of a slice -/
theorem SlAt.wr {l : List Wr} {k : Nat} (h : SlAt encWr w S A l) (hk : k < l.length) :
    ∃ b off D c, A = some ⟨b, off, none⟩ ∧ S b ∧
      w.cell? ⟨b, off + k * 3, none⟩ = some (.int .i64 l[k].1) ∧ w.cell? ⟨b, off + k * 3 + 1, none⟩ = some (.int .i64 l[k].2.1) ∧ w.cell? ⟨b, off + k * 3 + 2, none⟩ = some (.slice D l[k].2.2.length c) ∧
      SlAt encSec w S D l[k].2.2 ∧ l[k].2.2.length ≤ c ∧ c ≤ maxLen ∧ I64 l[k].1 ∧ I64 l[k].2.1 := by
  obtain ⟨b, off, cs, e, hb, hs, hr⟩ := h.at_ hk
  obtain ⟨D, c, rfl, h1, h2, h3, h4, h5⟩ := wr_cs hr
  exact ⟨b, off, D, c, e, hb, hs 0 _ rfl, hs 1 _ rfl, hs 2 _ rfl, h5, h3, h4, h1, h2⟩
/-- one extent of a slice -/
theorem SlAt.ext {l : List Ext} {k : Nat} (h : SlAt encExt w S A l) (hk : k < l.length) :
    ∃ b off, A = some ⟨b, off, none⟩ ∧ S b ∧ w.cell? ⟨b, off + k * 2, none⟩ = some (.int .i64 l[k].1) ∧ w.cell? ⟨b, off + k * 2 + 1, none⟩ = some (.int .i64 l[k].2) ∧ I64 l[k].1 ∧ I64 l[k].2 := by
  obtain ⟨b, off, cs, e, hb, hs, hr⟩ := h.at_ hk
  obtain ⟨rfl, h1, h2⟩ := ext_cs hr
  exact ⟨b, off, e, hb, hs 0 _ rfl, hs 1 _ rfl, h1, h2⟩
/-- one number of a slice -/
theorem SlAt.int {l : List Int} {k : Nat} (h : SlAt encInt w S A l) (hk : k < l.length) : ∃ b off, A = some ⟨b, off, none⟩ ∧ S b ∧ w.cell? ⟨b, off + k, none⟩ = some (.int .i64 l[k]) ∧ I64 l[k] := by
  obtain ⟨b, off, cs, e, hb, hs, rfl, h1⟩ := h.at_ hk
  exact ⟨b, off, e, hb, by simpa [encInt] using hs 0 _ rfl, h1⟩
/-- one slice of a slice -/
theorem SlAt.sl {α : Type} {E : Enc α} {l : List (List α)} {k : Nat} (h : SlAt (encSl E) w S A l) (hk : k < l.length) :
    ∃ b off D c, A = some ⟨b, off, none⟩ ∧ S b ∧ w.cell? ⟨b, off + k, none⟩ = some (.slice D l[k].length c) ∧ SlAt E w S D l[k] ∧ l[k].length ≤ c ∧ c ≤ maxLen := by
  obtain ⟨b, off, cs, e, hb, hs, D, c, rfl, h1, h2, h3⟩ := h.at_ hk
  exact ⟨b, off, D, c, e, hb, by simpa [encSl] using hs 0 _ rfl, h3, h1, h2⟩
end
/-- a world that has only drawn -/
def Drew (w w' : World) : Prop := ∃ n, w' = w.drewN n
theorem Drew.refl (w : World) : Drew w w := ⟨0, rfl⟩
theorem Drew.step {w w' : World} (h : Drew w w') (n : Nat) : Drew w (w'.drewN n) := by
  obtain ⟨m, rfl⟩ := h
  exact ⟨m + n, World.drewN_drewN ..⟩
theorem Drew.trans {w w1 w2 : World} (h : Drew w w1) (h2 : Drew w1 w2) : Drew w w2 := by
  obtain ⟨m, rfl⟩ := h2
  exact h.step m
theorem Drew.cell {w w' : World} (h : Drew w w') (p : Addr) : w'.cell? p = w.cell? p := by
  obtain ⟨m, rfl⟩ := h; rfl
theorem Drew.heap {w w' : World} (h : Drew w w') : w'.heap = w.heap := by
  obtain ⟨m, rfl⟩ := h; rfl
theorem Drew.below {w w' : World} (h : Drew w w') (B : Nat) : Below B w w' := by
  obtain ⟨m, rfl⟩ := h
  exact ⟨rfl, rfl, rfl, Nat.le_refl _, fun _ _ => rfl⟩
theorem SlAt.drew {α : Type} {E : Enc α} {w w' : World} {S : Nat → Prop} {A : Option Addr} {l : List α} (h : SlAt E w S A l) (hd : Drew w w') : SlAt E w' S A l := h.keep (fun p _ => hd.cell p) (fun _ h => h)
theorem Enc.drew {α : Type} {E : Enc α} {w w' : World} {S : Nat → Prop} {cs : List Value} {x : α} (h : E.rd w S cs x) (hd : Drew w w') : E.rd w' S cs x := E.keep h (fun p _ => hd.cell p) (fun _ h => h)
/-- worlds that have only grown -/
theorem ext_trans {w w1 w2 : World} (h : Below w.heap.size w w1) (h2 : Below w1.heap.size w1 w2) : Below w.heap.size w w2 := h.trans (h2.mono h.size)
theorem ext_alloc {w w1 : World} {o : Obj} (h : Below w.heap.size w w1) : Below w.heap.size w (w1.alloc o) := h.alloc h.size _
theorem ext_drew {w w1 : World} (h : Below w.heap.size w w1) : Below w.heap.size w w1.drew := h.drew
theorem SlAt.fwd {α : Type} {E : Enc α} {w w' : World} {A : Option Addr} {l : List α} (h : SlAt E w (Bl w.heap.size) A l) (hb : Below w.heap.size w w') : SlAt E w' (Bl w'.heap.size) A l := h.belowUp hb hb.size
theorem Enc.fwd {α : Type} {E : Enc α} {w w' : World} {cs : List Value} {x : α} (h : E.rd w (Bl w.heap.size) cs x) (hb : Below w.heap.size w w') : E.rd w' (Bl w'.heap.size) cs x := Enc.belowUp h hb hb.size
end Go.Proofs.Ytfahbhjlkdcnpaa

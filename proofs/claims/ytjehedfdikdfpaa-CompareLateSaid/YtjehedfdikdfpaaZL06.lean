/-
  The walks of Sectors and Same.; The walks of the laws CoalesceFolds and CoalesceMerges.; Images that a call owns: Clone of a row, copied.; Plain words: snapshots of an image. No program in sight.; slices.Backward over writes, and Lookup.; A range over an iterator whose body ranges over another one: its contract assumes more of the caller's word (it abides the turn of whatever is no cells and was laid behind), and the law of the statement. slices.Backward over snapshots.; Deleting one element of an owned slice: the elements behind it moved down, the last one cleared. No program in sight.; The law's write: a list of one write.; Owned lists of sectors: stores; append of all elements at a step of a region that draws its order. No program in sight.; The reference's Found: the walk.; Plain words: the walk by levels finds what the walk below nodes finds. No program in sight.; Plain words: neighbouring extents join. No program in sight.; Plain words: walks and messages, what an answer leads to. No program in sight.; Plain words: the answer to any message.; The walk's object: nodes, finish: the walks.; The request of a walk: the walk.; How walks and messages lie in memory, and what functions return that make them.; extent.Count: the walk; what it counts of a canonical list.; finish, the copy of a tree: the walks.; The reference's Extents: the walk.; add: the walk.
-/
import Derived.Laws.MakeOwn
import Derived.RegionTactic
import Derived.BigRegion
import Derived.Deep.RegionLaw
import Derived.BigQuiet
import Derived.Lib.AppendZerosOnto
import Derived.Laws.IdiomCopy
import Derived.Lib.SliceRun
import Derived.Deep.DeepCutAuto
import Derived.Test.YtjehedfdikdfpaaZL01
import Derived.Test.YtjehedfdikdfpaaZL02
import Derived.Test.YtjehedfdikdfpaaZL03
import Derived.Test.YtjehedfdikdfpaaZL04
import Derived.Test.YtjehedfdikdfpaaZL05
set_option linter.unusedVariables false
set_option linter.unusedSimpArgs false
set_option linter.unusedSectionVars false
set_option linter.unnecessarySimpa false
namespace Go.Proofs.Ytjehedfdikdfpaa
open Go.RowKit Go.ChangeMaps

end Go.Proofs.Ytjehedfdikdfpaa

namespace Go.Proofs.Ytjehedfdikdfpaa
open Go.RowKit Go.ChangeMaps

end Go.Proofs.Ytjehedfdikdfpaa

namespace Go.Proofs.Ytjehedfdikdfpaa
open Go.RowKit Go.ChangeMaps

end Go.Proofs.Ytjehedfdikdfpaa

namespace Go.Proofs.Ytjehedfdikdfpaa
open Go.RowKit Go.ChangeMaps

end Go.Proofs.Ytjehedfdikdfpaa

namespace Go.Proofs.Ytjehedfdikdfpaa
open Go.RowKit Go.ChangeMaps

end Go.Proofs.Ytjehedfdikdfpaa

namespace Go.Proofs.Ytjehedfdikdfpaa
open Go.RowKit Go.ChangeMaps

end Go.Proofs.Ytjehedfdikdfpaa

namespace Go.Proofs.Ytjehedfdikdfpaa
open Go.RowKit Go.ChangeMaps

/-- a write laid in a slot: its reading -/
structure WrOk (v s : Int) (D : Option Addr) (n c : Nat) (w : World) (d : List Sec) : Prop where
  rd : encWr.rd w (Bl w.heap.size) [.int .i64 v, .int .i64 s, .slice D n c] (v, s, d)
theorem WrOk.fwd {v s : Int} {D : Option Addr} {n c : Nat} {w w' : World} {d : List Sec} (h : WrOk v s D n c w d) (hb : Below w.heap.size w w') : WrOk v s D n c w' d := ⟨Enc.fwd h.rd hb⟩
theorem WrOk.len {v s : Int} {D : Option Addr} {n c : Nat} {w : World} {d : List Sec} (h : WrOk v s D n c w d) : d.length = n := by
  obtain ⟨D', c', he, _⟩ := wr_cs h.rd
  simp at he
  exact he.2.1.symm
section
variable {w : World} {T : TypeId} {v1 s1 v2 s2 v3 s3 : Int} {D1 D2 D3 : Option Addr} {n1 c1 n2 c2 n3 c3 : Nat} {d1 d2 d3 : List Sec}
end
end Go.Proofs.Ytjehedfdikdfpaa

namespace Go.Proofs.Ytjehedfdikdfpaa

end Go.Proofs.Ytjehedfdikdfpaa

namespace Go.Proofs.Ytjehedfdikdfpaa
open Go.RowKit Go.ChangeMaps

end Go.Proofs.Ytjehedfdikdfpaa
namespace Go.Proofs.Ytjehedfdikdfpaa
open Go.RowKit Go.ChangeMaps

end Go.Proofs.Ytjehedfdikdfpaa

namespace Go.Proofs.Ytjehedfdikdfpaa
open Go.RowKit Go.ChangeMaps

end Go.Proofs.Ytjehedfdikdfpaa

namespace Go.Proofs.Ytjehedfdikdfpaa
open Go.RowKit

theorem makeOf {t e : TypeId} {size bytes : Nat} (hT : SliceTy Try.prog t e size bytes) (n : Nat) (hn : n * bytes ≤ 281474976710656) (h63 : n ≤ 1000000000000) (w : World) : ∃ cur : Array Value, cur.size = n * size ∧ (Instr.makeSlice t (.int .i64 0) (.int .i64 n)).run Try.prog w = .ok (.slice (some ⟨w.heap.size, 0, none⟩) 0 n) (w.alloc (.cells cur e)) := by
  obtain ⟨i, z, hi, hz, hsz, hby, hzs⟩ := hT.info
  have hbi : ((i.bytes : Int)) * (n : Int) ≤ 281474976710656 := by
    have h : ((i.bytes * n : Nat) : Int) ≤ 281474976710656 := by rw [hby, Nat.mul_comm]; omega
    rwa [Int.natCast_mul] at h
  have hr := run_make (P := Try.prog) w t e i z hT.und hi hz .i64 .i64 0 n (by omega) (by omega) hbi (by omega)
  simp only [Int.toNat_natCast, Int.toNat_zero] at hr
  exact ⟨_, by rw [size_madeCells, hsz], hr⟩
end Go.Proofs.Ytjehedfdikdfpaa

namespace Go.Proofs.Ytjehedfdikdfpaa
open Go.RowKit

end Go.Proofs.Ytjehedfdikdfpaa

namespace Go.Proofs.Ytjehedfdikdfpaa
open Go.RowKit

end Go.Proofs.Ytjehedfdikdfpaa

namespace Go.Proofs.Ytjehedfdikdfpaa
open Go.RowKit

end Go.Proofs.Ytjehedfdikdfpaa
namespace Go.Proofs.Ytjehedfdikdfpaa
open Go.RowKit

/-- the slice of a row, as a datum: its block, its length, its capacity -/
def encBlk : Enc (Nat × Nat × Nat) where
  size := 1
  rd _ _ cs x := cs = [.slice (some ⟨x.1, 0, none⟩) x.2.1 x.2.2] ∧ x.2.1 ≤ x.2.2 ∧ x.2.2 ≤ maxLen
  len h := by rw [h.1]; rfl
  one h := by rw [h.1]; simp [Value.oneCell']
  keep h _ _ := h
def RowOf (w : World) (lo : Nat) (x : Nat × Nat × Nat) (row : List Sec) : Prop := Own encSec w lo 80 (fun _ => False) (.slice (some ⟨x.1, 0, none⟩) x.2.1 x.2.2) row
theorem RowOf.ty {w : World} {lo : Nat} {x : Nat × Nat × Nat} {row : List Sec} (h : RowOf w lo x row) : lo ≤ x.1 ∧ x.1 < w.heap.size ∧ x.2.1 = row.length ∧ row.length ≤ x.2.2 ∧ x.2.2 ≤ maxLen ∧ ∃ cs, w.heap[x.1]? = some (.cells cs 80 (0, 0)) := by
  obtain ⟨css, h1, _⟩ := h
  rcases h1.2 with ⟨he, _⟩ | ⟨g, cap, cur, he, hb, hh, hnc, hcm, _⟩
  · cases he
  · injection he with e1 e2 e3
    injection e1 with e1
    injection e1 with e1
    exact ⟨by omega, by rw [e1]; exact (Array.getElem?_eq_some_iff.1 hh).1, e2, by omega, by omega, cur, by rw [e1]; exact hh⟩
theorem RowOf.blk {w w' : World} {lo : Nat} {x : Nat × Nat × Nat} {row : List Sec} (h : RowOf w lo x row) (hk : w'.heap[x.1]? = w.heap[x.1]?) : RowOf w' lo x row :=
  Own.blk h (fun b hb => by
    rcases hb with hb | hb
    · exact hb.elim
    · have : x.1 = b := by simpa [Value.ownBlock] using hb
      rw [← this]; exact hk)
theorem RowOf.base {w : World} {lo lo' : Nat} {x : Nat × Nat × Nat} {row : List Sec} (h : RowOf w lo x row) (hl : lo' ≤ lo) : RowOf w lo' x row := by
  obtain ⟨css, ⟨h1, h2⟩, h3, h4⟩ := h
  refine ⟨css, ⟨h1, ?_⟩, h3, h4⟩
  rcases h2 with h2 | ⟨g, cap, cur, he, hb, r⟩
  · exact Or.inl h2
  · exact Or.inr ⟨g, cap, cur, he, Nat.le_trans hl hb, r⟩
theorem RowOf.rd {w : World} {lo : Nat} {x : Nat × Nat × Nat} {row : List Sec} (h : RowOf w lo x row) : SlAt encSec w (Nw lo w.heap.size) (some ⟨x.1, 0, none⟩) row := by
  obtain ⟨A', c', he, _, _, h3⟩ := Own.rd h (fun _ h => h.elim)
  simp only [List.cons.injEq, Value.slice.injEq, and_true] at he
  obtain ⟨rfl, _, _⟩ := he
  exact h3
/-- an image that a call owns -/
structure ImgOwn (w : World) (lo : Nat) (A : Option Addr) (c : Nat) (xs : List (Nat × Nat × Nat)) (im : List (List Sec)) : Prop where
  outer : Own encBlk w lo 69 (fun _ => False) (.slice A xs.length c) xs
  len : xs.length = im.length
  rows : ∀ (k : Nat) (h1 : k < xs.length) (h2 : k < im.length), RowOf w lo xs[k] im[k]
  apart : (xs.map (·.1)).Nodup
section
variable {w w' : World} {lo : Nat} {A : Option Addr} {c : Nat} {xs : List (Nat × Nat × Nat)} {im : List (List Sec)}
theorem ImgOwn.nil_ {cur : Array Value} {cap : Nat} (hb : lo ≤ w.heap.size) (hm : cap ≤ maxLen) (hs : cur.size = cap) : ImgOwn (w.alloc (.cells cur 69)) lo (some ⟨w.heap.size, 0, none⟩) cap [] [] :=
  ⟨Own.make0 hb hm (by simpa [encBlk] using hs) (fun h => h), rfl, fun _ h => by simp at h, List.nodup_nil⟩
theorem ImgOwn.below (h : ImgOwn w lo A c xs im) (hb : Below w.heap.size w w') : ImgOwn w' lo A c xs im :=
  ⟨Own.below h.outer hb (fun _ h => h.elim), h.len, fun k h1 h2 => (h.rows k h1 h2).blk (hb.block _ (h.rows k h1 h2).ty.2.1), h.apart⟩
theorem ImgOwn.reads (h : ImgOwn w lo A c xs im) : SlAt (encSl encSec) w (Nw lo w.heap.size) A im := fun hn => by
  obtain ⟨A', c', he, _, _, h3⟩ := Own.rd h.outer (fun _ h => h.elim)
  simp only [List.cons.injEq, Value.slice.injEq, and_true] at he
  obtain ⟨rfl, _, _⟩ := he
  have hx : xs ≠ [] := fun e => hn (List.eq_nil_of_length_eq_zero (by rw [← h.len, e]; rfl))
  obtain ⟨b, off, e, hb, hc⟩ := h3 hx
  refine ⟨b, off, e, hb, fun i row hi => ?_⟩
  have hi2 := (List.getElem?_eq_some_iff.1 hi).1
  have hi1 : i < xs.length := by rw [h.len]; exact hi2
  obtain ⟨cs, k1, rfl, k3, k4⟩ := hc i xs[i] (List.getElem?_eq_getElem hi1)
  have hr := h.rows i hi1 hi2
  have hrow : im[i] = row := (List.getElem?_eq_some_iff.1 hi).2
  rw [hrow] at hr
  refine ⟨_, k1, some ⟨xs[i].1, 0, none⟩, xs[i].2.2, ?_, hr.ty.2.2.2.1, k4, hr.rd⟩
  rw [hr.ty.2.2.1]
theorem ImgOwn.parts (h : ImgOwn w lo A c xs im) : im.length ≤ c ∧ c ≤ maxLen := by
  obtain ⟨A', c', he, h1, h2, _⟩ := Own.rd h.outer (fun _ h => h.elim)
  simp only [List.cons.injEq, Value.slice.injEq, and_true] at he
  obtain ⟨_, _, rfl⟩ := he
  rw [← h.len]
  exact ⟨h1, h2⟩
/-- behind a copy into one row -/
theorem ImgOwn.put {w1 : World} {k : Nat} {row : List Sec} (h : ImgOwn w lo A c xs im) (hk : k < xs.length) (hr : RowOf w1 lo xs[k] row) (hg : w.grownBy w1 (some xs[k].1)) : ImgOwn w1 lo A c xs (im.set k row) := by
  refine ⟨Own.blk h.outer (fun b hb => ?_), by simp [h.len], fun j h1 h2 => ?_, h.apart⟩
  · rcases hb with hb | hb
    · exact hb.elim
    · refine hg.block b (h.outer.lt b hb).2 (fun e => ?_)
      injection e with e
      obtain ⟨_, cs, fr, h1⟩ := h.outer.cellsOf b hb
      obtain ⟨cs', h2⟩ := (h.rows k hk (by rw [← h.len]; exact hk)).ty.2.2.2.2.2
      rw [← e, h1] at h2
      injection h2 with h2
      injection h2 with _ h2 _
      exact absurd h2 (by decide)
  · rw [List.getElem_set]
    split
    · rename_i e
      subst e
      exact hr
    · rename_i e
      have h2' : j < im.length := by simpa using h2
      refine (h.rows j h1 h2').blk (hg.block _ (h.rows j h1 h2').ty.2.1 (fun e' => e ?_))
      injection e' with e'
      have := (List.getElem_inj (i := k) (j := j) (h₀ := by simpa using hk) (h₁ := by simpa using h1) h.apart).1 (by simpa using e'.symm)
      exact this
end
end Go.Proofs.Ytjehedfdikdfpaa

namespace Go.Proofs.Ytjehedfdikdfpaa
open Go.RowKit

def ApplyRet (r : List (List Sec)) (en : Int) (w : World) (e : Ending) (w' : World) : Prop :=
  ∃ A c i, e = .returned (.tuple #[.slice A r.length c, .int .i64 i, .int .i64 en]) ∧ r.length ≤ c ∧ c ≤ maxLen ∧ SlAt (encSl encSec) w' (Nw w.heap.size w'.heap.size) A r ∧ Below w.heap.size w w'
theorem ApplyRet.no {en : Int} {w w' : World} {i : Int} (h : Below w.heap.size w w') : ApplyRet [] en w (.returned (.tuple #[.slice none 0 0, .int .i64 i, .int .i64 en])) w' := ⟨none, 0, i, rfl, by simp, by simp, SlAt.nil_, h⟩
end Go.Proofs.Ytjehedfdikdfpaa
namespace Go.Proofs.Ytjehedfdikdfpaa

abbrev Img := List (List Sec)
abbrev Snp := Int × Int × List Wr
end Go.Proofs.Ytjehedfdikdfpaa

namespace Go.Proofs.Ytjehedfdikdfpaa
open Go.RowKit

/-- an owned slice in new memory, whose elements' memory is new too, and none of it a variable -/
def OwnX {α : Type} (X : Nat → Prop) (E : Enc α) (w : World) (lo : Nat) (e : TypeId) (v : Value) (l : List α) : Prop :=
  Own E w lo e (fun g => Nw lo w.heap.size g ∧ ¬ X g ∧ v.ownBlock ≠ some g) v l ∧ ∀ g, v.ownBlock = some g → ¬ X g
section
variable {α : Type} {E : Enc α} {X X' : Nat → Prop} {w w' : World} {lo : Nat} {e : TypeId} {v v' : Value} {l : List α}
theorem OwnX.nil_ : OwnX X E w lo e (.slice none 0 0) [] := ⟨Own.nil_, fun g h => by simp [Value.ownBlock] at h⟩
theorem OwnX.lt (h : OwnX X E w lo e v l) : ∀ g, v.ownBlock = some g → lo ≤ g ∧ g < w.heap.size := h.1.lt
/-- the world has grown, and nothing but variables has turned -/
theorem OwnX.keep (h : OwnX X E w lo e v l) (hs : w.heap.size ≤ w'.heap.size) (hk : ∀ g, lo ≤ g → g < w.heap.size → ¬ X g → w'.heap[g]? = w.heap[g]?) : OwnX X E w' lo e v l :=
  ⟨(h.1.blk (fun g hg => by
      rcases hg with hg | hg
      · exact hk g hg.1.1 hg.1.2 hg.2.1
      · exact hk g (h.lt g hg).1 (h.lt g hg).2 (h.2 g hg))).more (fun g hg => ⟨hg.1.mono (Nat.le_refl _) hs, hg.2⟩) (fun g hg hS => hS.2.2 hg), h.2⟩
theorem OwnX.below (h : OwnX X E w lo e v l) (hb : Below w.heap.size w w') : OwnX X E w' lo e v l := h.keep hb.size (fun g _ hg _ => hb.block g hg)
theorem OwnX.alloc (h : OwnX X E w lo e v l) (o : Obj) : OwnX X E (w.alloc o) lo e v l := h.below (ext_alloc (Below.refl _ _))
theorem OwnX.set (h : OwnX X E w lo e v l) {p : Addr} (hp : X p.block) (u : Value) : OwnX X E (w.setCell p u) lo e v l :=
  h.keep (by simp [World.setCell]) (fun g _ _ hX => Below.heap_setCell _ _ _ _ (fun e => hX (by rw [e]; exact hp)))
/-- a reading of memory made since -/
theorem OwnX.since {β : Type} {F : Enc β} {A : Option Addr} {m : List β} {B : Nat} (h : SlAt F w (Nw B w.heap.size) A m) (hlo : lo ≤ B) (hX : ∀ g, X g → g < B) (hv : ∀ g, v.ownBlock = some g → g < B) : SlAt F w (fun g => Nw lo w.heap.size g ∧ ¬ X g ∧ v.ownBlock ≠ some g) A m :=
  h.more fun b hb => ⟨hb.mono hlo (Nat.le_refl _), fun hx => by have := hX b hx; have := hb.1; omega, fun e => by have := hv b e; have := hb.1; omega⟩
/-- behind an append -/
theorem OwnX.app {l' : List α} (h0 : OwnX X E w lo e v l) (h : Own E w' lo e (fun g => Nw lo w.heap.size g ∧ ¬ X g ∧ v.ownBlock ≠ some g) v' l') (hg : w.grownBy w' v.ownBlock) (hat : v'.ownBlock = v.ownBlock ∨ v'.ownBlock = some w.heap.size) (hX : ∀ g, X g → g < w.heap.size) : OwnX X E w' lo e v' l' := by
  refine ⟨h.more (fun b hb => ⟨hb.1.mono (Nat.le_refl _) hg.size, hb.2.1, fun e => ?_⟩) (fun g hg' hS => hS.2.2 hg'), fun g hg' hx => ?_⟩
  · rcases hat with hat | hat
    · exact hb.2.2 (by rw [← hat]; exact e)
    · rw [hat] at e; injection e with e; have := hb.1.2; omega
  · rcases hat with hat | hat
    · exact h0.2 g (by rw [← hat]; exact hg') hx
    · rw [hat] at hg'; injection hg' with hg'; have := hX g hx; omega
theorem OwnX.read (h : OwnX X E w lo e v l) : (encSl E).rd w (fun g => Nw lo w.heap.size g ∧ ¬ X g) [v] l :=
  h.1.reads (fun g hg => ⟨hg.1, hg.2.1⟩) (fun g hg => ⟨⟨(h.lt g hg).1, (h.lt g hg).2⟩, h.2 g hg⟩)
theorem OwnX.parts {A : Option Addr} {n c : Nat} (h : OwnX X E w lo e (.slice A n c) l) : n = l.length ∧ l.length ≤ c ∧ c ≤ maxLen ∧ SlAt E w (fun g => Nw lo w.heap.size g ∧ ¬ X g) A l := by
  obtain ⟨A', c', he, h1, h2, h3⟩ := h.read
  simp only [List.cons.injEq, Value.slice.injEq, and_true] at he
  obtain ⟨rfl, rfl, rfl⟩ := he
  exact ⟨rfl, h1, h2, h3⟩
theorem OwnX.low (h : OwnX X E w lo e v l) {lo' : Nat} (hl : lo' ≤ lo) : OwnX X E w lo' e v l := by
  obtain ⟨⟨css, ⟨h0, h1⟩, h2, h3⟩, h4⟩ := h
  refine ⟨Own.more (S := fun g => Nw lo w.heap.size g ∧ ¬ X g ∧ v.ownBlock ≠ some g) ⟨css, ⟨h0, ?_⟩, h2, h3⟩ (fun g hg => ⟨hg.1.mono hl (Nat.le_refl _), hg.2⟩) (fun g hg hS => hS.2.2 hg), h4⟩
  rcases h1 with h1 | ⟨g, cap, cur, e1, hg, r⟩
  · exact Or.inl h1
  · exact Or.inr ⟨g, cap, cur, e1, Nat.le_trans hl hg, r⟩
theorem OwnX.made {cur : Array Value} {cap : Nat} (hb : lo ≤ w.heap.size) (hm : cap ≤ maxLen) (hs : cur.size = cap * E.size) (hX : ∀ g, X g → g < w.heap.size) : OwnX X E (w.alloc (.cells cur e)) lo e (.slice (some ⟨w.heap.size, 0, none⟩) 0 cap) [] :=
  ⟨Own.make0 hb hm hs (fun h => h.2.2 rfl), fun g hg hx => by
    have : w.heap.size = g := by simpa [Value.ownBlock] using hg
    have := hX g hx; omega⟩
end
end Go.Proofs.Ytjehedfdikdfpaa

namespace Go.Proofs.Ytjehedfdikdfpaa
open Go.RowKit Go.Shelf
attribute [local go_sem] Oper.semAt_some

end Go.Proofs.Ytjehedfdikdfpaa

namespace Go.Proofs.Ytjehedfdikdfpaa
open Go.RowKit Go.Shelf
attribute [local go_sem] Oper.semAt_some

section
variable {w : World} {S : Nat → Prop} {A : Option Addr}
end
end Go.Proofs.Ytjehedfdikdfpaa

namespace Go.Proofs.Ytjehedfdikdfpaa
open Go.RowKit Go.Shelf
attribute [local go_sem] Oper.semAt_some

end Go.Proofs.Ytjehedfdikdfpaa
namespace Go.Proofs.Ytjehedfdikdfpaa
open Go.RowKit Go.Shelf
attribute [local go_sem] Oper.semAt_some

abbrev IdxN (n : Nat) := { k : Nat // k < n }
/-- where the elements of a slice of writes lie -/
def WrsAt (l : List Wr) (f : Nat → Option Addr × Nat) (A : Option Addr) (w : World) (B : Nat) : Prop :=
  ∀ k (hk : k < l.length), ∃ b off, A = some ⟨b, off, none⟩ ∧ b < B ∧ w.cell? ⟨b, off + k * 3, none⟩ = some (.int .i64 l[k].1) ∧ w.cell? ⟨b, off + k * 3 + 1, none⟩ = some (.int .i64 l[k].2.1) ∧ w.cell? ⟨b, off + k * 3 + 2, none⟩ = some (.slice (f k).1 l[k].2.2.length (f k).2)
theorem WrsAt.below {l : List Wr} {f : Nat → Option Addr × Nat} {A : Option Addr} {w w' : World} {B : Nat} (h : WrsAt l f A w B) (hb : Below B w w') : WrsAt l f A w' B := fun k hk => by
  obtain ⟨b, off, e, h0, h1, h2, h3⟩ := h k hk
  exact ⟨b, off, e, h0, (hb.cell (p := ⟨b, _, none⟩) h0).trans h1, (hb.cell (p := ⟨b, _, none⟩) h0).trans h2, (hb.cell (p := ⟨b, _, none⟩) h0).trans h3⟩
/-- the cells of a look-up -/
def LkI (V S : Int) (w W : World) : Prop :=
  W.heap[w.heap.size + 1 + 1]? = some (.cells zrow 80 (0, 0)) ∧ W.heap[w.heap.size + 1 + 1 + 1]? = some (.cells #[.bool false] 4 (0, 0)) ∧ W.heap[w.heap.size]? = some (.cells #[.int .i64 V] 3 (0, 0)) ∧ W.heap[w.heap.size + 1]? = some (.cells #[.int .i64 S] 3 (0, 0))
theorem LkI.below {V S : Int} {w W W' : World} (h : LkI V S w W) (hb : Below W.heap.size W W') : LkI V S w W' :=
  ⟨(hb.block _ (Array.getElem?_eq_some_iff.1 h.1).1).trans h.1, (hb.block _ (Array.getElem?_eq_some_iff.1 h.2.1).1).trans h.2.1, (hb.block _ (Array.getElem?_eq_some_iff.1 h.2.2.1).1).trans h.2.2.1, (hb.block _ (Array.getElem?_eq_some_iff.1 h.2.2.2).1).trans h.2.2.2⟩
def NoHits (l : List Wr) (V S : Int) (pre : List (IdxN l.length)) : Prop := ∀ k ∈ pre, ¬ hits (l[k.1]'k.2) V S
/-- what it leaves by a hit -/
def LkX (ws : List Wr) (V S : Int) (w : World) (c : Code) (pre : List (IdxN ws.length)) (W : World) : Prop :=
  c = .ret ∧ ∃ ini last, pre = ini ++ [last] ∧ NoHits ws V S ini ∧ hits (ws[last.1]'last.2) V S ∧ ∃ x0 x1 x2 x3 x4 x5 x6 x7, datum (ws[last.1]'last.2) S = [x0, x1, x2, x3, x4, x5, x6, x7] ∧ OkSec [x0, x1, x2, x3, x4, x5, x6, x7] ∧
    W.heap[w.heap.size + 1 + 1]? = some (.cells #[.int .u8 x0, .int .u8 x1, .int .u8 x2, .int .u8 x3, .int .u8 x4, .int .u8 x5, .int .u8 x6, .int .u8 x7] 80 (0, 0)) ∧ W.heap[w.heap.size + 1 + 1 + 1]? = some (.cells #[.bool true] 4 (0, 0))
theorem heap_ownT {W W' : World} {B : Nat} {row : Option Nat} (hg : W.grownBy W' row) (hr : ∀ r, row = some r → B ≤ r ∧ ∃ o : Obj, W.heap[r]? = some o ∧ (o.isCells = false ∨ ItObj (fun _ => False) o)) {k : Nat} {cs : Array Value} {T : TypeId} {fr : Nat × Nat} (h : W.heap[k]? = some (.cells cs T fr)) : W'.heap[k]? = some (.cells cs T fr) :=
  (hg.block k (Array.getElem?_eq_some_iff.1 h).1 (fun e => by
    obtain ⟨_, o, h1, h2⟩ := hr k e.symm
    rw [h] at h1; cases h1
    rcases h2 with h2 | (h2 | ⟨_, _, _, _, h2⟩)
    · cases h2
    · cases h2
    · exact h2)).trans h
theorem LkX.own {ws : List Wr} {V S : Int} {w : World} {B : Nat} (c : Code) : OwnT (fun _ => False) B (LkX ws V S w c) := fun s W W' row h hg hr => by
  obtain ⟨h1, ini, last, h2, h3, h4, x0, x1, x2, x3, x4, x5, x6, x7, h5, h6, h7, h8⟩ := h
  exact ⟨h1, ini, last, h2, h3, h4, x0, x1, x2, x3, x4, x5, x6, x7, h5, h6, heap_ownT hg hr h7, heap_ownT hg hr h8⟩
theorem set8_other {W : World} {b b' : Nat} (h : b' ≠ b) (x0 x1 x2 x3 x4 x5 x6 x7 : Value) : (set8 W b x0 x1 x2 x3 x4 x5 x6 x7).heap[b']? = W.heap[b']? := by
  unfold set8
  rw [Below.heap_setCell _ _ _ _ h, Below.heap_setCell _ _ _ _ h, Below.heap_setCell _ _ _ _ h, Below.heap_setCell _ _ _ _ h, Below.heap_setCell _ _ _ _ h, Below.heap_setCell _ _ _ _ h, Below.heap_setCell _ _ _ _ h, Below.heap_setCell _ _ _ _ h]
end Go.Proofs.Ytjehedfdikdfpaa
namespace Go.Proofs.Ytjehedfdikdfpaa
open Go.RowKit Go.Shelf
attribute [local go_sem] Oper.semAt_some
theorem OwnT.up {β : Type} {own : TypeId → Prop} {B B' : Nat} {J : β → World → Prop} (h : OwnT own B J) (hb : B ≤ B') : OwnT own B' J := fun s W W' row hs hg hr => h s W W' row hs hg (fun r e => ⟨Nat.le_trans hb (hr r e).1, (hr r e).2⟩)
section
variable {F : Fence} {n : Nat} {P : Program}
end
/-- where the elements of a slice of writes lie -/
def SnsAt (l : List Snp) (f : Nat → Option Addr × Nat) (A : Option Addr) (w : World) (B : Nat) : Prop :=
  ∀ k (hk : k < l.length), ∃ b off, A = some ⟨b, off, none⟩ ∧ b < B ∧ w.cell? ⟨b, off + k * 3, none⟩ = some (.int .i64 l[k].1) ∧ w.cell? ⟨b, off + k * 3 + 1, none⟩ = some (.int .i64 l[k].2.1) ∧ w.cell? ⟨b, off + k * 3 + 2, none⟩ = some (.slice (f k).1 l[k].2.2.length (f k).2)
theorem SnsAt.below {l : List Snp} {f : Nat → Option Addr × Nat} {A : Option Addr} {w w' : World} {B : Nat} (h : SnsAt l f A w B) (hb : Below B w w') : SnsAt l f A w' B := fun k hk => by
  obtain ⟨b, off, e, h0, h1, h2, h3⟩ := h k hk
  exact ⟨b, off, e, h0, (hb.cell (p := ⟨b, _, none⟩) h0).trans h1, (hb.cell (p := ⟨b, _, none⟩) h0).trans h2, (hb.cell (p := ⟨b, _, none⟩) h0).trans h3⟩
end Go.Proofs.Ytjehedfdikdfpaa

namespace Go.Proofs.Ytjehedfdikdfpaa
open Go.RowKit Go.Shelf
attribute [local go_sem] Oper.semAt_some

end Go.Proofs.Ytjehedfdikdfpaa

namespace Go.Proofs.Ytjehedfdikdfpaa
open Go.RowKit Go.Shelf
attribute [local go_sem] Oper.semAt_some

/-- blocks of cells -/
def CS (w : World) (S : Nat → Prop) (b : Nat) : Prop := S b ∧ ∃ cs T fr, w.heap[b]? = some (.cells cs T fr)
theorem CS.turn {w w' : World} {S : Nat → Prop} {row : Option Nat} {A : Option Addr} {im : Img} {B : Nat} (h : SlAt (encSl encSec) w (CS w S) A im) (hg : w.grownBy w' row) (hr : ∀ r, row = some r → B ≤ r ∧ ∃ o : Obj, w.heap[r]? = some o ∧ (o.isCells = false ∨ ItObj (fun _ => False) o)) : SlAt (encSl encSec) w' (CS w' S) A im := by
  have hk : ∀ b, CS w S b → w'.heap[b]? = w.heap[b]? := fun b ⟨_, cs, T, fr, hb⟩ => (heap_ownT hg hr hb).trans hb.symm
  exact (h.blk hk).more (fun b hb => ⟨hb.1, by
    obtain ⟨cs, T, fr, e⟩ := hb.2
    exact ⟨cs, T, fr, (hk b hb).trans e⟩⟩)
end Go.Proofs.Ytjehedfdikdfpaa

namespace Go.Proofs.Ytjehedfdikdfpaa
open Go.RowKit Go.Shelf
attribute [local go_sem] Oper.semAt_some

end Go.Proofs.Ytjehedfdikdfpaa
namespace Go.Proofs.Ytjehedfdikdfpaa
open Go.RowKit Go.Shelf

section
variable {P : Program}
end
theorem All2.erase {α β : Type} {R : α → β → Prop} : ∀ {xs : List α} {ys : List β} (i : Nat), All2 R xs ys → All2 R (xs.eraseIdx i) (ys.eraseIdx i)
  | [], [], _, h => h
  | a :: xs, b :: ys, 0, h => h.2
  | a :: xs, b :: ys, i + 1, h => ⟨h.1, All2.erase i h.2⟩
end Go.Proofs.Ytjehedfdikdfpaa

namespace Go.Proofs.Ytjehedfdikdfpaa
open Go.RowKit Go.Shelf
attribute [local go_sem] Oper.semAt_some

end Go.Proofs.Ytjehedfdikdfpaa

namespace Go.Proofs.Ytjehedfdikdfpaa
open Go.RowKit Go.Shelf
attribute [local go_sem] Oper.semAt_some

end Go.Proofs.Ytjehedfdikdfpaa
namespace Go.Proofs.Ytjehedfdikdfpaa
open Go.RowKit Go.Shelf
attribute [local go_sem] Oper.semAt_some

def sB (k : Int) : Sec := [k, 0, 0, 0, 0, 0, 0, 0]
end Go.Proofs.Ytjehedfdikdfpaa

namespace Go.Proofs.Ytjehedfdikdfpaa
open Go.RowKit Go.Shelf
attribute [local go_sem] Oper.semAt_some

end Go.Proofs.Ytjehedfdikdfpaa

namespace Go.Proofs.Ytjehedfdikdfpaa
open Go.RowKit Go.Shelf
attribute [local go_sem] Oper.semAt_some

end Go.Proofs.Ytjehedfdikdfpaa

namespace Go.Proofs.Ytjehedfdikdfpaa
open Go.RowKit Go.Shelf
attribute [local go_sem] Oper.semAt_some

end Go.Proofs.Ytjehedfdikdfpaa
namespace Go.Proofs.Ytjehedfdikdfpaa
open Go.RowKit Go.Shelf
attribute [local go_sem] Oper.semAt_some

end Go.Proofs.Ytjehedfdikdfpaa

namespace Go.Proofs.Ytjehedfdikdfpaa
open Go.RowKit Go.Shelf
attribute [local go_sem] Oper.semAt_some

abbrev WB := Int × Int × Nat × Nat × Nat
section
variable {w w' : World} {lo : Nat} {A : Option Addr} {c : Nat} {xs : List WB} {l : List Wr}
end
end Go.Proofs.Ytjehedfdikdfpaa
namespace Go.Proofs.Ytjehedfdikdfpaa
open Go.RowKit Go.Shelf
attribute [local go_sem] Oper.semAt_some

/-- the walk below a node -/
def dfs (a b : List (List Int)) : Nat → Nat → List Nat
  | 0, i => if decide (i < (a.getD 0 []).length) && df a b 0 i then [i] else []
  | k + 1, i => if decide (i < (a.getD (k + 1) []).length) && df a b (k + 1) i then dfs a b k (2 * i) ++ dfs a b k (2 * i + 1) else []
end Go.Proofs.Ytjehedfdikdfpaa
namespace Go.Proofs.Ytjehedfdikdfpaa

theorem dfs_out {a b : List (List Int)} {k i : Nat} (h : (a.getD k []).length ≤ i) : dfs a b k i = [] := by
  cases k with
  | zero => rw [dfs, decide_eq_false (by omega)]; rfl
  | succ k => rw [dfs, decide_eq_false (by omega)]; rfl
theorem dfs_step {a b : List (List Int)} {k i : Nat} (h : i < (a.getD (k + 1) []).length) : dfs a b (k + 1) i = if df a b (k + 1) i then dfs a b k (2 * i) ++ dfs a b k (2 * i + 1) else [] := by
  rw [dfs, decide_eq_true h, Bool.true_and]
theorem kids_dfs (a b : List (List Int)) (k : Nat) : ∀ p : List Nat, (kids (a.getD k []).length p).flatMap (dfs a b k) = p.flatMap fun i => dfs a b k (2 * i) ++ dfs a b k (2 * i + 1)
  | [] => rfl
  | x :: r => by
    have e : kids (a.getD k []).length (x :: r) = (if 2 * x + 1 < (a.getD k []).length then [2 * x, 2 * x + 1] else [2 * x]) ++ kids (a.getD k []).length r := rfl
    rw [e, List.flatMap_append, kids_dfs a b k r, List.flatMap_cons]
    congr 1
    by_cases h : 2 * x + 1 < (a.getD k []).length
    · rw [if_pos h]; simp
    · rw [if_neg h, dfs_out (i := 2 * x + 1) (by omega)]; simp
theorem filter_flatMap {α β : Type} (f : α → Bool) (g : α → List β) : ∀ l : List α, (l.filter f).flatMap g = l.flatMap fun i => if f i then g i else []
  | [] => rfl
  | x :: r => by
    rw [List.filter_cons, List.flatMap_cons, ← filter_flatMap f g r]
    by_cases h : f x = true
    · rw [if_pos h, if_pos h, List.flatMap_cons]
    · rw [if_neg h, if_neg h]; rfl
theorem flatMap_congr_ {α β : Type} {g h : α → List β} : ∀ {l : List α}, (∀ x ∈ l, g x = h x) → l.flatMap g = l.flatMap h
  | [], _ => rfl
  | x :: r, hh => by
    rw [List.flatMap_cons, List.flatMap_cons, hh x (by simp), flatMap_congr_ (fun y hy => hh y (by simp [hy]))]
theorem fnd_dfs (a b : List (List Int)) : ∀ (k : Nat) (v : List Nat), (∀ j, j < k → (a.getD (j + 1) []).length = ((a.getD j []).length + 1) / 2) → (∀ i ∈ v, i < (a.getD k []).length) → fnd a b k v = v.flatMap (dfs a b k)
  | 0, v, _, hv => by
    have e : fnd a b 0 v = (v.filter (df a b 0)).flatMap fun i => [i] := by rw [fnd]; simp
    rw [e, filter_flatMap]
    refine flatMap_congr_ fun i hi => ?_
    rw [dfs, decide_eq_true (hv i hi), Bool.true_and]
  | k + 1, v, hl, hv => by
    have hm := hl k (by omega)
    have hp : ∀ i ∈ v.filter (df a b (k + 1)), i < (a.getD (k + 1) []).length := fun i hi => hv i (List.mem_filter.1 hi).1
    rw [fnd, fnd_dfs a b k _ (fun j hj => hl j (by omega)) (kids_lt hm hp), kids_dfs, filter_flatMap]
    refine flatMap_congr_ fun i hi => ?_
    rw [dfs_step (hv i hi)]
/-- the code's walk and the reference's find the same leaves -/
theorem difN_dfs {n m : Nat} {l l' : List (List Int)} (h : TOk n m l) : difN l l' = dfs l l' (l.length - 1) 0 := by
  have hg : ∀ k (hk : k < l.length), (l.getD k []).length = nk (leavesN n m) k := fun k hk => by
    rw [List.getD_eq_getElem?_getD, List.getElem?_eq_getElem hk, Option.getD_some]; exact (h.at_ k hk).1
  have h0 := h.ne
  rw [difN, fnd_dfs]
  · simp
  · intro j hj
    rw [hg (j + 1) (by omega), hg j (by omega), nk_succ]
  · intro i hi
    have : i = 0 := by simpa using hi
    have h1 := (h.at_ (l.length - 1) (by omega)).2.2.1
    rw [this, hg _ (by omega)]; omega
end Go.Proofs.Ytjehedfdikdfpaa
namespace Go.Proofs.Ytjehedfdikdfpaa

theorem runs_more {P : Int → Bool} {a : Nat} {s c : Int} {pre : List Ext} (h0 : runsL (below P a) = pre ++ [(s, c)]) (hs : s + c = a) : ∀ q : Nat, a ≤ q → (∀ x : Nat, a ≤ x → x < q → P x = true) → runsL (below P q) = pre ++ [(s, c + ((q : Int) - a))]
  | 0, h, _ => by
    have : a = 0 := by omega
    subst this
    rw [h0]; simp
  | q + 1, h, hp => by
    by_cases ha : a = q + 1
    · subst ha; rw [h0]; congr 2; simp
    · have ih := runs_more h0 hs q (by omega) (fun x h1 h2 => hp x h1 (by omega))
      rw [below_succ, hp q (by omega) (by omega), if_pos rfl, runsL_snoc, ih, runStep_more (s := s) (c := c + ((q : Int) - a)) (by simp) (by omega)]
      simp
      omega
/-- one extent more: joined to the last one if they touch -/
def extStep (out : List Ext) (e : Ext) : List Ext :=
  match out.getLast? with
  | some (s, c) => if s + c = e.1 then out.dropLast ++ [(s, c + e.2)] else out ++ [e]
  | none => [e]
def extsL (es : List Ext) : List Ext := es.foldl extStep []
theorem extsL_snoc (es : List Ext) (e : Ext) : extsL (es ++ [e]) = extStep (extsL es) e := by simp [extsL]
theorem any_snoc (es : List Ext) (e : Ext) (x : Int) : (es ++ [e]).any (inExt x) = (es.any (inExt x) || inExt x e) := by simp
theorem exts_runs : ∀ es : List Ext, es.Pairwise (fun x y => x.1 + x.2 ≤ y.1) → (∀ e ∈ es, 0 ≤ e.1 ∧ 0 < e.2 ∧ e.1 + e.2 ≤ 4096) →
    (∀ q : Nat, q ≤ 4096 → (∀ e ∈ es, e.1 + e.2 ≤ q) → runsL (below (fun x => es.any (inExt x)) q) = extsL es) ∧ (∀ s c, (extsL es).getLast? = some (s, c) → ∃ e ∈ es, s + c = e.1 + e.2) := by
  refine snocRec ?_ ?_
  · intro _ _
    refine ⟨fun q _ _ => ?_, fun s c h => by simp [extsL] at h⟩
    rw [runs_off (a := 0) (by omega) (fun x _ _ => rfl)]; rfl
  · intro es e ih hp hr
    rw [List.pairwise_append] at hp
    obtain ⟨hp1, _, hp2⟩ := hp
    obtain ⟨ih1, ih2⟩ := ih hp1 (fun x hx => hr x (by simp [hx]))
    obtain ⟨e1, e2, e3⟩ := hr e (by simp)
    have hle : ∀ x ∈ es, x.1 + x.2 ≤ e.1 := fun x hx => hp2 x hx e (by simp)
    obtain ⟨a, ha⟩ : ∃ a : Nat, e.1 = a := ⟨e.1.toNat, by omega⟩
    obtain ⟨d, hd⟩ : ∃ d : Nat, e.2 = d := ⟨e.2.toNat, by omega⟩
    have hA : runsL (below (fun x => (es ++ [e]).any (inExt x)) a) = extsL es := by
      rw [below_congr _ (fun x => es.any (inExt x)) a (fun x hx => by
        rw [any_snoc]
        have : inExt (x : Int) e = false := by unfold inExt; rw [decide_eq_false_iff_not]; omega
        rw [this, Bool.or_false])]
      exact ih1 a (by omega) (fun x hx => by have := hle x hx; omega)
    have hon : ∀ x : Nat, a ≤ x → x < a + d → (es ++ [e]).any (inExt (x : Int)) = true := fun x h1 h2 => by
      rw [any_snoc]
      have : inExt (x : Int) e = true := by unfold inExt; rw [decide_eq_true_iff]; omega
      rw [this, Bool.or_true]
    have hoff : ∀ x : Nat, a + d ≤ x → (es ++ [e]).any (inExt (x : Int)) = false := fun x h1 => by
      rw [List.any_eq_false]
      intro y hy h
      unfold inExt at h
      rw [decide_eq_true_iff] at h
      rcases List.mem_append.1 hy with hy | hy
      · have := hle y hy; omega
      · have : y = e := by simpa using hy
        subst this; omega
    have hmain : runsL (below (fun x => (es ++ [e]).any (inExt x)) (a + d)) = extsL (es ++ [e]) := by
      rw [extsL_snoc]
      cases hl : (extsL es).getLast? with
      | none =>
        have hnil : extsL es = [] := List.getLast?_eq_none_iff.1 hl
        rw [runs_on (a := a) (out := []) (by omega) (by rw [hA, hnil]) (by simp) hon]
        simp only [extStep, hl]
        show [((a : Int), ((a + d : Nat) : Int) - a)] = [e]
        congr 1
        exact Prod.ext (by simp [ha]) (by simp; omega)
      | some p =>
        obtain ⟨s, c⟩ := p
        obtain ⟨y, hy, hsc⟩ := ih2 s c hl
        have hya := hle y hy
        by_cases ht : s + c = e.1
        · have hpre : extsL es = (extsL es).dropLast ++ [(s, c)] := by
            have hne : extsL es ≠ [] := by intro h; rw [h] at hl; simp at hl
            rw [List.getLast?_eq_some_getLast hne, Option.some.injEq] at hl
            rw [← hl, List.dropLast_concat_getLast hne]
          rw [runs_more (a := a) (s := s) (c := c) (pre := (extsL es).dropLast) (by rw [hA]; exact hpre) (by omega) (a + d) (by omega) hon]
          simp only [extStep, hl, if_pos ht]
          congr 3; omega
        · rw [runs_on (a := a) (out := extsL es) (by omega) hA (fun s' c' h => by rw [hl] at h; cases h; omega) hon]
          simp only [extStep, hl, if_neg ht]
          congr 2
          exact Prod.ext (by simp [ha]) (by simp; omega)
    refine ⟨fun q hq hb => ?_, fun s c h => ?_⟩
    · have hqe := hb e (by simp)
      rw [runs_off (a := a + d) (by omega) (fun x h1 _ => hoff x h1), hmain]
    · refine ⟨e, by simp, ?_⟩
      rw [extsL_snoc] at h
      cases hl : (extsL es).getLast? with
      | none => simp only [extStep, hl] at h; simp at h; rw [h]
      | some p =>
        obtain ⟨s', c'⟩ := p
        simp only [extStep, hl] at h
        by_cases ht : s' + c' = e.1
        · rw [if_pos ht] at h; simp at h; omega
        · rw [if_neg ht] at h; simp at h; rw [h]
theorem opL_exts {es : List Ext} (hp : es.Pairwise (fun x y => x.1 + x.2 ≤ y.1)) (hr : ∀ e ∈ es, 0 ≤ e.1 ∧ 0 < e.2 ∧ e.1 + e.2 ≤ 4096) : opL or es [] = extsL es := by
  unfold opL
  rw [below_congr _ (fun x => es.any (inExt x)) 4096 (fun x _ => by rw [List.any_nil]; exact Bool.or_false _)]
  exact (exts_runs es hp hr).1 4096 (Nat.le_refl _) (fun e he => (hr e he).2.2)
theorem dfs_sorted (a b : List (List Int)) : ∀ k i, (dfs a b k i).Pairwise (· < ·) ∧ ∀ x ∈ dfs a b k i, i * 2 ^ k ≤ x ∧ x < (i + 1) * 2 ^ k ∧ x < (a.getD 0 []).length
  | 0, i => by
    unfold dfs
    by_cases h : (decide (i < (a.getD 0 []).length) && df a b 0 i) = true
    · rw [if_pos h]
      have h1 : i < (a.getD 0 []).length := by simp at h; exact h.1
      exact ⟨by simp, fun x hx => by have : x = i := by simpa using hx
                                     subst this; exact ⟨by simp, by simp, h1⟩⟩
    · rw [if_neg h]; exact ⟨List.Pairwise.nil, fun x hx => by simp at hx⟩
  | k + 1, i => by
    obtain ⟨p1, r1⟩ := dfs_sorted a b k (2 * i)
    obtain ⟨p2, r2⟩ := dfs_sorted a b k (2 * i + 1)
    have e1 : (2 * i) * 2 ^ k = i * 2 ^ (k + 1) := by rw [Nat.pow_succ, Nat.mul_comm (2 ^ k) 2, ← Nat.mul_assoc, Nat.mul_comm i 2]
    have e2 : (2 * i + 1 + 1) * 2 ^ k = (i + 1) * 2 ^ (k + 1) := by rw [Nat.pow_succ, Nat.mul_comm (2 ^ k) 2, ← Nat.mul_assoc]; congr 1; omega
    have e3 : (2 * i) * 2 ^ k ≤ (2 * i + 1) * 2 ^ k := Nat.mul_le_mul_right _ (by omega)
    have e4 : (2 * i + 1) * 2 ^ k ≤ (2 * i + 1 + 1) * 2 ^ k := Nat.mul_le_mul_right _ (by omega)
    unfold dfs
    by_cases h : (decide (i < (a.getD (k + 1) []).length) && df a b (k + 1) i) = true
    · rw [if_pos h]
      refine ⟨List.pairwise_append.2 ⟨p1, p2, fun x hx y hy => ?_⟩, fun x hx => ?_⟩
      · have := (r1 x hx).2.1; have := (r2 y hy).1; omega
      · rcases List.mem_append.1 hx with hx | hx
        · have := r1 x hx; exact ⟨by omega, by omega, this.2.2⟩
        · have := r2 x hx; exact ⟨by omega, by omega, this.2.2⟩
    · rw [if_neg h]; exact ⟨List.Pairwise.nil, fun x hx => by simp at hx⟩
end Go.Proofs.Ytjehedfdikdfpaa
namespace Go.Proofs.Ytjehedfdikdfpaa

def joinN (ns : List Nat) : List Ext := extsL (ns.map fun n : Nat => ((n : Int), (1 : Int)))
abbrev Wk := Tr × List Ext × Int × List Ext × Int × Bool
/-- kind, from, to, number, value, epoch, values, body -/
abbrev Msg := Int × Int × Int × Int × Int × Int × List Int × List Int
def zWk : Wk := (zTree, [], 0, [], 0, false)
def zMsg : Msg := (0, 0, 0, 0, 0, 0, [], [])
def reqV (t : Tr) (p : List Ext) : List Int := t.1 :: t.2.1 :: p.flatMap fun x => [x.1, x.2]
def levT (t : Tr) (k : Int) : List Int := t.2.2.getD k.toNat []
def begW (t : Tr) : Wk := if checkT t = 0 then (t, [(0, 1)], (t.2.2.length : Int) - 1, [], 0, false) else zWk
def wkE (w : Wk) : Int :=
  if checkT w.1 ≠ 0 then checkT w.1
  else if w.2.2.1 < 0 ∨ (w.1.2.2.length : Int) ≤ w.2.2.1 ∨ (w.2.2.2.2.2 = true ∧ w.2.2.1 ≠ 0) ∨ w.2.2.2.2.1 < 0 ∨ 8192 < w.2.2.2.2.1 then 2
  else if w.2.2.2.2.2 = true then (if w.2.1 = [] ∧ extE w.2.2.2.1 w.1.1 = 0 then 0 else 3)
  else (if w.2.1 ≠ [] ∧ w.2.2.2.1 = [] ∧ extE w.2.1 ((levT w.1 w.2.2.1).length : Int) = 0 then 0 else 3)
def learnE (w : Wk) (m : Msg) : Int :=
  if wkE w ≠ 0 then wkE w else if w.2.2.2.2.2 = true then 12 else if m.1 ≠ 14 then 1
  else if m.2.2.2.1 ≠ w.2.2.1 ∨ m.2.2.2.2.2.2.1 ≠ reqV w.1 w.2.1 then 22 else if m.2.2.2.2.2.2.2.length ≠ 8 * (numsL w.2.1).length then 3 else 0
def learnD (w : Wk) (m : Msg) : List Nat := dfr (levT w.1 w.2.2.1) m.2.2.2.2.2.2.2 (numsL w.2.1)
def learnW (w : Wk) (m : Msg) : Wk :=
  if learnE w m ≠ 0 then zWk
  else if w.2.2.1 = 0 then (w.1, [], 0, opL or ((learnD w m).map (leafE w.1.1.toNat w.1.2.1.toNat)) [], w.2.2.2.2.1 + (numsL w.2.1).length, true)
  else if learnD w m = [] then (w.1, [], 0, [], w.2.2.2.2.1 + (numsL w.2.1).length, true)
  else (w.1, joinN (kids (levT w.1 (w.2.2.1 - 1)).length (learnD w m)), w.2.2.1 - 1, [], w.2.2.2.2.1 + (numsL w.2.1).length, false)
end Go.Proofs.Ytjehedfdikdfpaa
namespace Go.Proofs.Ytjehedfdikdfpaa

/-- the extents that a request names -/
def pairsL (v : List Int) : List Ext := (List.range ((v.length - 2) / 2)).map fun i => (v.getD (2 + 2 * i) 0, v.getD (3 + 2 * i) 0)
def pairA (v : List Int) (i : Nat) : Ext := (v.getD (2 + 2 * i) 0, v.getD (3 + 2 * i) 0)
theorem pairsL_eq {v : List Int} {q : Nat} (h : v.length - 2 = 2 * q) : pairsL v = (List.range q).map (pairA v) := by
  unfold pairsL; rw [h, show 2 * q / 2 = q by omega]; rfl
def ansE (t : Tr) (m : Msg) : Int :=
  if checkT t ≠ 0 then checkT t else if m.1 ≠ 13 then 1
  else if m.2.2.2.2.2.2.1.length < 2 ∨ m.2.2.2.2.2.2.1.length % 2 = 1 then 3
  else if m.2.2.2.2.2.2.1.getD 0 0 ≠ t.1 ∨ m.2.2.2.2.2.2.1.getD 1 0 ≠ t.2.1 then 22
  else if m.2.2.2.1 < 0 ∨ (t.2.2.length : Int) ≤ m.2.2.2.1 then 2
  else if extE (pairsL m.2.2.2.2.2.2.1) ((levT t m.2.2.2.1).length : Int) ≠ 0 then 3 else 0
def bodyOf (lev : List Int) (ns : List Nat) : List Int := ns.flatMap fun n => le8 (lev.getD n 0)
theorem bodyOf_snoc (lev : List Int) (ns : List Nat) (x : Nat) : bodyOf lev (ns ++ [x]) = bodyOf lev ns ++ le8 (lev.getD x 0) := by unfold bodyOf; rw [List.flatMap_append]; simp
theorem bodyOf_len (lev : List Int) : ∀ ns : List Nat, (bodyOf lev ns).length = 8 * ns.length
  | [] => rfl
  | n :: ns => by
    have h := bodyOf_len lev ns
    unfold bodyOf at h ⊢
    rw [List.flatMap_cons, List.length_append, h, List.length_cons]
    have : (le8 (lev.getD n 0)).length = 8 := by simp [le8]
    omega
def ansV (t : Tr) (m : Msg) : Msg :=
  if ansE t m ≠ 0 then zMsg else (14, m.2.2.1, m.2.1, m.2.2.2.1, 0, 0, m.2.2.2.2.2.2.1, bodyOf (levT t m.2.2.2.1) (numsL (pairsL m.2.2.2.2.2.2.1)))
end Go.Proofs.Ytjehedfdikdfpaa
namespace Go.Proofs.Ytjehedfdikdfpaa
open Go.RowKit Go.Shelf
attribute [local go_sem] Oper.semAt_some

/-- the object of a walk in memory -/
def WkRow (W : World) (b : Nat) (s lf : Int) (A : Option Addr) (n c : Nat) (P : Option Addr) (pn pc : Nat) (lv : Int) (F : Option Addr) (fn fc : Nat) (sent : Int) (done : Bool) : Prop :=
  W.heap[b]? = some (.cells #[.int .i64 s, .int .i64 lf, .slice A n c, .slice P pn pc, .int .i64 lv, .slice F fn fc, .int .i64 sent, .bool done] 88 (0, 0))
section
variable {W : World} {b : Nat} {s lf : Int} {A : Option Addr} {n c : Nat} {P : Option Addr} {pn pc : Nat} {lv : Int} {F : Option Addr} {fn fc : Nat} {sent : Int} {done : Bool}
theorem WkRow.cells (h : WkRow W b s lf A n c P pn pc lv F fn fc sent done) : (W.cell? ⟨b, 0, none⟩ = some (.int .i64 s) ∧ W.cell? ⟨b, 1, none⟩ = some (.int .i64 lf) ∧ W.cell? ⟨b, 2, none⟩ = some (.slice A n c)) ∧ W.cell? ⟨b, 3, none⟩ = some (.slice P pn pc) ∧ W.cell? ⟨b, 4, none⟩ = some (.int .i64 lv) ∧ W.cell? ⟨b, 5, none⟩ = some (.slice F fn fc) ∧ W.cell? ⟨b, 6, none⟩ = some (.int .i64 sent) ∧ W.cell? ⟨b, 7, none⟩ = some (.bool done) :=
  ⟨⟨cell_of_row W _ 0 _ _ _ h, cell_of_row W _ 1 _ _ _ h, cell_of_row W _ 2 _ _ _ h⟩, cell_of_row W _ 3 _ _ _ h, cell_of_row W _ 4 _ _ _ h, cell_of_row W _ 5 _ _ _ h, cell_of_row W _ 6 _ _ _ h, cell_of_row W _ 7 _ _ _ h⟩
theorem WkRow.lt (h : WkRow W b s lf A n c P pn pc lv F fn fc sent done) : b < W.heap.size := (Array.getElem?_eq_some_iff.1 h).1
end
theorem WkRow.of_blk {W W' : World} {b : Nat} {s lf : Int} {A : Option Addr} {n c : Nat} {P : Option Addr} {pn pc : Nat} {lv : Int} {F : Option Addr} {fn fc : Nat} {sent : Int} {done : Bool} (h : WkRow W b s lf A n c P pn pc lv F fn fc sent done) (he : W'.heap[b]? = W.heap[b]?) : WkRow W' b s lf A n c P pn pc lv F fn fc sent done := he.trans h
theorem WkRow.setF {W : World} {b : Nat} {s lf : Int} {A : Option Addr} {n c : Nat} {P : Option Addr} {pn pc : Nat} {lv : Int} {F F' : Option Addr} {fn fc fn' fc' : Nat} {sent : Int} {done : Bool} (h : WkRow W b s lf A n c P pn pc lv F fn fc sent done) : WkRow (W.setCell ⟨b, 5, none⟩ (.slice F' fn' fc')) b s lf A n c P pn pc lv F' fn' fc' sent done := by
  unfold WkRow at h ⊢; simp [World.setCell, Array.getElem?_modify, h]
set_option maxHeartbeats 1000000 in
theorem nodes_any (b n c k : Nat) (s lf : Int) (A P F : Option Addr) (pn pc fn fc : Nat) (sent : Int) (done : Bool) (l : List (List Int)) (S : Nat → Prop) (w : World) (hn : l.length = n) (hk : k < l.length) (hl : n ≤ 100000)
    (hrow : WkRow w b s lf A n c P pn pc (k : Int) F fn fc sent done) (h1 : SlAt (encSl encU64) w S A l) :
    Calls Try.prog 76 #[.pointer (some ⟨b, 0, none⟩)] w fun e w' => ∃ D d, e = .returned (.slice D l[k].length d) ∧ l[k].length ≤ d ∧ d ≤ maxLen ∧ SlAt encU64 w S D l[k] ∧ Drew w w' := by
  subst hn
  obtain ⟨⟨_, _, c2⟩, _, c4, _⟩ := hrow.cells
  obtain ⟨b2, off, D, d, rfl, hb, g0, hD, hd1, hd2⟩ := h1.sl hk
  obtain ⟨lv, hlv⟩ : ∃ lv, l[k] = lv := ⟨_, rfl⟩
  rw [hlv] at g0 hD hd1 ⊢
  have HD := Lib.hid (And.intro hd1 (And.intro hd2 hD))
  have hki : (k : Int) < l.length := by omega
  have hnn : (0 : Int) ≤ k := by omega
  clear hlv hD hd1 hd2
  go_enter Try.func76, Try.ntmps76
  go_upto_region 1 with (fail)
  go_quiet (fail)
  go_wp2
  go_ret
  exact ⟨D, d, rfl, HD.out.1, HD.out.2.1, HD.out.2.2, Drew.step (Drew.refl _) _⟩
end Go.Proofs.Ytjehedfdikdfpaa
namespace Go.Proofs.Ytjehedfdikdfpaa
open Go.RowKit Go.Shelf
attribute [local go_sem] Oper.semAt_some

theorem litS44 {α : Type} {E : Enc α} {W : World} {S S0 : Nat → Prop} {g : Nat} {T : TypeId} {cs : Array Value} {css : List (List Value)} {l : List α} (hg : W.heap[g]? = some (.cells cs T (0, 0))) (hcs : cs = css.flatten.toArray) (hr : All2 (E.rd W S0) css l) (h0 : ∀ b, S0 b → S b) (h1 : S g) (hn : ¬ S0 g) : SlAt E W S (some ⟨g, 0, none⟩) l := by
  have hsz := All2.sizes hr
  have hlen : css.flatten.length = l.length * E.size := by rw [flatten_len E.size css hsz, hr.length]
  intro hne
  refine ⟨g, 0, rfl, h1, fun i x hx => ?_⟩
  obtain ⟨cs', hc, hr'⟩ := hr.get hx
  refine ⟨cs', fun j u hu => ?_, Enc.more hr' h0⟩
  have hj : j < cs'.length := (List.getElem?_eq_some_iff.1 hu).1
  have hf := flatten_at _ _ _ _ _ _ hsz hc hu
  rw [cell_of_row _ _ _ _ _ _ hg, hcs]
  simp only [List.getElem?_toArray]
  have e : 0 + i * E.size + j = i * E.size + j := by omega
  rw [e]
  exact hf
theorem blk8_set {w : World} {b : Nat} {T : TypeId} {c0 c1 c2 c3 c4 c5 c6 c7 : Value} (h : w.heap[b]? = some (.cells #[c0, c1, c2, c3, c4, c5, c6, c7] T (0, 0))) (u0 u1 u2 u3 u4 u5 u6 u7 : Value) : ((((((((w.setCell ⟨b, 0, none⟩ u0).setCell ⟨b, 1, none⟩ u1).setCell ⟨b, 2, none⟩ u2).setCell ⟨b, 3, none⟩ u3).setCell ⟨b, 4, none⟩ u4).setCell ⟨b, 5, none⟩ u5).setCell ⟨b, 6, none⟩ u6).setCell ⟨b, 7, none⟩ u7).heap[b]? = some (.cells #[u0, u1, u2, u3, u4, u5, u6, u7] T (0, 0)) := by
  simp [World.setCell, Array.getElem?_modify, h]
def reqL (s lf : Int) (p : List Ext) : List Int := s :: lf :: p.flatMap fun x => [x.1, x.2]
theorem reqL_succ {s lf : Int} {p : List Ext} {k : Nat} (hk : k < p.length) : reqL s lf (p.take (k + 1)) = reqL s lf (p.take k) ++ [p[k].1, p[k].2] := by
  unfold reqL; rw [List.take_succ_eq_append_getElem hk, List.flatMap_append]; simp
theorem reqL_len (s lf : Int) (p : List Ext) : (reqL s lf p).length = 2 + 2 * p.length := by
  unfold reqL
  have : ∀ p : List Ext, (p.flatMap fun x => [x.1, x.2]).length = 2 * p.length := by
    intro p
    induction p with
    | nil => rfl
    | cons x p ih => rw [List.flatMap_cons, List.length_append, ih]; simp; omega
  simp only [List.length_cons, this]; omega
theorem tyInts44 : SliceTy Try.prog 42 3 1 8 := sliceTy_mk (z := .int .i64 0) Try.underlying42 (by kernel_rfl) rfl (by decide)
set_option maxHeartbeats 4000000 in
set_option maxRecDepth 100000 in
theorem request_any (b n c pc fn fc : Nat) (s lf lv : Int) (A P F : Option Addr) (sent : Int) (done : Bool) (p : List Ext) (w : World) (hl : p.length ≤ 100000) (hI : I64 s ∧ I64 lf)
    (hrow : WkRow w b s lf A n c P p.length pc lv F fn fc sent done) (h1 : SlAt encExt w (Bl w.heap.size) P p) :
    Calls Try.prog 38 #[.pointer (some ⟨b, 0, none⟩)] w fun e w' => ∃ V vc, e = .returned (.agg #[.int .i64 13, .int .i64 0, .int .i64 0, .int .i64 lv, .int .i64 0, .int .i64 0, .slice V (reqL s lf p).length vc, .slice none 0 0]) ∧ ((reqL s lf p).length ≤ vc ∧ vc ≤ maxLen ∧ SlAt encInt w' (Nw w.heap.size w'.heap.size) V (reqL s lf p)) ∧ Below w.heap.size w w' := by
  obtain ⟨n0, hn0⟩ : ∃ n0, w.heap.size = n0 := ⟨_, rfl⟩
  obtain ⟨W0, hW0⟩ : ∃ W0, w.alloc (.cells #[.int .i64 0, .int .i64 0, .int .i64 0, .int .i64 0, .int .i64 0, .int .i64 0, .slice none 0 0, .slice none 0 0] 45) = W0 := ⟨_, rfl⟩
  have hB0 : Below n0 w W0 := by rw [← hW0, ← hn0]; exact ext_alloc (Below.refl _ _)
  have hbl : b < n0 := by rw [← hn0]; exact hrow.lt
  have HWK : Hid (∀ W, Below n0 w W → WkRow W b s lf A n c P p.length pc lv F fn fc sent done) := fun W hb => (hb.block b hbl).trans hrow
  obtain ⟨⟨c0, c1, c2⟩, c3, c4, _⟩ := (HWK.out W0 hB0).cells
  go_enter Try.func38, Try.ntmps38
  go_upto_region 1 with (fail)
  go_region
  obtain ⟨n1, hn1⟩ : ∃ n1, W0.heap.size = n1 := ⟨_, rfl⟩
  have hn01 : n0 < n1 := by rw [← hn1, ← hW0, ← hn0]; simp
  have hr0 : W0.heap[n0]? = some (.cells #[.int .i64 0, .int .i64 0, .int .i64 0, .int .i64 0, .int .i64 0, .int .i64 0, .slice none 0 0, .slice none 0 0] 45 (0, 0)) := by rw [← hW0, ← hn0]; exact heap_alloc_new _ _
  obtain ⟨W1, hW1⟩ : ∃ W1, (W0.alloc (.cells #[.int .i64 s, .int .i64 lf] 3)).drew = W1 := ⟨_, rfl⟩
  have hb1 : Below n1 W0 W1 := by rw [← hW1, ← hn1]; exact (ext_alloc (Below.refl _ _)).drew
  have hO1 : Hid (OwnX (fun _ => False) encInt W1 n1 3 (.slice (some ⟨n1, 0, none⟩) 2 2) [s, lf]) := by
    rw [← hW1, ← hn1]
    refine (show OwnX (fun _ => False) encInt (W0.alloc (.cells #[.int .i64 s, .int .i64 lf] 3)) W0.heap.size 3 (.slice (some ⟨W0.heap.size, 0, none⟩) 2 2) [s, lf] from ⟨⟨[[.int .i64 s], [.int .i64 lf]], World.ownsRow_lit W0 #[.int .i64 s, .int .i64 lf] 2 (by omega) (by unfold maxLen; omega) rfl, ⟨⟨rfl, hI.1⟩, ⟨rfl, hI.2⟩, trivial⟩, fun g hg hS => hS.2.2 hg⟩, fun _ _ h => h⟩).below (Below.refl _ _).drew
  have hz1 : n1 < W1.heap.size := by rw [← hW1, ← hn1]; show W0.heap.size < (W0.alloc _).heap.size; simp
  have HP1 : Hid (∀ W, Below n1 W0 W → SlAt encExt W (Bl n0) P p) := fun W hb => by
    have h := (h1.below (w' := W0) (by rw [hn0]; exact hB0))
    rw [hn0] at h
    exact (h.blk (fun g hg => hb.block g (by have : g < n0 := hg; omega)))
  have HWK1 : Hid (∀ W, Below n1 W0 W → WkRow W b s lf A n c P p.length pc lv F fn fc sent done) := fun W hb => HWK.out W (hB0.trans (hb.mono (by omega)))
  rw [hW1, hn1]
  clear hW1 hW0 c0 c1 c2 c3 c4 hrow h1
  obtain ⟨⟨c0, c1, c2⟩, c3, c4, _⟩ := (HWK1.out W1 hb1).cells
  go_wp2_with fail
  clear c0 c1 c2 c3 c4
  go_loopw [3, 25] (fun v i wr => ∃ (k : Nat) (V : Option Addr) (vc : Nat) (out : List Int), k ≤ p.length ∧ i = .int .i64 k ∧ v = .slice V out.length vc ∧ Below n1 W0 wr ∧ n1 < wr.heap.size ∧ Hid (out = reqL s lf (p.take k)) ∧ Hid (OwnX (fun _ => False) encInt wr n1 3 (.slice V out.length vc) out)) (fun _ i _ => p.length - (intOf i).toNat)
  case atStart => exact ⟨0, some ⟨n1, 0, none⟩, 2, [s, lf], by omega, rfl, rfl, hb1, hz1, by simp [Hid, reqL], hO1.out⟩
  case round =>
    obtain ⟨wo, rfl⟩ : ∃ wo : World, wo = wr := ⟨_, rfl⟩
    obtain ⟨k, V, vc, out, hk, rfl, rfl, hB, hz, hout, hown⟩ := hrel
    have hol : out.length ≤ 200002 := by rw [hout.out, reqL_len, List.length_take]; omega
    by_cases hlt : k < p.length
    · obtain ⟨b2, off, rfl, hb2, g0, g1, hi1, hi2⟩ := (HP1.out wo hB).ext hlt
      have hst := Lib.hid (reqL_succ (s := s) (lf := lf) hlt)
      obtain ⟨x, hx⟩ : ∃ x, p[k] = x := ⟨_, rfl⟩
      rw [hx] at g0 g1 hi1 hi2 hst
      obtain ⟨e1, e2⟩ := x
      simp only at g0 g1 hi1 hi2 hst
      have hki : (k : Int) < p.length := by omega
      have hnn : (0 : Int) ≤ k := by omega
      obtain ⟨V1, hV1⟩ : ∃ V1, wo.alloc (.cells #[.int .i64 e1, .int .i64 e2] 67) = V1 := ⟨_, rfl⟩
      have hbV : Below wo.heap.size wo V1 := by rw [← hV1]; exact ext_alloc (Below.refl _ _)
      have hrV : V1.heap[wo.heap.size]? = some (.cells #[.int .i64 e1, .int .i64 e2] 67 (0, 0)) := by rw [← hV1]; exact heap_alloc_new _ _
      obtain ⟨x0, x1, _⟩ := blk2 hrV
      have hlt5 := hown.out.lt
      have hVz := hbV.size
      have hO5 := Lib.hid ((hown.out.below hbV).alloc (.cells #[.int .i64 e1, .int .i64 e2] 3))
      have hO5o := Lib.hid hO5.out.1
      have hsrc : Hid (SlAt encInt (V1.alloc (.cells #[.int .i64 e1, .int .i64 e2] 3)) (fun g => Nw n1 (V1.alloc (.cells #[.int .i64 e1, .int .i64 e2] 3)).heap.size g ∧ ¬ (fun _ => False) g ∧ (Value.slice V out.length vc).ownBlock ≠ some g) (some ⟨V1.heap.size, 0, none⟩) [e1, e2]) :=
        litS44 (E := encInt) (S0 := fun _ => False) (css := [[.int .i64 e1], [.int .i64 e2]]) (heap_alloc_new _ _) rfl ⟨⟨rfl, hi1⟩, ⟨rfl, hi2⟩, trivial⟩ (fun _ h => h.elim) ⟨⟨by omega, by simp⟩, fun h => h, fun h => by have := (hlt5 _ h).2; omega⟩ (fun h => h)
      have HB0 := Lib.hid hB
      have HV1 := Lib.hid hV1
      clear hx hV1
      go_upto_region 5 with (fail)
      rw [HV1.out]
      go_wp2_with (at_builtin; refine Hid.out ?_)
      change wpList _ _ _ _ _ _
      refine wpList_appAll (E := encInt) tyInts44 rfl _ _ rfl rfl hO5o.out rfl rfl hsrc.out (fun g hg => hg.1.2) (by first | omega | (simp; omega)) (by unfold maxLen; first | omega | (simp; omega)) (by first | omega | (simp; omega)) ?_
      intro A7 c7 w7 hown7 hg7 hat7
      have hO7 := Lib.hid (hO5.out.app hown7 hg7 hat7 (fun g h => h.elim))
      have hB7 : Hid (Below n1 W0 w7) := ((HB0.out.trans (hbV.mono (by omega))).alloc (by omega) (.cells #[.int .i64 e1, .int .i64 e2] 3)).grown hg7 (by simp; omega) (fun g h => (hlt5 g h).1)
      have hz7 : n1 < w7.heap.size := by have := hg7.size; simp at this; omega
      clear hown7 hg7 hat7 hlt5
      go_wp2_with fail
      go_roundw
      case rel =>
        refine ⟨k + 1, A7, c7, out ++ [e1, e2], hlt, by go_num, by simp, hB7.out, hz7, by rw [Hid, hst.out, hout.out], ?_⟩
        have := hO7.out; simpa [Hid] using this
      case measure => simp [intOf]; omega
    · have hki : ¬ (k : Int) < p.length := by omega
      have hE : Hid (out = reqL s lf p) := by rw [Hid, hout.out, List.take_of_length_le (by omega)]
      obtain ⟨_, o1, o2, o3⟩ := hown.out.parts
      have HO := Lib.hid (And.intro o1 (And.intro o2 o3))
      have hrz := (hB.block n0 (by omega)).trans hr0
      obtain ⟨⟨c0, c1, c2⟩, c3, c4, _⟩ := (HWK1.out wo hB).cells
      obtain ⟨z0, z1, z2, z3, z4, z5, z6, z7, zf⟩ := blk8 hrz
      clear hlt o1 o2 o3
      go_wp2_with fail
      have hz := blk8_set hrz (.int .i64 13) (.int .i64 0) (.int .i64 0) (.int .i64 lv) (.int .i64 0) (.int .i64 0) (.slice V out.length vc) (.slice none 0 0)
      have hBwo : Below n0 w wo := hB0.trans (hB.mono (by omega))
      have hbe := ((((((((hBwo.setCell (p := ⟨n0, 0, none⟩) (Nat.le_refl _) (.int .i64 13)).setCell (p := ⟨n0, 1, none⟩) (Nat.le_refl _) (.int .i64 0)).setCell (p := ⟨n0, 2, none⟩) (Nat.le_refl _) (.int .i64 0)).setCell (p := ⟨n0, 3, none⟩) (Nat.le_refl _) (.int .i64 lv)).setCell (p := ⟨n0, 4, none⟩) (Nat.le_refl _) (.int .i64 0)).setCell (p := ⟨n0, 5, none⟩) (Nat.le_refl _) (.int .i64 0)).setCell (p := ⟨n0, 6, none⟩) (Nat.le_refl _) (.slice V out.length vc)).setCell (p := ⟨n0, 7, none⟩) (Nat.le_refl _) (.slice none 0 0))
      have hoth : ∀ g, g ≠ n0 → ((((((((wo.setCell ⟨n0, 0, none⟩ (.int .i64 13)).setCell ⟨n0, 1, none⟩ (.int .i64 0)).setCell ⟨n0, 2, none⟩ (.int .i64 0)).setCell ⟨n0, 3, none⟩ (.int .i64 lv)).setCell ⟨n0, 4, none⟩ (.int .i64 0)).setCell ⟨n0, 5, none⟩ (.int .i64 0)).setCell ⟨n0, 6, none⟩ (.slice V out.length vc)).setCell ⟨n0, 7, none⟩ (.slice none 0 0)).heap[g]? = wo.heap[g]? := fun g hg => ((((((((heap_setCell_other _ ⟨n0, 7, none⟩ g _ hg).trans (heap_setCell_other _ ⟨n0, 6, none⟩ g _ hg)).trans (heap_setCell_other _ ⟨n0, 5, none⟩ g _ hg)).trans (heap_setCell_other _ ⟨n0, 4, none⟩ g _ hg)).trans (heap_setCell_other _ ⟨n0, 3, none⟩ g _ hg)).trans (heap_setCell_other _ ⟨n0, 2, none⟩ g _ hg)).trans (heap_setCell_other _ ⟨n0, 1, none⟩ g _ hg)).trans (heap_setCell_other _ ⟨n0, 0, none⟩ g _ hg))
      have hsz : ((((((((wo.setCell ⟨n0, 0, none⟩ (.int .i64 13)).setCell ⟨n0, 1, none⟩ (.int .i64 0)).setCell ⟨n0, 2, none⟩ (.int .i64 0)).setCell ⟨n0, 3, none⟩ (.int .i64 lv)).setCell ⟨n0, 4, none⟩ (.int .i64 0)).setCell ⟨n0, 5, none⟩ (.int .i64 0)).setCell ⟨n0, 6, none⟩ (.slice V out.length vc)).setCell ⟨n0, 7, none⟩ (.slice none 0 0)).heap.size = wo.heap.size := by simp [World.setCell]
      change bodyPost _ _ _ _ _ ((((((((wo.setCell ⟨n0, 0, none⟩ (.int .i64 13)).setCell ⟨n0, 1, none⟩ (.int .i64 0)).setCell ⟨n0, 2, none⟩ (.int .i64 0)).setCell ⟨n0, 3, none⟩ (.int .i64 lv)).setCell ⟨n0, 4, none⟩ (.int .i64 0)).setCell ⟨n0, 5, none⟩ (.int .i64 0)).setCell ⟨n0, 6, none⟩ (.slice V out.length vc)).setCell ⟨n0, 7, none⟩ (.slice none 0 0))
      generalize ((((((((wo.setCell ⟨n0, 0, none⟩ (.int .i64 13)).setCell ⟨n0, 1, none⟩ (.int .i64 0)).setCell ⟨n0, 2, none⟩ (.int .i64 0)).setCell ⟨n0, 3, none⟩ (.int .i64 lv)).setCell ⟨n0, 4, none⟩ (.int .i64 0)).setCell ⟨n0, 5, none⟩ (.int .i64 0)).setCell ⟨n0, 6, none⟩ (.slice V out.length vc)).setCell ⟨n0, 7, none⟩ (.slice none 0 0)) = W3 at hz hbe hoth hsz ⊢
      obtain ⟨z0, z1, z2, z3, z4, z5, z6, z7, _⟩ := blk8 hz
      refine bodyPost_ret (v := .agg #[.int .i64 13, .int .i64 0, .int .i64 0, .int .i64 lv, .int .i64 0, .int .i64 0, .slice V out.length vc, .slice none 0 0]) ?_ rfl ?_
      · simp [results, Try.results38, Try.f38, go_sem, z0, z1, z2, z3, z4, z5, z6, z7]
      rw [← hE.out]
      exact ⟨V, vc, rfl, ⟨HO.out.1, HO.out.2.1, (HO.out.2.2.blk (fun g hg => hoth g (by have := hg.1.1; omega))).more (fun g hg => ⟨by have := hg.1.1; omega, by have := hg.1.2; omega⟩)⟩, hbe⟩
end Go.Proofs.Ytjehedfdikdfpaa
namespace Go.Proofs.Ytjehedfdikdfpaa
open Go.RowKit Go.Shelf

/-- a message -/
def encMsg : Enc Msg where
  size := 8
  rd w S cs x := ∃ V vc B bc, cs = [.int .i64 x.1, .int .i64 x.2.1, .int .i64 x.2.2.1, .int .i64 x.2.2.2.1, .int .i64 x.2.2.2.2.1, .int .i64 x.2.2.2.2.2.1, .slice V x.2.2.2.2.2.2.1.length vc, .slice B x.2.2.2.2.2.2.2.length bc] ∧
    (I64 x.1 ∧ I64 x.2.1 ∧ I64 x.2.2.1 ∧ I64 x.2.2.2.1 ∧ I64 x.2.2.2.2.1 ∧ I64 x.2.2.2.2.2.1) ∧ (x.2.2.2.2.2.2.1.length ≤ vc ∧ vc ≤ maxLen ∧ SlAt encInt w S V x.2.2.2.2.2.2.1) ∧ (x.2.2.2.2.2.2.2.length ≤ bc ∧ bc ≤ maxLen ∧ SlAt encU8 w S B x.2.2.2.2.2.2.2)
  len h := by obtain ⟨V, vc, B, bc, rfl, _⟩ := h; rfl
  one h := by obtain ⟨V, vc, B, bc, rfl, _⟩ := h; simp [Value.oneCell']
  keep h hk hS := by
    obtain ⟨V, vc, B, bc, rfl, h1, ⟨h2, h3, h4⟩, h5, h6, h7⟩ := h
    exact ⟨V, vc, B, bc, rfl, h1, ⟨h2, h3, h4.keep hk hS⟩, h5, h6, h7.keep hk hS⟩
/-- the value of a walk -/
def WkVal (w : World) (S : Nat → Prop) (x : Wk) (v : Value) : Prop :=
  ∃ A c P pc F fc, v = .agg #[.int .i64 x.1.1, .int .i64 x.1.2.1, .slice A x.1.2.2.length c, .slice P x.2.1.length pc, .int .i64 x.2.2.1, .slice F x.2.2.2.1.length fc, .int .i64 x.2.2.2.2.1, .bool x.2.2.2.2.2] ∧
    (x.1.2.2.length ≤ c ∧ c ≤ maxLen ∧ SlAt (encSl encU64) w S A x.1.2.2) ∧ (x.2.1.length ≤ pc ∧ pc ≤ maxLen ∧ SlAt encExt w S P x.2.1) ∧ (x.2.2.2.1.length ≤ fc ∧ fc ≤ maxLen ∧ SlAt encExt w S F x.2.2.2.1) ∧ (I64 x.1.1 ∧ I64 x.1.2.1 ∧ I64 x.2.2.1 ∧ I64 x.2.2.2.2.1)
theorem WkVal.keep {w w' : World} {S S' : Nat → Prop} {x : Wk} {v : Value} (h : WkVal w S x v) (hk : ∀ g, S g → w'.heap[g]? = w.heap[g]?) (hS : ∀ g, S g → S' g) : WkVal w' S' x v := by
  obtain ⟨A, c, P, pc, F, fc, rfl, ⟨a1, a2, a3⟩, ⟨b1, b2, b3⟩, ⟨c1, c2, c3⟩, hi⟩ := h
  exact ⟨A, c, P, pc, F, fc, rfl, ⟨a1, a2, (a3.blk hk).more hS⟩, ⟨b1, b2, (b3.blk hk).more hS⟩, ⟨c1, c2, (c3.blk hk).more hS⟩, hi⟩
theorem WkVal.fwd {w w' : World} {x : Wk} {v : Value} (h : WkVal w (Bl w.heap.size) x v) (hb : Below w.heap.size w w') : WkVal w' (Bl w'.heap.size) x v := h.keep (fun g hg => hb.block g hg) (fun g hg => Nat.lt_of_lt_of_le hg hb.size)
theorem wkVal_zero {w : World} {S : Nat → Prop} : WkVal w S zWk (.agg #[.int .i64 0, .int .i64 0, .slice none 0 0, .slice none 0 0, .int .i64 0, .slice none 0 0, .int .i64 0, .bool false]) :=
  ⟨none, 0, none, 0, none, 0, rfl, ⟨Nat.zero_le _, Nat.zero_le _, SlAt.nil_⟩, ⟨Nat.zero_le _, Nat.zero_le _, SlAt.nil_⟩, ⟨Nat.zero_le _, Nat.zero_le _, SlAt.nil_⟩, by unfold I64; decide, by unfold I64; decide, by unfold I64; decide, by unfold I64; decide⟩
/-- the value of a message -/
def MsgVal (w : World) (S : Nat → Prop) (x : Msg) (v : Value) : Prop :=
  ∃ V vc B bc, v = .agg #[.int .i64 x.1, .int .i64 x.2.1, .int .i64 x.2.2.1, .int .i64 x.2.2.2.1, .int .i64 x.2.2.2.2.1, .int .i64 x.2.2.2.2.2.1, .slice V x.2.2.2.2.2.2.1.length vc, .slice B x.2.2.2.2.2.2.2.length bc] ∧
    (I64 x.1 ∧ I64 x.2.1 ∧ I64 x.2.2.1 ∧ I64 x.2.2.2.1 ∧ I64 x.2.2.2.2.1 ∧ I64 x.2.2.2.2.2.1) ∧ (x.2.2.2.2.2.2.1.length ≤ vc ∧ vc ≤ maxLen ∧ SlAt encInt w S V x.2.2.2.2.2.2.1) ∧ (x.2.2.2.2.2.2.2.length ≤ bc ∧ bc ≤ maxLen ∧ SlAt encU8 w S B x.2.2.2.2.2.2.2)
theorem MsgVal.keep {w w' : World} {S S' : Nat → Prop} {x : Msg} {v : Value} (h : MsgVal w S x v) (hk : ∀ g, S g → w'.heap[g]? = w.heap[g]?) (hS : ∀ g, S g → S' g) : MsgVal w' S' x v := by
  obtain ⟨V, vc, B, bc, rfl, hi, ⟨a1, a2, a3⟩, b1, b2, b3⟩ := h
  exact ⟨V, vc, B, bc, rfl, hi, ⟨a1, a2, (a3.blk hk).more hS⟩, b1, b2, (b3.blk hk).more hS⟩
theorem i64_small (n : Int) (h : 0 ≤ n ∧ n ≤ 1000000) : I64 n := by unfold I64; omega
theorem msgVal_zero {w : World} {S : Nat → Prop} : MsgVal w S zMsg (.agg #[.int .i64 0, .int .i64 0, .int .i64 0, .int .i64 0, .int .i64 0, .int .i64 0, .slice none 0 0, .slice none 0 0]) :=
  have i0 := i64_small 0 (by omega)
  ⟨none, 0, none, 0, rfl, ⟨i0, i0, i0, i0, i0, i0⟩, ⟨Nat.zero_le _, Nat.zero_le _, SlAt.nil_⟩, Nat.zero_le _, Nat.zero_le _, SlAt.nil_⟩
/-- a message and the number of an error -/
def RetMsg (x : Msg) (r : Int) (w : World) (e : Ending) (w' : World) : Prop :=
  ∃ v, e = .returned (.tuple #[v, .int .i64 r]) ∧ MsgVal w' (Nw w.heap.size w'.heap.size) x v ∧ Below w.heap.size w w'
/-- a walk, messages and the number of an error -/
def RetW (x : Wk) (ms : List Msg) (r : Int) (w : World) (e : Ending) (w' : World) : Prop :=
  ∃ v B bc, e = .returned (.tuple #[v, .slice B ms.length bc, .int .i64 r]) ∧ WkVal w' (Nw w.heap.size w'.heap.size) x v ∧ ms.length ≤ bc ∧ bc ≤ maxLen ∧ SlAt encMsg w' (Nw w.heap.size w'.heap.size) B ms ∧ Below w.heap.size w w'
/-- the request of a walk -/
def reqMsg (x : Wk) : Msg := (13, 0, 0, x.2.2.1, 0, 0, reqL x.1.1 x.1.2.1 x.2.1, [])
def begM (t : Tr) : List Msg := if checkT t = 0 then [reqMsg (begW t)] else []
theorem set8_sz {W : World} {b : Nat} {u0 u1 u2 u3 u4 u5 u6 u7 : Value} : (set8 W b u0 u1 u2 u3 u4 u5 u6 u7).heap.size = W.heap.size := by simp [set8, World.setCell]
/-- the end of a function that returns a walk, messages and a number: the walk was stored in block b -/
theorem wk_end {w W : World} {b : Nat} {T : TypeId} {c0 c1 c2 c3 c4 c5 c6 c7 u0 u1 u2 u3 u4 u5 u6 u7 : Value} (hrow : W.heap[b]? = some (.cells #[c0, c1, c2, c3, c4, c5, c6, c7] T (0, 0))) (hb : w.heap.size ≤ b) (hB : Below w.heap.size w W) {x : Wk}
    (hv : WkVal W (fun g => w.heap.size ≤ g ∧ g < W.heap.size ∧ g ≠ b) x (.agg #[u0, u1, u2, u3, u4, u5, u6, u7])) {ms : List Msg} {B : Option Addr} {n bc : Nat} (hn : ms.length = n) (hm : n ≤ bc ∧ bc ≤ maxLen ∧ SlAt encMsg W (fun g => w.heap.size ≤ g ∧ g < W.heap.size ∧ g ≠ b) B ms) (r : Int) :
    (set8 W b u0 u1 u2 u3 u4 u5 u6 u7).heap[b]? = some (.cells #[u0, u1, u2, u3, u4, u5, u6, u7] T (0, 0)) ∧
    RetW x ms r w (.returned (.tuple #[.agg #[u0, u1, u2, u3, u4, u5, u6, u7], .slice B n bc, .int .i64 r])) (set8 W b u0 u1 u2 u3 u4 u5 u6 u7) := by
  subst hn
  have ho : ∀ g, (w.heap.size ≤ g ∧ g < W.heap.size ∧ g ≠ b) → (set8 W b u0 u1 u2 u3 u4 u5 u6 u7).heap[g]? = W.heap[g]? := fun g hg => set8_other hg.2.2 _ _ _ _ _ _ _ _
  have hs : ∀ g, (w.heap.size ≤ g ∧ g < W.heap.size ∧ g ≠ b) → Nw w.heap.size (set8 W b u0 u1 u2 u3 u4 u5 u6 u7).heap.size g := fun g hg => ⟨hg.1, by rw [set8_sz]; exact hg.2.1⟩
  exact ⟨set8_row hrow _ _ _ _ _ _ _ _, _, B, bc, rfl, hv.keep ho hs, hm.1, hm.2.1, (hm.2.2.blk ho).more hs, set8_below hB hb _ _ _ _ _ _ _ _⟩
theorem setCell_alloc {w : World} {o : Obj} {p : Addr} (v : Value) (h : p.block < w.heap.size) : (w.alloc o).setCell p v = (w.setCell p v).alloc o := by
  unfold World.setCell World.alloc
  simp only [World.mk.injEq, and_true, true_and]
  refine Array.ext_getElem? fun i => ?_
  rw [Array.getElem?_modify, Array.getElem?_push, Array.getElem?_push, Array.getElem?_modify, Array.size_modify]
  by_cases hi : i = w.heap.size
  · rw [if_pos hi, if_neg (by omega), if_pos hi]
  · rw [if_neg hi, if_neg hi]
theorem set8_alloc {w : World} {o : Obj} {b : Nat} (u0 u1 u2 u3 u4 u5 u6 u7 : Value) (h : b < w.heap.size) : set8 (w.alloc o) b u0 u1 u2 u3 u4 u5 u6 u7 = (set8 w b u0 u1 u2 u3 u4 u5 u6 u7).alloc o := by
  have hz : ∀ (w : World) (i : Nat) (v : Value), b < w.heap.size → b < (w.setCell ⟨b, i, none⟩ v).heap.size := fun w i v h => by simpa [World.setCell] using h
  unfold set8
  have h1 := hz _ 0 u0 h
  have h2 := hz _ 1 u1 h1
  have h3 := hz _ 2 u2 h2
  have h4 := hz _ 3 u3 h3
  have h5 := hz _ 4 u4 h4
  have h6 := hz _ 5 u5 h5
  have h7 := hz _ 6 u6 h6
  rw [setCell_alloc (p := ⟨b, 0, none⟩) _ h, setCell_alloc (p := ⟨b, 1, none⟩) _ h1, setCell_alloc (p := ⟨b, 2, none⟩) _ h2, setCell_alloc (p := ⟨b, 3, none⟩) _ h3, setCell_alloc (p := ⟨b, 4, none⟩) _ h4, setCell_alloc (p := ⟨b, 5, none⟩) _ h5, setCell_alloc (p := ⟨b, 6, none⟩) _ h6, setCell_alloc (p := ⟨b, 7, none⟩) _ h7]
/-- the end of a function that returns a message and a number: the message was stored in block b -/
theorem msg_end {w W : World} {b : Nat} {T : TypeId} {c0 c1 c2 c3 c4 c5 c6 c7 u0 u1 u2 u3 u4 u5 u6 u7 : Value} (hrow : W.heap[b]? = some (.cells #[c0, c1, c2, c3, c4, c5, c6, c7] T (0, 0))) (hb : w.heap.size ≤ b) (hB : Below w.heap.size w W) {x : Msg}
    (hv : MsgVal W (fun g => w.heap.size ≤ g ∧ g < W.heap.size ∧ g ≠ b) x (.agg #[u0, u1, u2, u3, u4, u5, u6, u7])) (r : Int) :
    (set8 W b u0 u1 u2 u3 u4 u5 u6 u7).heap[b]? = some (.cells #[u0, u1, u2, u3, u4, u5, u6, u7] T (0, 0)) ∧
    RetMsg x r w (.returned (.tuple #[.agg #[u0, u1, u2, u3, u4, u5, u6, u7], .int .i64 r])) (set8 W b u0 u1 u2 u3 u4 u5 u6 u7) := by
  have ho : ∀ g, (w.heap.size ≤ g ∧ g < W.heap.size ∧ g ≠ b) → (set8 W b u0 u1 u2 u3 u4 u5 u6 u7).heap[g]? = W.heap[g]? := fun g hg => set8_other hg.2.2 _ _ _ _ _ _ _ _
  have hs : ∀ g, (w.heap.size ≤ g ∧ g < W.heap.size ∧ g ≠ b) → Nw w.heap.size (set8 W b u0 u1 u2 u3 u4 u5 u6 u7).heap.size g := fun g hg => ⟨hg.1, by rw [set8_sz]; exact hg.2.1⟩
  exact ⟨set8_row hrow _ _ _ _ _ _ _ _, _, rfl, hv.keep ho hs, set8_below hB hb _ _ _ _ _ _ _ _⟩
/-- all blocks but one keep -/
def BelX (X : Nat) (w w' : World) : Prop := ∀ g, g < w.heap.size → g ≠ X → w'.heap[g]? = w.heap[g]?
theorem belX_of {X : Nat} {w w' : World} (h : Below w.heap.size w w') : BelX X w w' := fun g hg _ => h.block g hg
/-- the end of a function that returns a walk and its request: the walk was stored in block rb, then the request was laid -/
theorem wk_req_end {w w3 : World} {rb : Nat} {T : TypeId} {c0 c1 c2 c3 c4 c5 c6 c7 u0 u1 u2 u3 u4 u5 u6 u7 : Value} (hrow : w3.heap[rb]? = some (.cells #[c0, c1, c2, c3, c4, c5, c6, c7] T (0, 0))) (hb : w.heap.size ≤ rb) (hB : Below w.heap.size w w3) {x : Wk}
    (hv : WkVal w3 (fun g => w.heap.size ≤ g ∧ g < w3.heap.size ∧ g ≠ rb) x (.agg #[u0, u1, u2, u3, u4, u5, u6, u7])) {V : Option Addr} {n vc : Nat} (hn : (reqL x.1.1 x.1.2.1 x.2.1).length = n) (hV : n ≤ vc ∧ vc ≤ maxLen ∧ SlAt encInt w3 (fun g => w.heap.size ≤ g ∧ g < w3.heap.size ∧ g ≠ rb) V (reqL x.1.1 x.1.2.1 x.2.1)) :
    ((set8 w3 rb u0 u1 u2 u3 u4 u5 u6 u7).alloc (.cells #[.int .i64 13, .int .i64 0, .int .i64 0, .int .i64 x.2.2.1, .int .i64 0, .int .i64 0, .slice V n vc, .slice none 0 0] 45)).heap[rb]? = some (.cells #[u0, u1, u2, u3, u4, u5, u6, u7] T (0, 0)) ∧
    RetW x [reqMsg x] 0 w (.returned (.tuple #[.agg #[u0, u1, u2, u3, u4, u5, u6, u7], .slice (some ⟨w3.heap.size, 0, none⟩) 1 1, .int .i64 0])) ((set8 w3 rb u0 u1 u2 u3 u4 u5 u6 u7).alloc (.cells #[.int .i64 13, .int .i64 0, .int .i64 0, .int .i64 x.2.2.1, .int .i64 0, .int .i64 0, .slice V n vc, .slice none 0 0] 45)) := by
  subst hn
  have hr0 := set8_row hrow u0 u1 u2 u3 u4 u5 u6 u7
  have hsz : (set8 w3 rb u0 u1 u2 u3 u4 u5 u6 u7).heap.size = w3.heap.size := set8_sz
  have hB8 : Below w.heap.size w (set8 w3 rb u0 u1 u2 u3 u4 u5 u6 u7) := set8_below hB hb _ _ _ _ _ _ _ _
  have ho : ∀ g, (w.heap.size ≤ g ∧ g < w3.heap.size ∧ g ≠ rb) → (set8 w3 rb u0 u1 u2 u3 u4 u5 u6 u7).heap[g]? = w3.heap[g]? := fun g hg => set8_other hg.2.2 _ _ _ _ _ _ _ _
  generalize set8 w3 rb u0 u1 u2 u3 u4 u5 u6 u7 = W8 at hr0 hsz hB8 ho ⊢
  have ho2 : ∀ g, (w.heap.size ≤ g ∧ g < w3.heap.size ∧ g ≠ rb) → (W8.alloc (.cells #[.int .i64 13, .int .i64 0, .int .i64 0, .int .i64 x.2.2.1, .int .i64 0, .int .i64 0, .slice V (reqL x.1.1 x.1.2.1 x.2.1).length vc, .slice none 0 0] 45)).heap[g]? = w3.heap[g]? := fun g hg => (Below.heap_alloc _ _ _ (by rw [hsz]; exact hg.2.1)).trans (ho g hg)
  have hlv : I64 x.2.2.1 := by obtain ⟨_, _, _, _, _, _, _, _, _, _, h⟩ := hv; exact h.2.2.1
  have hrb : rb < W8.heap.size := (Array.getElem?_eq_some_iff.1 hr0).1
  refine ⟨(Below.heap_alloc _ _ _ hrb).trans hr0, _, _, _, rfl, hv.keep ho2 (fun g hg => ⟨hg.1, by simp; omega⟩), Nat.le_refl _, by unfold maxLen; decide, ?_, hB8.alloc hB8.size _⟩
  refine litS44 (E := encMsg) (S0 := fun g => w.heap.size ≤ g ∧ g < w3.heap.size ∧ g ≠ rb) (css := [[.int .i64 13, .int .i64 0, .int .i64 0, .int .i64 x.2.2.1, .int .i64 0, .int .i64 0, .slice V (reqL x.1.1 x.1.2.1 x.2.1).length vc, .slice none 0 0]]) (by rw [← hsz]; exact heap_alloc_new _ _) rfl ⟨?_, trivial⟩ (fun g hg => ⟨hg.1, by simp; omega⟩) ⟨hB.size, by simp; omega⟩ (fun h => by have := h.2.1; omega)
  have i13 : I64 13 := by unfold I64; decide
  have i0 : I64 0 := by unfold I64; decide
  exact ⟨V, vc, none, 0, rfl, ⟨i13, i0, i0, hlv, i0, i0⟩, ⟨hV.1, hV.2.1, hV.2.2.blk ho2⟩, Nat.zero_le _, Nat.zero_le _, SlAt.nil_⟩
end Go.Proofs.Ytjehedfdikdfpaa
namespace Go.Proofs.Ytjehedfdikdfpaa
open Go.RowKit Go.Shelf
attribute [local go_sem] Oper.semAt_some

theorem extsL_canon : ∀ es : List Ext, es.Pairwise (fun x y => x.1 + x.2 < y.1) → extsL es = es := by
  refine snocRec ?_ ?_
  · intro _; rfl
  · intro es e ih hp
    rw [List.pairwise_append] at hp
    rw [extsL_snoc, ih hp.1]
    unfold extStep
    cases h : es.getLast? with
    | none => rw [List.getLast?_eq_none_iff.1 h]; rfl
    | some x =>
      obtain ⟨s, c⟩ := x
      have := hp.2.2 (s, c) (List.mem_of_getLast? h) e (by simp)
      simp only at this ⊢
      rw [if_neg (by omega)]
theorem union_canon {N : Int} {es : List Ext} (h : extE es N = 0) : opL or es [] = es ∧ (∀ e ∈ es, 0 ≤ e.1 ∧ 0 < e.2 ∧ e.1 + e.2 ≤ N) ∧ N ≤ 4096 := by
  unfold extE at h
  split at h
  · omega
  · obtain ⟨h1, h2⟩ := exE_mem h
    refine ⟨?_, fun e he => (h1 e he).2, by omega⟩
    rw [opL_exts (h2.imp (fun h => by omega)) (fun e he => by have := h1 e he; omega), extsL_canon es h2]
def sumC (r : List Ext) : Int := (r.map (·.2)).sum
theorem sumC_take {r : List Ext} {k : Nat} (hk : k < r.length) : sumC (r.take (k + 1)) = sumC (r.take k) + r[k].2 := by
  unfold sumC; rw [List.take_succ_eq_append_getElem hk, List.map_append, List.sum_append]; simp
theorem sumC_bound : ∀ r : List Ext, (∀ e ∈ r, 0 < e.2 ∧ e.2 ≤ 4096) → 0 ≤ sumC r ∧ sumC r ≤ 4096 * r.length
  | [], _ => by simp [sumC]
  | x :: r, h => by
    have ih := sumC_bound r (fun e he => h e (List.mem_cons_of_mem _ he))
    have h1 := h x (by simp)
    have e : sumC (x :: r) = x.2 + sumC r := by simp [sumC]
    rw [e, List.length_cons]; omega
theorem sumC_nums : ∀ r : List Ext, (∀ e ∈ r, 0 ≤ e.1 ∧ 0 < e.2) → sumC r = ((numsL r).length : Int)
  | [], _ => rfl
  | x :: r, h => by
    have ih := sumC_nums r (fun e he => h e (List.mem_cons_of_mem _ he))
    have h1 := h x (by simp)
    have e : sumC (x :: r) = x.2 + sumC r := by simp [sumC]
    have e2 : (numsL (x :: r)).length = x.2.toNat + (numsL r).length := by simp [numsL]
    rw [e, e2, ih]; omega
theorem sumC_canon {N : Int} : ∀ (es : List Ext) (a : Int), exE N a es = 0 → a ≤ N → sumC es ≤ N - a
  | [], a, _, h => by simp [sumC]; omega
  | x :: r, a, h, ha => by
    unfold exE at h
    split at h
    · omega
    · split at h
      · omega
      · split at h
        · omega
        · have e : sumC (x :: r) = x.2 + sumC r := by simp [sumC]
          by_cases hr : x.1 + x.2 + 1 ≤ N
          · have := sumC_canon r _ h hr
            omega
          · cases r with
            | nil => simp [sumC]; omega
            | cons y r =>
              unfold exE at h
              split at h
              · omega
              · split at h
                · omega
                · split at h <;> omega
theorem nums_canon {N : Int} {es : List Ext} (h : extE es N = 0) : (numsL es).length ≤ 4096 := by
  obtain ⟨_, h1, h2⟩ := union_canon h
  unfold extE at h
  split at h
  · omega
  · have h3 := sumC_canon es 0 h (by omega)
    have h4 := sumC_nums es (fun e he => by have := h1 e he; omega)
    omega
set_option maxHeartbeats 4000000 in
set_option maxRecDepth 100000 in
theorem count_any (A : Option Addr) (c n : Nat) (l r : List Ext) (v : Int) (w : World) (hn : l.length = n) (hr : opL or l [] = r) (hv : sumC r = v) (h1 : SlAt encExt w (Bl w.heap.size) A l) (hl : n ≤ 100000) (hc : n ≤ c ∧ c ≤ maxLen) :
    Calls Try.prog 50 #[.slice A n c] w fun e w' => e = .returned (.int .i64 v) ∧ Below w.heap.size w w' := by
  have hb := opL_bound or l []
  rw [hr] at hb
  have HB := Lib.hid hb.1
  have hrl := hb.2
  have HU := Lib.hid (union_any A none c 0 n 0 l [] r hn rfl hr w h1 SlAt.nil_ hl (by omega) hc (by unfold maxLen; omega))
  have HV := Lib.hid hv
  clear hb hv h1 hr hn
  go_enter Try.func50, Try.ntmps50
  go_wp2_with fail
  refine HU.out.mono ?_
  rintro e w1 ⟨A1, c1, rfl, hc1, hc2, hA1, hb1⟩
  have HA1 : Hid (∀ W, Below w1.heap.size w1 W → SlAt encExt W (Nw w.heap.size w1.heap.size) A1 r) := fun W hb => hA1.blk (fun g hg => hb.block g hg.2)
  clear hA1
  go_wp2_with fail
  go_loopw [3, 9] (fun s i wr => ∃ (k : Nat) (sv : Int), k ≤ r.length ∧ i = .int .i64 k ∧ s = .int .i64 sv ∧ Below w1.heap.size w1 wr ∧ Hid (sv = sumC (r.take k))) (fun _ i _ => r.length - (intOf i).toNat)
  case atStart => exact ⟨0, 0, by omega, rfl, rfl, Below.refl _ _, rfl⟩
  case round =>
    obtain ⟨wo, rfl⟩ : ∃ wo : World, wo = wr := ⟨_, rfl⟩
    obtain ⟨k, sv, hk, rfl, rfl, hB, hsv⟩ := hrel
    by_cases hlt : k < r.length
    · obtain ⟨b, off, rfl, hb, g0, g1, hi1, hi2⟩ := (HA1.out wo hB).ext hlt
      have hst := Lib.hid (sumC_take hlt)
      have hbd := sumC_bound (r.take k) (fun e he => by have := HB.out e (List.mem_of_mem_take he); omega)
      rw [← hsv.out, List.length_take] at hbd
      have hx := HB.out r[k] (List.getElem_mem hlt)
      obtain ⟨x, hxe⟩ : ∃ x, r[k] = x := ⟨_, rfl⟩
      rw [hxe] at g0 g1 hx hst
      obtain ⟨st, ct⟩ := x
      simp only at g0 g1 hx hst
      obtain ⟨hx0, hx1, hx2⟩ := hx
      obtain ⟨hs0, hs1⟩ := hbd
      have hs2 : sv ≤ 100000000 := by omega
      have hki : (k : Int) < r.length := by omega
      have hnn : (0 : Int) ≤ k := by omega
      obtain ⟨W2, hW2⟩ : ∃ W2, wo.alloc (.cells #[.int .i64 st, .int .i64 ct] 67) = W2 := ⟨_, rfl⟩
      have hb2 : Below wo.heap.size wo W2 := by rw [← hW2]; exact ext_alloc (Below.refl _ _)
      have hr2 : W2.heap[wo.heap.size]? = some (.cells #[.int .i64 st, .int .i64 ct] 67 (0, 0)) := by rw [← hW2]; exact heap_alloc_new _ _
      obtain ⟨x0, x1, _⟩ := blk2 hr2
      have hB2 : Below w1.heap.size w1 W2 := hB.trans (hb2.mono hB.size)
      have HW2 := Lib.hid hW2
      clear hxe hi1 hi2 hW2 hr2 hs1
      go_upto_region 5 with (fail)
      rw [HW2.out]
      clear g0 g1
      go_wp2
      go_roundw
      case rel => exact ⟨k + 1, sv + ct, hlt, by go_num, rfl, hB2, by rw [Hid, hst.out, hsv.out]⟩
      case measure => simp [intOf]; omega
    · have hkI : ¬ (k : Int) < r.length := by omega
      have hE : Hid (sv = v) := by rw [Hid, hsv.out, List.take_of_length_le (by omega), HV.out]
      go_wp2
      go_ret
      exact ⟨ret_int hE.out, hb1.trans (hB.mono hb1.size)⟩
end Go.Proofs.Ytjehedfdikdfpaa
namespace Go.Proofs.Ytjehedfdikdfpaa
open Go.RowKit Go.Shelf
attribute [local go_sem] Oper.semAt_some

set_option maxHeartbeats 1000000 in
theorem finish_any (b n c pn pc fn fc : Nat) (s lf lv : Int) (A P F : Option Addr) (sent : Int) (done : Bool) (w : World) (hrow : WkRow w b s lf A n c P pn pc lv F fn fc sent done) :
    Calls Try.prog 53 #[.pointer (some ⟨b, 0, none⟩)] w fun e w' => e = .returned (.tuple #[]) ∧ WkRow w' b s lf A n c none 0 0 0 F fn fc sent true ∧ w.grownBy w' (some b) := by
  obtain ⟨c0, c1, c2, c3, c4, c5, c6, c7, cf⟩ := blk8 hrow
  have hfin : Hid (WkRow (((w.setCell ⟨b, 4, none⟩ (.int .i64 0)).setCell ⟨b, 3, none⟩ (.slice none 0 0)).setCell ⟨b, 7, none⟩ (.bool true)) b s lf A n c none 0 0 0 F fn fc sent true) := by
    have h := hrow
    unfold WkRow at h
    rw [Hid]
    unfold WkRow
    simp [World.setCell, Array.getElem?_modify, h]
  have hg : Hid (w.grownBy (((w.setCell ⟨b, 4, none⟩ (.int .i64 0)).setCell ⟨b, 3, none⟩ (.slice none 0 0)).setCell ⟨b, 7, none⟩ (.bool true)) (some b)) :=
    ⟨rfl, rfl, rfl, by simp [World.setCell], fun k _ hk => (heap_setCell_other _ ⟨b, 7, none⟩ k _ (fun e => hk (by rw [e]))).trans ((heap_setCell_other _ ⟨b, 3, none⟩ k _ (fun e => hk (by rw [e]))).trans (heap_setCell_other _ ⟨b, 4, none⟩ k _ (fun e => hk (by rw [e]))))⟩
  clear hrow
  go_enter Try.func53, Try.ntmps53
  go_wp2_with fail
  go_end0
  exact ⟨rfl, hfin.out, hg.out⟩
end Go.Proofs.Ytjehedfdikdfpaa
namespace Go.Proofs.Ytjehedfdikdfpaa
open Go.RowKit Go.Shelf
attribute [local go_sem] Oper.semAt_some

theorem extStep_more {out : List Ext} {s c : Int} {e : Ext} (h : out.getLast? = some (s, c)) (he : s + c = e.1) : extStep out e = out.set (out.length - 1) (s, c + e.2) := by
  unfold extStep
  rw [h]
  show (if s + c = e.1 then out.dropLast ++ [(s, c + e.2)] else out ++ [e]) = _
  rw [if_pos he]
  obtain ⟨l, rfl⟩ := List.getLast?_eq_some_iff.1 h
  simp
theorem extStep_new {out : List Ext} {e : Ext} (h : ∀ s c, out.getLast? = some (s, c) → s + c ≠ e.1) : extStep out e = out ++ [e] := by
  unfold extStep
  cases hq : out.getLast? with
  | none => rw [List.getLast?_eq_none_iff.1 hq]; rfl
  | some x =>
    obtain ⟨s, c⟩ := x
    show (if s + c = e.1 then out.dropLast ++ [(s, c + e.2)] else out ++ [e]) = _
    rw [if_neg (h s c hq)]
end Go.Proofs.Ytjehedfdikdfpaa
namespace Go.Proofs.Ytjehedfdikdfpaa
open Go.RowKit Go.Shelf
attribute [local go_sem] Oper.semAt_some

set_option maxHeartbeats 4000000 in
theorem cmpAdd_any (lo vc : Nat) (B : Option Addr) (out : List Ext) (a : Nat) (w : World) (hlo : lo ≤ w.heap.size) (hown : Hid (Own encExt w lo 67 (fun _ => False) (.slice B out.length vc) out)) (hol : out.length ≤ 8192) (hbd : ∀ e ∈ out, 0 ≤ e.1 ∧ 0 < e.2 ∧ e.1 + e.2 ≤ 8192) (ha : a ≤ 8192) :
    Calls Try.prog 77 #[.slice B out.length vc, .int .i64 a] w fun e w' => ∃ A c v, e = .returned (.slice A v.length c) ∧ v = extStep out ((a : Int), 1) ∧ Own encExt w' lo 67 (fun _ => False) (.slice A v.length c) v ∧ Below lo w w' ∧ w.grownBy w' (Value.slice B out.length vc).ownBlock ∧ ((Value.slice A v.length c).ownBlock = (Value.slice B out.length vc).ownBlock ∨ ∃ g, (Value.slice A v.length c).ownBlock = some g ∧ w.heap.size ≤ g) := by
  have HBD := Lib.hid hbd; clear hbd
  obtain ⟨ob, hob⟩ : ∃ ob, (Value.slice B out.length vc).ownBlock = ob := ⟨_, rfl⟩
  rw [hob]
  have HOB := Lib.hid hob
  clear hob
  have i1 : I64 (a : Int) := by unfold I64; omega
  have i2 : I64 1 := by unfold I64; omega
  have ha0 : (0 : Int) ≤ a := by omega
  have ha4 : (a : Int) ≤ 8192 := by omega
  go_enter Try.func77, Try.ntmps77
  by_cases h0 : out.length = 0
  · have hg0 : decide (0 < out.length) = false := decide_eq_false (by omega)
    have hnw : Hid (extStep out ((a : Int), 1) = out ++ [((a : Int), 1)]) := extStep_new (fun s cc hg => by
      rw [List.eq_nil_of_length_eq_zero h0] at hg; simp at hg)
    clear h0
    go_upto_region 2 with (fail)
    go_quiet (fail)
    generalize hW6 : w.drewN nq = W6
    have hd6 : Drew w W6 := ⟨nq, hW6.symm⟩
    have hB6 : Below lo w W6 := hd6.below _
    have hown6 := Lib.hid (hown.out.below (hd6.below _) (fun _ h => h.elim))
    have hsz6 : lo ≤ W6.heap.size := Nat.le_trans hlo (hd6.below 0).size
    have hgd : Hid (w.grownBy W6 none) := ⟨(hd6.below 0).os, (hd6.below 0).tape, (hd6.below 0).output, (hd6.below 0).size, fun g h _ => (hd6.below w.heap.size).block g h⟩
    clear hW6
    have HO := Lib.hid (hown6.out.alloc (fun _ h => h.elim) (.cells #[.int .i64 a, .int .i64 1] 67))
    have s1 : lo ≤ (W6.alloc (.cells #[.int .i64 a, .int .i64 1] 67)).heap.size := by simp; omega
    have s2 : out.length + 1 ≤ maxLen := by simp [maxLen]; omega
    have s3 : (out.length + 1) * 16 ≤ 140737488355328 := by omega
    go_wp2_with (at_builtin; refine wpList_app1 (E := encExt) tyExtsI rfl _ _ rfl rfl HO.out ((a : Int), 1) [.int .i64 a, .int .i64 1] rfl (ext_mk (x := ((a : Int), 1)) i1 i2) (heap_alloc_new _ _) (fun _ h => h.elim) s1 s2 s3 ?_; intro A' c' w1 hown2 hg hat)
    have hB9 := Lib.hid ((hB6.alloc hsz6 (.cells #[.int .i64 a, .int .i64 1] 67)).grown hg s1 (fun g h => (hown6.out.lt g h).1))
    have hz7 : (W6.alloc (.cells #[.int .i64 a, .int .i64 1] 67)).heap.size = W6.heap.size + 1 := by simp
    have hG9 : Hid (w.grownBy w1 ob) := ⟨hg.os.trans hgd.out.os, hg.tape.trans hgd.out.tape, hg.output.trans hgd.out.output, by have := hg.size; have := hgd.out.size; omega, fun g h1 h2 => (hg.block g (by have := hgd.out.size; omega) (fun e => h2 (e.trans HOB.out))).trans ((Below.heap_alloc _ _ _ (by have := hgd.out.size; omega)).trans (hgd.out.block g h1 (fun h => by cases h)))⟩
    have hat9 : Hid ((Value.slice A' (out.length + 1) c').ownBlock = ob ∨ ∃ g, (Value.slice A' (out.length + 1) c').ownBlock = some g ∧ w.heap.size ≤ g) := by rw [Hid, ← HOB.out]; exact (show _ ∨ _ from hat).imp id (fun h => ⟨_, h, by have := hgd.out.size; omega⟩)
    go_ret
    rw [hnw.out]
    exact ⟨A', c', out ++ [((a : Int), 1)], by simp, rfl, by simpa using hown2, hB9.out, hG9.out, by simpa using hat9.out⟩
  · have hg0 : decide (0 < out.length) = true := decide_eq_true (by omega)
    obtain ⟨s, cc, hlast⟩ : ∃ s cc, out[out.length - 1]'(by omega) = (s, cc) := ⟨_, _, rfl⟩
    have hgl : out.getLast? = some (s, cc) := by rw [List.getLast?_eq_getElem?, List.getElem?_eq_getElem (by omega), hlast]
    have hsn := HBD.out (s, cc) (List.mem_of_getLast? hgl)
    simp only at hsn
    obtain ⟨hsn0, hcc0, hsn4⟩ := hsn
    obtain ⟨g, cs, rfl, hg1, hg2, _, hcell, hfz, hrd⟩ := hown.out.elem (i := out.length - 1) (by omega)
    obtain ⟨rfl, _, _⟩ := ext_cs hrd
    rw [hlast] at hcell
    have d0 := hcell 0 _ rfl
    have d1 := hcell 1 _ rfl
    have e4 : ((out.length : Int) - 1).toNat = out.length - 1 := by omega
    have e5 : (1 : Int) ≤ out.length := by omega
    simp only [show encExt.size = 2 from rfl, Nat.add_zero] at d0 d1
    by_cases hj : s + cc = (a : Int)
    · have hj' : (s + cc == (a : Int)) = true := by simp [hj]
      have hmore : Hid (extStep out ((a : Int), 1) = out.set (out.length - 1) (s, cc + 1)) := extStep_more hgl hj
      clear hj hgl hcell hrd
      go_upto_region 2 with (fail)
      go_quiet (fail)
      generalize hW6 : w.drewN nq = W6
      have hd6 : Drew w W6 := ⟨nq, hW6.symm⟩
      have hB6 : Below lo w W6 := hd6.below _
      have hown6 := Lib.hid (hown.out.below (hd6.below _) (fun _ h => h.elim))
      have hsz6 : lo ≤ W6.heap.size := Nat.le_trans hlo (hd6.below 0).size
      have hgd : Hid (w.grownBy W6 none) := ⟨(hd6.below 0).os, (hd6.below 0).tape, (hd6.below 0).output, (hd6.below 0).size, fun g h _ => (hd6.below w.heap.size).block g h⟩
      clear hW6
      have hst6 := Lib.hid (hown6.out.stored (i := out.length - 1) (j := 1) (by omega) (by decide) (.int .i64 (cc + 1)) (s, cc + 1) (fun cs hr => by
          obtain ⟨rfl, _, _⟩ := ext_cs hr
          rw [hlast]
          exact ext_mk (x := (s, cc + 1)) (by unfold I64; simp only; omega) (by unfold I64; simp only; omega)))
      have f0 := (hd6.cell ⟨g, (out.length - 1) * 2, none⟩).trans d0
      have f1 := (hd6.cell ⟨g, (out.length - 1) * 2 + 1, none⟩).trans d1
      have hfz6 : W6.frozen? ⟨g, (out.length - 1) * 2 + 1, none⟩ = false := by
        obtain ⟨g', cs', he', _, _, _, _, hfz', _⟩ := hown6.out.elem (i := out.length - 1) (by omega)
        injection he' with he'
        injection he' with he'
        rw [he']
        exact hfz' _
      clear d0 d1 hlast hd6
      go_wp2
      go_ret
      simp only [show encExt.size = 2 from rfl] at hst6
      rw [hmore.out]
      exact ⟨some ⟨g, 0, none⟩, vc, out.set (out.length - 1) (s, cc + 1), by simp, rfl, by simpa using hst6.out, hB6.setCell (p := ⟨g, (out.length - 1) * 2 + 1, none⟩) hg1 _, ⟨hgd.out.os, hgd.out.tape, hgd.out.output, by have := hgd.out.size; simpa [World.setCell] using this, fun k h1 h2 => (heap_setCell_other _ ⟨g, (out.length - 1) * 2 + 1, none⟩ k _ (fun e => h2 (by rw [e, ← HOB.out]; rfl))).trans (hgd.out.block k h1 (fun h => by cases h))⟩, Or.inl (by rw [← HOB.out]; simp [Value.ownBlock])⟩
    · have hj' : (s + cc == (a : Int)) = false := by simp [hj]
      have hnw : Hid (extStep out ((a : Int), 1) = out ++ [((a : Int), 1)]) := extStep_new (fun s' c' hg => by
        rw [hgl] at hg
        simp only [Option.some.injEq, Prod.mk.injEq] at hg
        obtain ⟨rfl, rfl⟩ := hg
        exact hj)
      clear hj hgl hcell
      go_upto_region 2 with (fail)
      go_quiet (fail)
      generalize hW6 : w.drewN nq = W6
      have hd6 : Drew w W6 := ⟨nq, hW6.symm⟩
      have hB6 : Below lo w W6 := hd6.below _
      have hown6 := Lib.hid (hown.out.below (hd6.below _) (fun _ h => h.elim))
      have hsz6 : lo ≤ W6.heap.size := Nat.le_trans hlo (hd6.below 0).size
      have hgd : Hid (w.grownBy W6 none) := ⟨(hd6.below 0).os, (hd6.below 0).tape, (hd6.below 0).output, (hd6.below 0).size, fun g h _ => (hd6.below w.heap.size).block g h⟩
      clear hW6
      clear d0 d1 hd6 hfz hg1 hg2
      have HO := Lib.hid (hown6.out.alloc (fun _ h => h.elim) (.cells #[.int .i64 a, .int .i64 1] 67))
      have s1 : lo ≤ (W6.alloc (.cells #[.int .i64 a, .int .i64 1] 67)).heap.size := by simp; omega
      have s2 : out.length + 1 ≤ maxLen := by simp [maxLen]; omega
      have s3 : (out.length + 1) * 16 ≤ 140737488355328 := by omega
      go_wp2_with (at_builtin; refine wpList_app1 (E := encExt) tyExtsI rfl _ _ rfl rfl HO.out ((a : Int), 1) [.int .i64 a, .int .i64 1] rfl (ext_mk (x := ((a : Int), 1)) i1 i2) (heap_alloc_new _ _) (fun _ h => h.elim) s1 s2 s3 ?_; intro A' c' w1 hown2 hg hat)
      have hB9 := Lib.hid ((hB6.alloc hsz6 (.cells #[.int .i64 a, .int .i64 1] 67)).grown hg s1 (fun g h => (hown6.out.lt g h).1))
      have hz7 : (W6.alloc (.cells #[.int .i64 a, .int .i64 1] 67)).heap.size = W6.heap.size + 1 := by simp
      have hG9 : Hid (w.grownBy w1 ob) := ⟨hg.os.trans hgd.out.os, hg.tape.trans hgd.out.tape, hg.output.trans hgd.out.output, by have := hg.size; have := hgd.out.size; omega, fun g h1 h2 => (hg.block g (by have := hgd.out.size; omega) (fun e => h2 (e.trans HOB.out))).trans ((Below.heap_alloc _ _ _ (by have := hgd.out.size; omega)).trans (hgd.out.block g h1 (fun h => by cases h)))⟩
      have hat9 : Hid ((Value.slice A' (out.length + 1) c').ownBlock = ob ∨ ∃ g, (Value.slice A' (out.length + 1) c').ownBlock = some g ∧ w.heap.size ≤ g) := by rw [Hid, ← HOB.out]; exact (show _ ∨ _ from hat).imp id (fun h => ⟨_, h, by have := hgd.out.size; omega⟩)
      go_ret
      rw [hnw.out]
      exact ⟨A', c', out ++ [((a : Int), 1)], by simp, rfl, by simpa using hown2, hB9.out, hG9.out, by simpa using hat9.out⟩
end Go.Proofs.Ytjehedfdikdfpaa

/-
  Readings: which plain data the cells of a value hold in a world, whatever the type; what keeps a reading; slices that a call owns. No program in sight.
  The readings of the program's types (sectors, writes, extents), element by element; worlds that have only drawn.
  Plain words: the effect of a list of writes on a sector, runs of ascending numbers, canonical lists. No program in sight.
-/
import Derived.WalkKit
import Derived.WalkSpells
import Derived.WalkLawsBesides
import Derived.Lib.Hide
import Derived.Deep.QuietTactic
import Derived.BigQuiet
import Derived.StillTailTactics
import Derived.Deep.RegionHeld3
import Derived.Maps.AppendAt
import Derived.Deep.AppendLies
set_option linter.unusedVariables false
set_option linter.unusedSimpArgs false
set_option linter.unusedSectionVars false
set_option linter.unnecessarySimpa false
namespace Go.Proofs.YtnkmklnlaepdeaaGreat
open Go.RowKit

/-- two lists, element by element -/
def All2 {α β : Type} (R : α → β → Prop) : List α → List β → Prop
  | [], [] => True
  | a :: l, b :: m => R a b ∧ All2 R l m
  | _, _ => False
section
variable {α β : Type} {R R' : α → β → Prop}
theorem All2.length : ∀ {l : List α} {m : List β}, All2 R l m → l.length = m.length
  | [], [], _ => rfl
  | _ :: _, _ :: _, h => by simp [All2.length h.2]
  | [], _ :: _, h => h.elim
  | _ :: _, [], h => h.elim
theorem All2.mono (hr : ∀ a b, R a b → R' a b) : ∀ {l : List α} {m : List β}, All2 R l m → All2 R' l m
  | [], [], _ => trivial
  | _ :: _, _ :: _, h => ⟨hr _ _ h.1, All2.mono hr h.2⟩
  | [], _ :: _, h => h.elim
  | _ :: _, [], h => h.elim
theorem All2.get : ∀ {l : List α} {m : List β}, All2 R l m → ∀ {i : Nat} {b : β}, m[i]? = some b → ∃ a, l[i]? = some a ∧ R a b
  | [], [], _, _, _, h => by simp at h
  | a :: _, _ :: _, h, 0, _, hb => by
    simp at hb; subst hb
    exact ⟨a, rfl, h.1⟩
  | _ :: _, _ :: _, h, i + 1, b, hb => by
    obtain ⟨x, hx, hr⟩ := All2.get h.2 (i := i) (b := b) (by simpa using hb)
    exact ⟨x, by simpa using hx, hr⟩
  | [], _ :: _, h, _, _, _ => h.elim
  | _ :: _, [], h, _, _, _ => h.elim
theorem All2.append : ∀ {l l' : List α} {m m' : List β}, All2 R l m → All2 R l' m' → All2 R (l ++ l') (m ++ m')
  | [], _, [], _, _, h' => h'
  | _ :: _, _, _ :: _, _, h, h' => ⟨h.1, All2.append h.2 h'⟩
  | [], _, _ :: _, _, h, _ => h.elim
  | _ :: _, _, [], _, h, _ => h.elim
theorem All2.set : ∀ {l : List α} {m : List β}, All2 R l m → ∀ {i : Nat} {a : α} {b : β}, R a b → All2 R (l.set i a) (m.set i b)
  | [], [], _, _, _, _, _ => trivial
  | _ :: _, _ :: _, h, 0, _, _, hr => ⟨hr, h.2⟩
  | _ :: _, _ :: _, h, _ + 1, _, _, hr => ⟨h.1, All2.set h.2 hr⟩
  | [], _ :: _, h, _, _, _, _ => h.elim
  | _ :: _, [], h, _, _, _, _ => h.elim
theorem All2.take : ∀ {l : List α} {m : List β} (n : Nat), All2 R l m → All2 R (l.take n) (m.take n)
  | [], [], n, _ => by simp [All2]
  | _ :: _, _ :: _, 0, _ => by simp [All2]
  | _ :: _, _ :: _, n + 1, h => ⟨h.1, All2.take n h.2⟩
  | [], _ :: _, _, h => h.elim
  | _ :: _, [], _, h => h.elim
theorem All2.mk : ∀ {l : List α} {m : List β}, l.length = m.length → (∀ (i : Nat) a b, l[i]? = some a → m[i]? = some b → R a b) → All2 R l m
  | [], [], _, _ => trivial
  | a :: l, b :: m, h, hr => ⟨hr 0 a b rfl rfl, All2.mk (by simpa using h) (fun i x y hx hy => hr (i + 1) x y (by simpa using hx) (by simpa using hy))⟩
  | [], _ :: _, h, _ => by simp at h
  | _ :: _, [], h, _ => by simp at h
end

theorem flatten_len {α : Type} (size : Nat) : ∀ (l : List (List α)), (∀ x ∈ l, x.length = size) → l.flatten.length = l.length * size
  | [], _ => by simp
  | x :: l, h => by
    rw [List.flatten_cons, List.length_append, flatten_len size l (fun y hy => h y (by simp [hy])), h x (by simp), List.length_cons, Nat.succ_mul]
    omega
theorem flatten_at {α : Type} (size : Nat) : ∀ (l : List (List α)) (i j : Nat) (x : List α) (v : α), (∀ x ∈ l, x.length = size) → l[i]? = some x → x[j]? = some v → l.flatten[i * size + j]? = some v
  | [], _, _, _, _, _, h, _ => by simp at h
  | y :: l, 0, j, x, v, hs, h, hv => by
    simp at h; subst h
    have hj : j < y.length := (List.getElem?_eq_some_iff.1 hv).1
    simp [List.getElem?_append_left hj, hv]
  | y :: l, i + 1, j, x, v, hs, h, hv => by
    have hy := hs y (by simp)
    rw [List.flatten_cons, List.getElem?_append_right (by rw [hy, Nat.succ_mul]; omega), hy]
    have := flatten_at size l i j x v (fun z hz => hs z (by simp [hz])) (by simpa using h) hv
    rw [← this]
    congr 1
    rw [Nat.succ_mul]; omega

/-- A reading of values of one type: how many cells, and which datum they hold in a world, their memory lying in the blocks of a set. -/
structure Enc (α : Type) where
  size : Nat
  rd : World → (Nat → Prop) → List Value → α → Prop
  len : ∀ {w : World} {S : Nat → Prop} {cs : List Value} {x : α}, rd w S cs x → cs.length = size
  one : ∀ {w : World} {S : Nat → Prop} {cs : List Value} {x : α}, rd w S cs x → ∀ v ∈ cs, v.oneCell' = true
  keep : ∀ {w w' : World} {S S' : Nat → Prop} {cs : List Value} {x : α}, rd w S cs x → (∀ p : Addr, S p.block → w'.cell? p = w.cell? p) → (∀ b, S b → S' b) → rd w' S' cs x

/-- the blocks below a number -/
def Bl (B : Nat) (b : Nat) : Prop := b < B
theorem Bl.mono {B B' : Nat} (h : B ≤ B') (b : Nat) (hb : Bl B b) : Bl B' b := Nat.lt_of_lt_of_le hb h

section
variable {α : Type} {E : Enc α} {w w' : World} {S S' : Nat → Prop} {cs : List Value} {x : α}
theorem Enc.more (h : E.rd w S cs x) (hS : ∀ b, S b → S' b) : E.rd w S' cs x := E.keep h (fun _ _ => rfl) hS
theorem Enc.blk (h : E.rd w S cs x) (hk : ∀ b, S b → w'.heap[b]? = w.heap[b]?) : E.rd w' S cs x := E.keep h (fun _ hp => World.cell?_of_block (hk _ hp)) (fun _ h => h)
theorem Enc.below {B : Nat} (h : E.rd w (Bl B) cs x) (hb : Below B w w') : E.rd w' (Bl B) cs x := E.blk h hb.block
theorem Enc.belowUp {B : Nat} (h : E.rd w (Bl B) cs x) (hb : Below B w w') {B' : Nat} (hB : B ≤ B') : E.rd w' (Bl B') cs x := Enc.more (E.below h hb) (Bl.mono hB)
end

def I64 (n : Int) : Prop := -9223372036854775808 ≤ n ∧ n ≤ 9223372036854775807
def encInt : Enc Int where
  size := 1
  rd _ _ cs x := cs = [.int .i64 x] ∧ I64 x
  len h := by simp [h.1]
  one h := by simp [h.1, Value.oneCell']
  keep h _ _ := h
def encU64 : Enc Int where
  size := 1
  rd _ _ cs x := cs = [.int .u64 x] ∧ 0 ≤ x ∧ x < 18446744073709551616
  len h := by simp [h.1]
  one h := by simp [h.1, Value.oneCell']
  keep h _ _ := h
def encU8 : Enc Int where
  size := 1
  rd _ _ cs x := cs = [.int .u8 x] ∧ 0 ≤ x ∧ x < 256
  len h := by simp [h.1]
  one h := by simp [h.1, Value.oneCell']
  keep h _ _ := h
def encBool : Enc Bool where
  size := 1
  rd _ _ cs x := cs = [.bool x]
  len h := by rw [h]; rfl
  one h := by rw [h]; simp [Value.oneCell']
  keep h _ _ := h
abbrev Sec := List Int
def OkSec (s : Sec) : Prop := s.length = 8 ∧ ∀ x ∈ s, 0 ≤ x ∧ x < 256
def secV (s : Sec) : List Value := s.map (Value.int .u8)
def encSec : Enc Sec where
  size := 8
  rd _ _ cs x := cs = secV x ∧ OkSec x
  len h := by rw [h.1, secV, List.length_map, h.2.1]
  one h := by rw [h.1]; intro v hv; obtain ⟨n, _, rfl⟩ := List.mem_map.1 hv; rfl
  keep h _ _ := h
def encPair {α β : Type} (E : Enc α) (F : Enc β) : Enc (α × β) where
  size := E.size + F.size
  rd w S cs x := ∃ c1 c2, cs = c1 ++ c2 ∧ E.rd w S c1 x.1 ∧ F.rd w S c2 x.2
  len h := by obtain ⟨c1, c2, rfl, h1, h2⟩ := h; rw [List.length_append, E.len h1, F.len h2]
  one h := by
    obtain ⟨c1, c2, rfl, h1, h2⟩ := h
    intro v hv
    rcases List.mem_append.1 hv with hv | hv
    · exact E.one h1 v hv
    · exact F.one h2 v hv
  keep h hk hS := by
    obtain ⟨c1, c2, rfl, h1, h2⟩ := h
    exact ⟨c1, c2, rfl, E.keep h1 hk hS, F.keep h2 hk hS⟩
/-- the elements of a slice, from an address on -/
def SlAt {α : Type} (E : Enc α) (w : World) (S : Nat → Prop) (A : Option Addr) (l : List α) : Prop :=
  l ≠ [] → ∃ b off, A = some ⟨b, off, none⟩ ∧ S b ∧ ∀ (i : Nat) x, l[i]? = some x → ∃ cs, (∀ j v, cs[j]? = some v → w.cell? ⟨b, off + i * E.size + j, none⟩ = some v) ∧ E.rd w S cs x
theorem SlAt.keep {α : Type} {E : Enc α} {w w' : World} {S S' : Nat → Prop} {A : Option Addr} {l : List α} (h : SlAt E w S A l) (hk : ∀ p : Addr, S p.block → w'.cell? p = w.cell? p) (hS : ∀ b, S b → S' b) : SlAt E w' S' A l := fun hn => by
  obtain ⟨b, off, e, hb, hc⟩ := h hn
  refine ⟨b, off, e, hS _ hb, fun i x hx => ?_⟩
  obtain ⟨cs, h1, h2⟩ := hc i x hx
  exact ⟨cs, fun j v hv => (hk ⟨b, off + i * E.size + j, none⟩ hb).trans (h1 j v hv), E.keep h2 hk hS⟩
def encSl {α : Type} (E : Enc α) : Enc (List α) where
  size := 1
  rd w S cs l := ∃ A c, cs = [.slice A l.length c] ∧ l.length ≤ c ∧ c ≤ maxLen ∧ SlAt E w S A l
  len h := by obtain ⟨A, c, rfl, _⟩ := h; rfl
  one h := by obtain ⟨A, c, rfl, _⟩ := h; simp [Value.oneCell']
  keep h hk hS := by
    obtain ⟨A, c, rfl, h1, h2, h3⟩ := h
    exact ⟨A, c, rfl, h1, h2, h3.keep hk hS⟩

section
variable {α : Type} {E : Enc α} {w w' : World} {S S' : Nat → Prop} {A : Option Addr} {l : List α}
theorem SlAt.nil_ : SlAt E w S A [] := fun h => absurd rfl h
theorem SlAt.more (h : SlAt E w S A l) (hS : ∀ b, S b → S' b) : SlAt E w S' A l := h.keep (fun _ _ => rfl) hS
theorem SlAt.blk (h : SlAt E w S A l) (hk : ∀ b, S b → w'.heap[b]? = w.heap[b]?) : SlAt E w' S A l := h.keep (fun _ hp => World.cell?_of_block (hk _ hp)) (fun _ h => h)
theorem SlAt.below {B : Nat} (h : SlAt E w (Bl B) A l) (hb : Below B w w') : SlAt E w' (Bl B) A l := h.blk hb.block
theorem SlAt.belowUp {B : Nat} (h : SlAt E w (Bl B) A l) (hb : Below B w w') {B' : Nat} (hB : B ≤ B') : SlAt E w' (Bl B') A l := (h.below hb).more (Bl.mono hB)
theorem SlAt.at_ {k : Nat} (h : SlAt E w S A l) (hk : k < l.length) :
    ∃ b off cs, A = some ⟨b, off, none⟩ ∧ S b ∧ (∀ j v, cs[j]? = some v → w.cell? ⟨b, off + k * E.size + j, none⟩ = some v) ∧ E.rd w S cs l[k] := by
  obtain ⟨b, off, e, hb, hc⟩ := h (by intro e; subst e; simp at hk)
  obtain ⟨cs, h1, h2⟩ := hc k l[k] (List.getElem?_eq_getElem hk)
  exact ⟨b, off, cs, e, hb, h1, h2⟩
/-- the whole row at once: the form in which append takes its source -/
theorem SlAt.row {b off : Nat} (h : SlAt E w S (some ⟨b, off, none⟩) l) : ∃ css, css.length = l.length ∧ (∀ cs ∈ css, cs.length = E.size) ∧ All2 (E.rd w S) css l ∧ ∀ j v, css.flatten[j]? = some v → w.cell? ((⟨b, off, none⟩ : Addr).add j) = some v := by
  have key : ∀ (m : List α) (k : Nat), (∀ (i : Nat) x, m[i]? = some x → ∃ cs, (∀ j v, cs[j]? = some v → w.cell? ⟨b, off + (k + i) * E.size + j, none⟩ = some v) ∧ E.rd w S cs x) →
      ∃ css, css.length = m.length ∧ (∀ cs ∈ css, cs.length = E.size) ∧ All2 (E.rd w S) css m ∧ ∀ j v, css.flatten[j]? = some v → w.cell? ⟨b, off + k * E.size + j, none⟩ = some v := by
    intro m
    induction m with
    | nil => exact fun k _ => ⟨[], rfl, by simp, trivial, by simp⟩
    | cons x m ih =>
      intro k hc
      obtain ⟨cs, c1, c2⟩ := hc 0 x rfl
      obtain ⟨css, i1, i2, i3, i4⟩ := ih (k + 1) (fun i y hy => by
        have := hc (i + 1) y (by simpa using hy)
        rw [show k + (i + 1) = k + 1 + i from by omega] at this
        exact this)
      refine ⟨cs :: css, by simp [i1], ?_, ⟨c2, i3⟩, ?_⟩
      · intro y hy
        rcases List.mem_cons.1 hy with rfl | hy
        · exact E.len c2
        · exact i2 y hy
      · intro j v hv
        rw [List.flatten_cons] at hv
        by_cases hj : j < cs.length
        · rw [List.getElem?_append_left hj] at hv
          exact c1 j v hv
        · rw [List.getElem?_append_right (by omega)] at hv
          have := i4 _ v hv
          rw [E.len c2] at this hj
          rw [show off + k * E.size + j = off + (k + 1) * E.size + (j - E.size) from by rw [Nat.succ_mul]; omega]
          exact this
  by_cases hl : l = []
  · subst hl
    exact ⟨[], rfl, by simp, trivial, by simp⟩
  · obtain ⟨b', off', e, hb, hc⟩ := h hl
    injection e with e
    injection e with e1 e2
    subst e1 e2
    obtain ⟨css, i1, i2, i3, i4⟩ := key l 0 (fun i x hx => by simpa using hc i x hx)
    refine ⟨css, i1, i2, i3, fun j v hv => ?_⟩
    have hadd : (⟨b, off, none⟩ : Addr).add j = ⟨b, off + j, none⟩ := by unfold Addr.add; split <;> simp_all
    rw [hadd]
    simpa using i4 j v hv
theorem SlAt.some_ (h : SlAt E w S A l) (hl : l ≠ []) : ∃ b off, A = some ⟨b, off, none⟩ ∧ S b := by
  obtain ⟨b, off, e, hb, _⟩ := h hl
  exact ⟨b, off, e, hb⟩
/-- s[i:] and s[:n], as readings -/
theorem SlAt.drop {k : Nat} {b off : Nat} (h : SlAt E w S (some ⟨b, off, none⟩) l) : SlAt E w S (some ⟨b, off + k * E.size, none⟩) (l.drop k) := fun hn => by
  have hl : l ≠ [] := by intro e; subst e; simp at hn
  obtain ⟨b', off', e, hb, hc⟩ := h hl
  injection e with e
  injection e with e1 e2
  subst e1 e2
  refine ⟨b, _, rfl, hb, fun i x hx => ?_⟩
  rw [List.getElem?_drop] at hx
  obtain ⟨cs, h1, h2⟩ := hc _ x hx
  refine ⟨cs, fun j v hv => ?_, h2⟩
  have := h1 j v hv
  rw [Nat.add_mul] at this
  rw [show off + k * E.size + i * E.size + j = off + (k * E.size + i * E.size) + j from by omega]
  exact this
theorem SlAt.take {n : Nat} (h : SlAt E w S A l) : SlAt E w S A (l.take n) := fun hn => by
  have hl : l ≠ [] := by intro e; subst e; simp at hn
  obtain ⟨b, off, e, hb, hc⟩ := h hl
  refine ⟨b, off, e, hb, fun i x hx => hc i x ?_⟩
  rw [List.getElem?_take] at hx
  split at hx
  · exact hx
  · cases hx
end

/-- A slice that the call owns: its row, and what each element's own memory holds (in blocks of S, which its own row is not). -/
def Own {α : Type} (E : Enc α) (w : World) (base : Nat) (e : TypeId) (S : Nat → Prop) (v : Value) (l : List α) : Prop :=
  ∃ css, w.ownsRow base e E.size v l.length css.flatten ∧ All2 (E.rd w S) css l ∧ ∀ g, v.ownBlock = some g → ¬ S g
section
variable {α : Type} {E : Enc α} {w w' : World} {base : Nat} {e : TypeId} {S S' : Nat → Prop} {v v' : Value} {l : List α}
theorem Own.nil_ : Own E w base e S (.slice none 0 0) [] := ⟨[], World.ownsRow_nil w base e E.size, trivial, by simp [Value.ownBlock]⟩
theorem All2.sizes {css : List (List Value)} (h : All2 (E.rd w S) css l) : ∀ cs ∈ css, cs.length = E.size := by
  intro cs hc
  obtain ⟨i, hi, rfl⟩ := List.mem_iff_getElem.1 hc
  obtain ⟨a, ha, hr⟩ := h.get (i := i) (b := l[i]'(by rw [← h.length]; exact hi)) (List.getElem?_eq_getElem _)
  rw [List.getElem?_eq_getElem hi, Option.some.injEq] at ha
  rw [ha]; exact E.len hr
theorem Own.row (h : Own E w base e S v l) : ∃ xs, w.ownsRow base e E.size v l.length xs := by obtain ⟨css, h1, _⟩ := h; exact ⟨_, h1⟩
/-- nothing of it has turned -/
theorem Own.blk (h : Own E w base e S v l) (hk : ∀ b, (S b ∨ v.ownBlock = some b) → w'.heap[b]? = w.heap[b]?) : Own E w' base e S v l := by
  obtain ⟨css, ⟨h1, h2⟩, h3, h4⟩ := h
  refine ⟨css, ⟨h1, ?_⟩, h3.mono (fun _ _ hr => Enc.blk hr (fun b hb => hk b (Or.inl hb))), h4⟩
  rcases h2 with h2 | ⟨g, cap, cur, rfl, hg, hh, r⟩
  · exact Or.inl h2
  · exact Or.inr ⟨g, cap, cur, rfl, hg, (hk g (Or.inr rfl)).trans hh, r⟩
theorem Own.lt (h : Own E w base e S v l) : ∀ g, v.ownBlock = some g → base ≤ g ∧ g < w.heap.size := by
  obtain ⟨css, h1, _⟩ := h
  exact h1.lt
theorem Own.more (h : Own E w base e S v l) (hS : ∀ b, S b → S' b) (hn : ∀ g, v.ownBlock = some g → ¬ S' g) : Own E w base e S' v l := by
  obtain ⟨css, h1, h2, h3⟩ := h
  exact ⟨css, h1, h2.mono (fun _ _ hr => Enc.more hr hS), hn⟩
/-- behind an append of elements -/
theorem Own.appended (h : Own E w base e S v l) {m : List α} {css : List (List Value)} (hm : All2 (E.rd w S) css m) (hg : w.grownBy w' v.ownBlock) (hS : ∀ b, S b → b < w.heap.size)
    (hat : v'.ownBlock = v.ownBlock ∨ v'.ownBlock = some w.heap.size) (hown : ∀ xs, w.ownsRow base e E.size v l.length xs → w'.ownsRow base e E.size v' (l.length + m.length) (xs ++ css.flatten)) : Own E w' base e S v' (l ++ m) := by
  obtain ⟨css0, h1, h2, h3⟩ := h
  have hk : ∀ b, S b → w'.heap[b]? = w.heap[b]? := fun b hb => hg.block b (hS b hb) (fun e => h3 b e.symm hb)
  refine ⟨css0 ++ css, ?_, All2.append (h2.mono fun _ _ hr => Enc.blk hr hk) (hm.mono fun _ _ hr => Enc.blk hr hk), ?_⟩
  · rw [List.flatten_append, List.length_append]
    exact hown _ h1
  · intro g hg'
    rcases hat with hat | hat
    · exact h3 g (by rw [← hat]; exact hg')
    · rw [hat] at hg'
      injection hg' with hg'
      intro hs
      have := hS g hs
      omega
/-- an owned slice reads as its list -/
theorem Own.reads (h : Own E w base e S v l) (hS : ∀ b, S b → S' b) (hv : ∀ g, v.ownBlock = some g → S' g) : (encSl E).rd w S' [v] l := by
  obtain ⟨css, h1, h2, h3⟩ := h
  rcases h1.2 with ⟨rfl, h0⟩ | ⟨g, cap, cur, rfl, hb, hg, hnc, hcm, hcs, htake⟩
  · have : l = [] := List.eq_nil_of_length_eq_zero h0
    subst this
    exact ⟨none, 0, rfl, by simp, by simp, SlAt.nil_⟩
  · refine ⟨_, _, rfl, hnc, hcm, fun _ => ⟨g, 0, rfl, hv g rfl, fun i x hx => ?_⟩⟩
    obtain ⟨cs, hc, hr⟩ := h2.get hx
    refine ⟨cs, fun j u hu => ?_, Enc.more hr hS⟩
    have hj : j < cs.length := (List.getElem?_eq_some_iff.1 hu).1
    have := h1.cells (g := g) rfl (i * E.size + j) u (flatten_at _ _ _ _ _ _ h2.sizes hc hu)
    have hadd : (⟨g, 0, none⟩ : Addr).add (i * E.size + j) = ⟨g, 0 + i * E.size + j, none⟩ := by unfold Addr.add; split <;> simp_all <;> omega
    rw [hadd] at this
    exact this
end

theorem ret_bool {a b : Bool} (h : a = b) : Ending.returned (.bool a) = .returned (.bool b) := by rw [h]
theorem ret_int {k : IntKind} {a b : Int} (h : a = b) : Ending.returned (.int k a) = .returned (.int k b) := by rw [h]
theorem bcell {W w1 : World} (hb : Below W.heap.size W w1) : (∀ b o, b < W.heap.size → w1.cell? ⟨b, o, none⟩ = W.cell? ⟨b, o, none⟩) ∧ (∀ b o, b < W.heap.size → w1.frozen? ⟨b, o, none⟩ = W.frozen? ⟨b, o, none⟩) :=
  ⟨fun b o h => hb.cell (p := ⟨b, o, none⟩) h, fun b o h => hb.frozen (p := ⟨b, o, none⟩) h⟩
theorem bDrew {B : Nat} {a w : World} (h : Below B a w) (n : Nat) : Below B a (w.drewN n) := ⟨h.os, h.tape, h.output, h.size, h.block⟩
/-- the blocks from a number on, below another -/
def Nw (lo hi : Nat) (b : Nat) : Prop := lo ≤ b ∧ b < hi
theorem Nw.bl {lo hi b : Nat} (h : Nw lo hi b) : Bl hi b := h.2
theorem Nw.mono {lo hi lo' hi' b : Nat} (h : Nw lo hi b) (h1 : lo' ≤ lo) (h2 : hi ≤ hi') : Nw lo' hi' b := ⟨Nat.le_trans h1 h.1, Nat.lt_of_lt_of_le h.2 h2⟩
/-- what a function that makes memory returns: a value of one cell, its reading in new memory, and that nothing old has turned -/
def Ret {α : Type} (E : Enc α) (x : α) (w : World) (e : Ending) (w' : World) : Prop := ∃ v, e = .returned v ∧ E.rd w' (Nw w.heap.size w'.heap.size) [v] x ∧ Below w.heap.size w w'
end Go.Proofs.YtnkmklnlaepdeaaGreat

namespace Go.Proofs.YtnkmklnlaepdeaaGreat
open Go.RowKit

abbrev Wr := Int × Int × List Sec
abbrev Ext := Int × Int
def encWr : Enc Wr := encPair encInt (encPair encInt (encSl encSec))
def encExt : Enc Ext := encPair encInt encInt

theorem sec8 {s : Sec} (h : OkSec s) : ∃ x0 x1 x2 x3 x4 x5 x6 x7, s = [x0, x1, x2, x3, x4, x5, x6, x7] := by
  obtain ⟨h, _⟩ := h
  match s, h with
  | [x0, x1, x2, x3, x4, x5, x6, x7], _ => exact ⟨_, _, _, _, _, _, _, _, rfl⟩
section
variable {w w' : World} {S : Nat → Prop} {A : Option Addr} {cs : List Value}
theorem ext_cs {x : Ext} (h : encExt.rd w S cs x) : cs = [.int .i64 x.1, .int .i64 x.2] ∧ I64 x.1 ∧ I64 x.2 := by
  obtain ⟨c1, c2, rfl, ⟨rfl, h1⟩, ⟨rfl, h2⟩⟩ := h
  exact ⟨rfl, h1, h2⟩
theorem ext_mk {x : Ext} (h1 : I64 x.1) (h2 : I64 x.2) : encExt.rd w S [.int .i64 x.1, .int .i64 x.2] x := ⟨[_], [_], rfl, ⟨rfl, h1⟩, ⟨rfl, h2⟩⟩
theorem wr_cs {x : Wr} (h : encWr.rd w S cs x) : ∃ D c, cs = [.int .i64 x.1, .int .i64 x.2.1, .slice D x.2.2.length c] ∧ I64 x.1 ∧ I64 x.2.1 ∧ x.2.2.length ≤ c ∧ c ≤ maxLen ∧ SlAt encSec w S D x.2.2 := by
  obtain ⟨c1, c2, rfl, ⟨rfl, h1⟩, ⟨c3, c4, rfl, ⟨rfl, h2⟩, ⟨D, c, rfl, h3, h4, h5⟩⟩⟩ := h
  exact ⟨D, c, rfl, h1, h2, h3, h4, h5⟩
theorem wr_mk {x : Wr} {D : Option Addr} {c : Nat} (h1 : I64 x.1) (h2 : I64 x.2.1) (h3 : x.2.2.length ≤ c) (h4 : c ≤ maxLen) (h5 : SlAt encSec w S D x.2.2) : encWr.rd w S [.int .i64 x.1, .int .i64 x.2.1, .slice D x.2.2.length c] x :=
  ⟨[_], [_, _], rfl, ⟨rfl, h1⟩, ⟨[_], [_], rfl, ⟨rfl, h2⟩, ⟨D, c, rfl, h3, h4, h5⟩⟩⟩
/-- one sector of a slice -/
theorem SlAt.sec {ss : List Sec} {k : Nat} (h : SlAt encSec w S A ss) (hk : k < ss.length) :
    ∃ b off x0 x1 x2 x3 x4 x5 x6 x7, A = some ⟨b, off, none⟩ ∧ S b ∧ ss[k] = [x0, x1, x2, x3, x4, x5, x6, x7] ∧ OkSec ss[k] ∧
      w.cell? ⟨b, off + k * 8, none⟩ = some (.int .u8 x0) ∧ w.cell? ⟨b, off + k * 8 + 1, none⟩ = some (.int .u8 x1) ∧ w.cell? ⟨b, off + k * 8 + 2, none⟩ = some (.int .u8 x2) ∧
      w.cell? ⟨b, off + k * 8 + 3, none⟩ = some (.int .u8 x3) ∧ w.cell? ⟨b, off + k * 8 + 4, none⟩ = some (.int .u8 x4) ∧ w.cell? ⟨b, off + k * 8 + 5, none⟩ = some (.int .u8 x5) ∧
      w.cell? ⟨b, off + k * 8 + 6, none⟩ = some (.int .u8 x6) ∧ w.cell? ⟨b, off + k * 8 + 7, none⟩ = some (.int .u8 x7) := by
  obtain ⟨b, off, cs, e, hb, hs, rfl, ho⟩ := h.at_ hk
  obtain ⟨x0, x1, x2, x3, x4, x5, x6, x7, he⟩ := sec8 ho
  rw [he] at hs
  exact ⟨b, off, x0, x1, x2, x3, x4, x5, x6, x7, e, hb, he, ho, hs 0 _ rfl, hs 1 _ rfl, hs 2 _ rfl, hs 3 _ rfl, hs 4 _ rfl, hs 5 _ rfl, hs 6 _ rfl, hs 7 _ rfl⟩
/-- one write of a slice -/
theorem SlAt.wr {l : List Wr} {k : Nat} (h : SlAt encWr w S A l) (hk : k < l.length) :
    ∃ b off D c, A = some ⟨b, off, none⟩ ∧ S b ∧
      w.cell? ⟨b, off + k * 3, none⟩ = some (.int .i64 l[k].1) ∧ w.cell? ⟨b, off + k * 3 + 1, none⟩ = some (.int .i64 l[k].2.1) ∧ w.cell? ⟨b, off + k * 3 + 2, none⟩ = some (.slice D l[k].2.2.length c) ∧
      SlAt encSec w S D l[k].2.2 ∧ l[k].2.2.length ≤ c ∧ c ≤ maxLen ∧ I64 l[k].1 ∧ I64 l[k].2.1 := by
  obtain ⟨b, off, cs, e, hb, hs, hr⟩ := h.at_ hk
  obtain ⟨D, c, rfl, h1, h2, h3, h4, h5⟩ := wr_cs hr
  exact ⟨b, off, D, c, e, hb, hs 0 _ rfl, hs 1 _ rfl, hs 2 _ rfl, h5, h3, h4, h1, h2⟩
/-- one extent of a slice -/
theorem SlAt.ext {l : List Ext} {k : Nat} (h : SlAt encExt w S A l) (hk : k < l.length) :
    ∃ b off, A = some ⟨b, off, none⟩ ∧ S b ∧ w.cell? ⟨b, off + k * 2, none⟩ = some (.int .i64 l[k].1) ∧ w.cell? ⟨b, off + k * 2 + 1, none⟩ = some (.int .i64 l[k].2) ∧ I64 l[k].1 ∧ I64 l[k].2 := by
  obtain ⟨b, off, cs, e, hb, hs, hr⟩ := h.at_ hk
  obtain ⟨rfl, h1, h2⟩ := ext_cs hr
  exact ⟨b, off, e, hb, hs 0 _ rfl, hs 1 _ rfl, h1, h2⟩
/-- one number of a slice -/
theorem SlAt.int {l : List Int} {k : Nat} (h : SlAt encInt w S A l) (hk : k < l.length) : ∃ b off, A = some ⟨b, off, none⟩ ∧ S b ∧ w.cell? ⟨b, off + k, none⟩ = some (.int .i64 l[k]) ∧ I64 l[k] := by
  obtain ⟨b, off, cs, e, hb, hs, rfl, h1⟩ := h.at_ hk
  exact ⟨b, off, e, hb, by simpa [encInt] using hs 0 _ rfl, h1⟩
/-- one slice of a slice -/
theorem SlAt.sl {α : Type} {E : Enc α} {l : List (List α)} {k : Nat} (h : SlAt (encSl E) w S A l) (hk : k < l.length) :
    ∃ b off D c, A = some ⟨b, off, none⟩ ∧ S b ∧ w.cell? ⟨b, off + k, none⟩ = some (.slice D l[k].length c) ∧ SlAt E w S D l[k] ∧ l[k].length ≤ c ∧ c ≤ maxLen := by
  obtain ⟨b, off, cs, e, hb, hs, D, c, rfl, h1, h2, h3⟩ := h.at_ hk
  exact ⟨b, off, D, c, e, hb, by simpa [encSl] using hs 0 _ rfl, h3, h1, h2⟩
end
/-- a world that has only drawn -/
def Drew (w w' : World) : Prop := ∃ n, w' = w.drewN n
theorem Drew.refl (w : World) : Drew w w := ⟨0, rfl⟩
theorem Drew.step {w w' : World} (h : Drew w w') (n : Nat) : Drew w (w'.drewN n) := by
  obtain ⟨m, rfl⟩ := h
  exact ⟨m + n, World.drewN_drewN ..⟩
theorem Drew.trans {w w1 w2 : World} (h : Drew w w1) (h2 : Drew w1 w2) : Drew w w2 := by
  obtain ⟨m, rfl⟩ := h2
  exact h.step m
theorem Drew.cell {w w' : World} (h : Drew w w') (p : Addr) : w'.cell? p = w.cell? p := by
  obtain ⟨m, rfl⟩ := h; rfl
theorem Drew.heap {w w' : World} (h : Drew w w') : w'.heap = w.heap := by
  obtain ⟨m, rfl⟩ := h; rfl
theorem Drew.below {w w' : World} (h : Drew w w') (B : Nat) : Below B w w' := by
  obtain ⟨m, rfl⟩ := h
  exact ⟨rfl, rfl, rfl, Nat.le_refl _, fun _ _ => rfl⟩
theorem SlAt.drew {α : Type} {E : Enc α} {w w' : World} {S : Nat → Prop} {A : Option Addr} {l : List α} (h : SlAt E w S A l) (hd : Drew w w') : SlAt E w' S A l := h.keep (fun p _ => hd.cell p) (fun _ h => h)
theorem Enc.drew {α : Type} {E : Enc α} {w w' : World} {S : Nat → Prop} {cs : List Value} {x : α} (h : E.rd w S cs x) (hd : Drew w w') : E.rd w' S cs x := E.keep h (fun p _ => hd.cell p) (fun _ h => h)
/-- worlds that have only grown -/
theorem ext_trans {w w1 w2 : World} (h : Below w.heap.size w w1) (h2 : Below w1.heap.size w1 w2) : Below w.heap.size w w2 := h.trans (h2.mono h.size)
theorem ext_alloc {w w1 : World} {o : Obj} (h : Below w.heap.size w w1) : Below w.heap.size w (w1.alloc o) := h.alloc h.size _
theorem ext_drew {w w1 : World} (h : Below w.heap.size w w1) : Below w.heap.size w w1.drew := h.drew
theorem SlAt.fwd {α : Type} {E : Enc α} {w w' : World} {A : Option Addr} {l : List α} (h : SlAt E w (Bl w.heap.size) A l) (hb : Below w.heap.size w w') : SlAt E w' (Bl w'.heap.size) A l := h.belowUp hb hb.size
theorem Enc.fwd {α : Type} {E : Enc α} {w w' : World} {cs : List Value} {x : α} (h : E.rd w (Bl w.heap.size) cs x) (hb : Below w.heap.size w w') : E.rd w' (Bl w'.heap.size) cs x := Enc.belowUp h hb hb.size
end Go.Proofs.YtnkmklnlaepdeaaGreat

namespace Go.Proofs.YtnkmklnlaepdeaaGreat

theorem snocRec {α : Type} {P : List α → Prop} (h0 : P []) (h1 : ∀ l x, P l → P (l ++ [x])) : ∀ l, P l := by
  intro l
  have : ∀ m : List α, P m.reverse := by
    intro m
    induction m with
    | nil => exact h0
    | cons x m ih => rw [List.reverse_cons]; exact h1 _ _ ih
  have h := this l.reverse
  rwa [List.reverse_reverse] at h

abbrev Pl := Int × Int
abbrev Eff := List (Pl × Sec)
def zsec : Sec := [0, 0, 0, 0, 0, 0, 0, 0]
def hits (x : Wr) (V S : Int) : Prop := x.1 = V ∧ x.2.1 ≤ S ∧ S < x.2.1 + x.2.2.length
instance (x : Wr) (V S : Int) : Decidable (hits x V S) := by unfold hits; infer_instance
def datum (x : Wr) (S : Int) : Sec := x.2.2.getD (S - x.2.1).toNat zsec
/-- the effect of a list on a sector: the last write to it -/
def look (l : List Wr) (V S : Int) : Option Sec := l.foldl (fun r x => if hits x V S then some (datum x S) else r) none
theorem look_snoc (l : List Wr) (x : Wr) (V S : Int) : look (l ++ [x]) V S = if hits x V S then some (datum x S) else look l V S := by simp [look]
theorem look_nil (V S : Int) : look [] V S = none := rfl
theorem look_append (a b : List Wr) (V S : Int) : look (a ++ b) V S = (look b V S).or (look a V S) := by
  induction b using snocRec with
  | h0 => simp [look_nil]
  | h1 l x ih =>
    rw [← List.append_assoc, look_snoc, look_snoc, ih]
    split <;> simp
theorem look_take (l : List Wr) (k : Nat) (hk : k < l.length) (V S : Int) (h : ∀ j (hj : j < l.length), k < j → ¬ hits l[j] V S) : look l V S = look (l.take (k + 1)) V S := by
  have e : l = l.take (k + 1) ++ l.drop (k + 1) := (List.take_append_drop _ _).symm
  have key : ∀ m : List Wr, (∀ x ∈ m, ¬ hits x V S) → ∀ a, look (a ++ m) V S = look a V S := by
    intro m
    induction m using snocRec with
    | h0 => simp
    | h1 m x ih =>
      intro hm a
      rw [← List.append_assoc, look_snoc, if_neg (hm x (by simp))]
      exact ih (fun y hy => hm y (by simp [hy])) a
  conv => lhs; rw [e]
  refine key _ ?_ _
  intro x hx
  obtain ⟨i, hi, rfl⟩ := List.mem_iff_getElem.1 hx
  rw [List.getElem_drop]
  exact h _ _ (by omega)
theorem look_none (l : List Wr) (V S : Int) (h : ∀ x ∈ l, ¬ hits x V S) : look l V S = none := by
  induction l using snocRec with
  | h0 => rfl
  | h1 l x ih => rw [look_snoc, if_neg (h x (by simp))]; exact ih (fun y hy => h y (by simp [hy]))

/-- runs of ascending numbers: one number more -/
def runStep (out : List Ext) (x : Int) : List Ext :=
  match out.getLast? with
  | some (s, c) => if s + c = x then out.dropLast ++ [(s, c + 1)] else out ++ [(x, 1)]
  | none => [(x, 1)]
def runsL (xs : List Int) : List Ext := xs.foldl runStep []
theorem runsL_snoc (xs : List Int) (x : Int) : runsL (xs ++ [x]) = runStep (runsL xs) x := by simp [runsL]
/-- the places at which a list of marks says yes -/
def idxs (m : List Bool) : List Int := ((List.range m.length).filter fun i => m.getD i false).map Int.ofNat
theorem idxs_snoc (m : List Bool) (q : Bool) : idxs (m ++ [q]) = idxs m ++ (if q then [(m.length : Int)] else []) := by
  unfold idxs
  rw [List.length_append, List.length_singleton, List.range_succ, List.filter_append, List.map_append]
  congr 1
  · congr 1
    refine List.filter_congr fun i hi => ?_
    have := List.mem_range.1 hi
    simp [List.getElem?_append_left this]
  · cases q <;> simp
theorem run_end (m : List Bool) : (∃ s c, (runsL (idxs m)).getLast? = some (s, c) ∧ s + c = m.length) ↔ m.getLast? = some true := by
  induction m using snocRec with
  | h0 => simp [runsL, idxs]
  | h1 m q ih =>
    rw [idxs_snoc]
    cases q with
    | false =>
      have hle : ∀ (xs : List Int) (B : Int), (∀ x ∈ xs, x < B) → ∀ s c, (runsL xs).getLast? = some (s, c) → s + c ≤ B := by
        intro xs
        induction xs using snocRec with
        | h0 => intro B _ s c h; simp [runsL] at h
        | h1 xs x ihx =>
          intro B hB s c h
          have hx := hB x (by simp)
          rw [runsL_snoc, runStep] at h
          split at h
          · split at h
            · rename_i s' c' hg he
              simp at h
              obtain ⟨rfl, rfl⟩ := h
              omega
            · simp at h
              obtain ⟨rfl, rfl⟩ := h
              omega
          · simp at h
            obtain ⟨rfl, rfl⟩ := h
            omega
      constructor
      · rintro ⟨s, c, h1, h2⟩
        simp at h1 h2
        have := hle (idxs m) m.length (by
          intro x hx
          simp [idxs] at hx
          obtain ⟨i, ⟨hi, _⟩, rfl⟩ := hx
          omega) s c h1
        omega
      · intro h
        simp at h
    | true =>
      simp only [if_true, runsL_snoc, List.getLast?_concat, List.length_append, List.length_singleton, iff_true]
      unfold runStep
      split
      · split
        · rename_i s c hg he
          exact ⟨s, c + 1, by simp, by omega⟩
        · exact ⟨m.length, 1, by simp, by omega⟩
      · exact ⟨m.length, 1, by simp, by omega⟩

theorem runsL_bound (B : Int) (xs : List Int) (h : ∀ x ∈ xs, 0 ≤ x ∧ x < B) : (∀ e ∈ runsL xs, 0 ≤ e.1 ∧ 0 < e.2 ∧ e.1 + e.2 ≤ B) ∧ (runsL xs).length ≤ xs.length := by
  induction xs using snocRec with
  | h0 => simp [runsL]
  | h1 xs x ih =>
    obtain ⟨ih1, ih2⟩ := ih (fun y hy => h y (by simp [hy]))
    have hx := h x (by simp)
    rw [runsL_snoc, runStep]
    split
    · rename_i s c hg
      have hsc := ih1 (s, c) (List.mem_of_getLast? hg)
      simp only at hsc
      split
      · refine ⟨fun e he => ?_, ?_⟩
        · rcases List.mem_append.1 he with h' | h'
          · exact ih1 e ((List.dropLast_sublist _).subset h')
          · rw [List.mem_singleton.1 h']; simp only; omega
        · simp; omega
      · refine ⟨fun e he => ?_, by simp; omega⟩
        rcases List.mem_append.1 he with h' | h'
        · exact ih1 e h'
        · rw [List.mem_singleton.1 h']; simp only; omega
    · refine ⟨fun e he => ?_, by simp⟩
      rw [List.mem_singleton.1 he]; simp only; omega
theorem idxs_mem (m : List Bool) : ∀ x ∈ idxs m, 0 ≤ x ∧ x < m.length := by
  intro x hx
  simp [idxs] at hx
  obtain ⟨i, ⟨hi, _⟩, rfl⟩ := hx
  omega
theorem idxs_len (m : List Bool) : (idxs m).length ≤ m.length := by
  unfold idxs
  rw [List.length_map]
  exact Nat.le_trans (List.length_filter_le _ _) (by simp)
theorem runStep_more {out : List Ext} {s c x : Int} (h : out.getLast? = some (s, c)) (he : s + c = x) : runStep out x = out.set (out.length - 1) (s, c + 1) := by
  unfold runStep
  rw [h]
  simp only [he, if_true]
  obtain ⟨l, rfl⟩ := List.getLast?_eq_some_iff.1 h
  simp
theorem runStep_new {out : List Ext} {x : Int} (h : ∀ s c, out.getLast? = some (s, c) → s + c ≠ x) : runStep out x = out ++ [(x, 1)] := by
  unfold runStep
  split
  · rename_i s c hg
    rw [if_neg (h s c hg)]
  · rename_i hg
    rw [List.getLast?_eq_none_iff.1 hg]; rfl
/-- canonical lists: one place more -/
def canonStep (out : List Wr) (x : Pl × Sec) : List Wr :=
  match out.getLast? with
  | some (v, s, d) => if (v, s + d.length) = x.1 then out.dropLast ++ [(v, s, d ++ [x.2])] else out ++ [(x.1.1, x.1.2, [x.2])]
  | none => [(x.1.1, x.1.2, [x.2])]
def canonL (m : Eff) : List Wr := m.foldl canonStep []
theorem canonL_snoc (m : Eff) (x : Pl × Sec) : canonL (m ++ [x]) = canonStep (canonL m) x := by simp [canonL]
/-- the sectors of a volume that a list has an effect on -/
def secsOf (l : List Wr) (v : Int) : List Int := ((List.range 4096).filter fun (s : Nat) => (look l v s).isSome).map Int.ofNat
theorem secsOf_mem (l : List Wr) (v : Int) : ∀ x ∈ secsOf l v, 0 ≤ x ∧ x < 4096 := by
  intro x hx
  obtain ⟨i, hi, rfl⟩ := List.mem_map.1 hx
  have := List.mem_range.1 (List.mem_filter.1 hi).1
  exact ⟨Int.natCast_nonneg i, by show (i : Int) < 4096; omega⟩
theorem secsOf_len (l : List Wr) (v : Int) : (secsOf l v).length ≤ 4096 := by
  unfold secsOf
  rw [List.length_map]
  refine Nat.le_trans (List.length_filter_le _ _) (Nat.le_of_eq (List.length_range ..))
def assocV (l : List Wr) (v : Int) : Eff := (secsOf l v).map fun s => ((v, s), (look l v s).getD zsec)
def assoc (l : List Wr) : Eff := (List.range 8).flatMap fun (v : Nat) => assocV l v
/-- THE CANONICAL LIST -/
def foldS (l : List Wr) : List Wr := canonL (assoc l)
/-- the writes on some extents of a volume -/
def pickS (l : List Wr) (v : Int) (es : List Ext) : List Wr := es.map fun e => (v, e.1, (List.range e.2.toNat).map fun (k : Nat) => (look l v (e.1 + k)).getD zsec)

theorem canon_pick (v : Int) (f : Int → Sec) (xs : List Int) : canonL (xs.map fun s => ((v, s), f s)) = (runsL xs).map (fun e => (v, e.1, (List.range e.2.toNat).map fun (k : Nat) => f (e.1 + k))) ∧ ∀ e ∈ runsL xs, 0 < e.2 := by
  induction xs using snocRec with
  | h0 => simp [canonL, runsL]
  | h1 xs x ih =>
    obtain ⟨ih1, ih2⟩ := ih
    rw [List.map_append, List.map_singleton, canonL_snoc, runsL_snoc, ih1]
    unfold canonStep runStep
    rw [List.getLast?_map]
    rcases hg : (runsL xs).getLast? with _ | ⟨s, c⟩
    · simp [List.range_succ]
    · have hc : 0 < c := ih2 (s, c) (List.mem_of_getLast? hg)
      simp only [Option.map_some, List.length_map, List.length_range]
      have hcc : ((c.toNat : Nat) : Int) = c := by omega
      by_cases he : s + c = x
      · rw [if_pos (by rw [hcc, he]), if_pos he]
        refine ⟨?_, ?_⟩
        · rw [List.map_append, List.map_dropLast, List.map_singleton]
          congr 1
          have hs : (c + 1).toNat = c.toNat + 1 := by omega
          simp only [hs, List.range_succ, List.map_append, List.map_singleton, hcc, he]
        · intro e he'
          rcases List.mem_append.1 he' with h | h
          · exact ih2 e ((List.dropLast_sublist _).subset h)
          · rw [List.mem_singleton.1 h]; show 0 < c + 1; omega
      · rw [if_neg (by rw [hcc]; intro h; exact he (by injection h)), if_neg he]
        refine ⟨?_, ?_⟩
        · rw [List.map_append, List.map_singleton]
          simp [List.range_succ]
        · intro e he'
          rcases List.mem_append.1 he' with h | h
          · exact ih2 e h
          · rw [List.mem_singleton.1 h]; show (0 : Int) < 1; omega
theorem canonL_len (m : Eff) : (canonL m).length ≤ m.length ∧ ∀ x ∈ canonL m, x.2.2.length ≤ m.length := by
  induction m using snocRec with
  | h0 => simp [canonL]
  | h1 m z ih =>
    obtain ⟨ih1, ih2⟩ := ih
    rw [canonL_snoc, canonStep]
    split
    · rename_i v s d hg
      have hd := ih2 _ (List.mem_of_getLast? hg)
      simp only at hd
      split
      · refine ⟨by simp; omega, fun x hx => ?_⟩
        rcases List.mem_append.1 hx with h | h
        · have := ih2 x ((List.dropLast_sublist _).subset h); simp; omega
        · rw [List.mem_singleton.1 h]; simp; omega
      · refine ⟨by simp; omega, fun x hx => ?_⟩
        rcases List.mem_append.1 hx with h | h
        · have := ih2 x h; simp; omega
        · rw [List.mem_singleton.1 h]; simp
    · refine ⟨by simp, fun x hx => ?_⟩
      rw [List.mem_singleton.1 hx]; simp
theorem canonL_vols (m : Eff) : ∀ x ∈ canonL m, ∃ y ∈ m, y.1.1 = x.1 := by
  induction m using snocRec with
  | h0 => simp [canonL]
  | h1 m z ih =>
    intro x hx
    rw [canonL_snoc, canonStep] at hx
    split at hx
    · split at hx
      · rename_i v s d hg he
        rcases List.mem_append.1 hx with h | h
        · obtain ⟨y, hy, e⟩ := ih x ((List.dropLast_sublist _).subset h)
          exact ⟨y, by simp [hy], e⟩
        · rw [List.mem_singleton.1 h]
          exact ⟨z, by simp, by rw [← he]⟩
      · rcases List.mem_append.1 hx with h | h
        · obtain ⟨y, hy, e⟩ := ih x h
          exact ⟨y, by simp [hy], e⟩
        · rw [List.mem_singleton.1 h]
          exact ⟨z, by simp, rfl⟩
    · rw [List.mem_singleton.1 hx]
      exact ⟨z, by simp, rfl⟩
/-- lists of places of different volumes -/
theorem canonL_append (a b : Eff) (h : ∀ x ∈ a, ∀ y ∈ b, x.1.1 ≠ y.1.1) : canonL (a ++ b) = canonL a ++ canonL b := by
  induction b using snocRec with
  | h0 => simp [canonL]
  | h1 b z ih =>
    have ih := ih (fun x hx y hy => h x hx y (by simp [hy]))
    rw [← List.append_assoc, canonL_snoc, canonL_snoc, ih]
    unfold canonStep
    rw [List.getLast?_append]
    rcases hb : (canonL b).getLast? with _ | ⟨v, s, d⟩
    · have hb0 : canonL b = [] := List.getLast?_eq_none_iff.1 hb
      rw [hb0]
      simp only [Option.none_or, List.append_nil]
      rcases ha : (canonL a).getLast? with _ | ⟨v, s, d⟩
      · have ha0 : canonL a = [] := List.getLast?_eq_none_iff.1 ha
        simp [ha0]
      · obtain ⟨y, hy, e⟩ := canonL_vols a _ (List.mem_of_getLast? ha)
        have hne := h y hy z (by simp)
        simp only
        rw [if_neg]
        intro e2
        exact hne (e.trans (congrArg Prod.fst e2))
    · simp only [Option.some_or]
      split
      · rw [List.dropLast_append_of_ne_nil (by intro e; rw [e] at hb; simp at hb), List.append_assoc]
      · rw [List.append_assoc]
theorem foldS_eq (l : List Wr) : foldS l = (List.range 8).flatMap fun (v : Nat) => pickS l v (runsL (secsOf l v)) := by
  have key : ∀ n, canonL ((List.range n).flatMap fun (v : Nat) => assocV l v) = (List.range n).flatMap fun (v : Nat) => pickS l v (runsL (secsOf l v)) := by
    intro n
    induction n with
    | zero => simp [canonL]
    | succ n ih =>
      rw [List.range_succ, List.flatMap_append, List.flatMap_append, canonL_append, ih]
      · refine congrArg _ ?_
        simp only [List.flatMap_cons, List.flatMap_nil, List.append_nil]
        have h := (canon_pick n (fun s => (look l n s).getD zsec) (secsOf l n)).1
        unfold assocV pickS
        exact h
      · intro x hx y hy
        simp only [List.flatMap_cons, List.flatMap_nil, List.append_nil, List.mem_flatMap, List.mem_range, assocV, List.mem_map] at hx hy
        obtain ⟨v, hv, s, _, rfl⟩ := hx
        obtain ⟨s', _, rfl⟩ := hy
        show (v : Int) ≠ (n : Int)
        omega
  unfold foldS assoc
  exact key 8
end Go.Proofs.YtnkmklnlaepdeaaGreat

/-
  Readings: which plain data the cells of a value hold in a world, whatever the type; what keeps a reading; slices that a call owns. No program in sight.
-/
import Derived.WalkKit
import Derived.WalkSpells
import Derived.WalkLawsBesides
import Derived.Lib.Hide
import Derived.Deep.QuietTactic
import Derived.BigQuiet
import Derived.StillTailTactics
import Derived.Deep.RegionHeld3
import Derived.Maps.AppendAt
import Derived.Deep.AppendLies
set_option linter.unusedVariables false
set_option linter.unusedSimpArgs false
set_option linter.unusedSectionVars false
set_option linter.unnecessarySimpa false
namespace Go.Proofs.Ytfahbhjlkdcnpaa
open Go.RowKit

/-- two lists, element by element -/
def All2 {α β : Type} (R : α → β → Prop) : List α → List β → Prop
  | [], [] => True
  | a :: l, b :: m => R a b ∧ All2 R l m
  | _, _ => False
section
variable {α β : Type} {R R' : α → β → Prop}
theorem All2.length : ∀ {l : List α} {m : List β}, All2 R l m → l.length = m.length
  | [], [], _ => rfl
  | _ :: _, _ :: _, h => by simp [All2.length h.2]
  | [], _ :: _, h => h.elim
  | _ :: _, [], h => h.elim
theorem All2.mono (hr : ∀ a b, R a b → R' a b) : ∀ {l : List α} {m : List β}, All2 R l m → All2 R' l m
  | [], [], _ => trivial
  | _ :: _, _ :: _, h => ⟨hr _ _ h.1, All2.mono hr h.2⟩
  | [], _ :: _, h => h.elim
  | _ :: _, [], h => h.elim
theorem All2.get : ∀ {l : List α} {m : List β}, All2 R l m → ∀ {i : Nat} {b : β}, m[i]? = some b → ∃ a, l[i]? = some a ∧ R a b
  | [], [], _, _, _, h => by simp at h
  | a :: _, _ :: _, h, 0, _, hb => by
    simp at hb; subst hb
    exact ⟨a, rfl, h.1⟩
  | _ :: _, _ :: _, h, i + 1, b, hb => by
    obtain ⟨x, hx, hr⟩ := All2.get h.2 (i := i) (b := b) (by simpa using hb)
    exact ⟨x, by simpa using hx, hr⟩
  | [], _ :: _, h, _, _, _ => h.elim
  | _ :: _, [], h, _, _, _ => h.elim
theorem All2.append : ∀ {l l' : List α} {m m' : List β}, All2 R l m → All2 R l' m' → All2 R (l ++ l') (m ++ m')
  | [], _, [], _, _, h' => h'
  | _ :: _, _, _ :: _, _, h, h' => ⟨h.1, All2.append h.2 h'⟩
  | [], _, _ :: _, _, h, _ => h.elim
  | _ :: _, _, [], _, h, _ => h.elim
theorem All2.set : ∀ {l : List α} {m : List β}, All2 R l m → ∀ {i : Nat} {a : α} {b : β}, R a b → All2 R (l.set i a) (m.set i b)
  | [], [], _, _, _, _, _ => trivial
  | _ :: _, _ :: _, h, 0, _, _, hr => ⟨hr, h.2⟩
  | _ :: _, _ :: _, h, _ + 1, _, _, hr => ⟨h.1, All2.set h.2 hr⟩
  | [], _ :: _, h, _, _, _, _ => h.elim
  | _ :: _, [], h, _, _, _, _ => h.elim
theorem All2.take : ∀ {l : List α} {m : List β} (n : Nat), All2 R l m → All2 R (l.take n) (m.take n)
  | [], [], n, _ => by simp [All2]
  | _ :: _, _ :: _, 0, _ => by simp [All2]
  | _ :: _, _ :: _, n + 1, h => ⟨h.1, All2.take n h.2⟩
  | [], _ :: _, _, h => h.elim
  | _ :: _, [], _, h => h.elim
theorem All2.mk : ∀ {l : List α} {m : List β}, l.length = m.length → (∀ (i : Nat) a b, l[i]? = some a → m[i]? = some b → R a b) → All2 R l m
  | [], [], _, _ => trivial
  | a :: l, b :: m, h, hr => ⟨hr 0 a b rfl rfl, All2.mk (by simpa using h) (fun i x y hx hy => hr (i + 1) x y (by simpa using hx) (by simpa using hy))⟩
  | [], _ :: _, h, _ => by simp at h
  | _ :: _, [], h, _ => by simp at h
end

theorem flatten_len {α : Type} (size : Nat) : ∀ (l : List (List α)), (∀ x ∈ l, x.length = size) → l.flatten.length = l.length * size
  | [], _ => by simp
  | x :: l, h => by
    rw [List.flatten_cons, List.length_append, flatten_len size l (fun y hy => h y (by simp [hy])), h x (by simp), List.length_cons, Nat.succ_mul]
    omega
theorem flatten_at {α : Type} (size : Nat) : ∀ (l : List (List α)) (i j : Nat) (x : List α) (v : α), (∀ x ∈ l, x.length = size) → l[i]? = some x → x[j]? = some v → l.flatten[i * size + j]? = some v
  | [], _, _, _, _, _, h, _ => by simp at h
  | y :: l, 0, j, x, v, hs, h, hv => by
    simp at h; subst h
    have hj : j < y.length := (List.getElem?_eq_some_iff.1 hv).1
    simp [List.getElem?_append_left hj, hv]
  | y :: l, i + 1, j, x, v, hs, h, hv => by
    have hy := hs y (by simp)
    rw [List.flatten_cons, List.getElem?_append_right (by rw [hy, Nat.succ_mul]; omega), hy]
    have := flatten_at size l i j x v (fun z hz => hs z (by simp [hz])) (by simpa using h) hv
    rw [← this]
    congr 1
    rw [Nat.succ_mul]; omega

/-- A reading of values of one type: how many cells, and which datum they hold in a world, their memory lying in the blocks of a set. -/
structure Enc (α : Type) where
  size : Nat
  rd : World → (Nat → Prop) → List Value → α → Prop
  len : ∀ {w : World} {S : Nat → Prop} {cs : List Value} {x : α}, rd w S cs x → cs.length = size
  one : ∀ {w : World} {S : Nat → Prop} {cs : List Value} {x : α}, rd w S cs x → ∀ v ∈ cs, v.oneCell' = true
  keep : ∀ {w w' : World} {S S' : Nat → Prop} {cs : List Value} {x : α}, rd w S cs x → (∀ p : Addr, S p.block → w'.cell? p = w.cell? p) → (∀ b, S b → S' b) → rd w' S' cs x

/-- the blocks below a number -/
def Bl (B : Nat) (b : Nat) : Prop := b < B
theorem Bl.mono {B B' : Nat} (h : B ≤ B') (b : Nat) (hb : Bl B b) : Bl B' b := Nat.lt_of_lt_of_le hb h

section
variable {α : Type} {E : Enc α} {w w' : World} {S S' : Nat → Prop} {cs : List Value} {x : α}
theorem Enc.more (h : E.rd w S cs x) (hS : ∀ b, S b → S' b) : E.rd w S' cs x := E.keep h (fun _ _ => rfl) hS
theorem Enc.blk (h : E.rd w S cs x) (hk : ∀ b, S b → w'.heap[b]? = w.heap[b]?) : E.rd w' S cs x := E.keep h (fun _ hp => World.cell?_of_block (hk _ hp)) (fun _ h => h)
theorem Enc.below {B : Nat} (h : E.rd w (Bl B) cs x) (hb : Below B w w') : E.rd w' (Bl B) cs x := E.blk h hb.block
theorem Enc.belowUp {B : Nat} (h : E.rd w (Bl B) cs x) (hb : Below B w w') {B' : Nat} (hB : B ≤ B') : E.rd w' (Bl B') cs x := Enc.more (E.below h hb) (Bl.mono hB)
end

def I64 (n : Int) : Prop := -9223372036854775808 ≤ n ∧ n ≤ 9223372036854775807
def encInt : Enc Int where
  size := 1
  rd _ _ cs x := cs = [.int .i64 x] ∧ I64 x
  len h := by simp [h.1]
  one h := by simp [h.1, Value.oneCell']
  keep h _ _ := h
def encU64 : Enc Int where
  size := 1
  rd _ _ cs x := cs = [.int .u64 x] ∧ 0 ≤ x ∧ x < 18446744073709551616
  len h := by simp [h.1]
  one h := by simp [h.1, Value.oneCell']
  keep h _ _ := h
def encU8 : Enc Int where
  size := 1
  rd _ _ cs x := cs = [.int .u8 x] ∧ 0 ≤ x ∧ x < 256
  len h := by simp [h.1]
  one h := by simp [h.1, Value.oneCell']
  keep h _ _ := h
def encBool : Enc Bool where
  size := 1
  rd _ _ cs x := cs = [.bool x]
  len h := by rw [h]; rfl
  one h := by rw [h]; simp [Value.oneCell']
  keep h _ _ := h
abbrev Sec := List Int
def OkSec (s : Sec) : Prop := s.length = 8 ∧ ∀ x ∈ s, 0 ≤ x ∧ x < 256
def secV (s : Sec) : List Value := s.map (Value.int .u8)
def encSec : Enc Sec where
  size := 8
  rd _ _ cs x := cs = secV x ∧ OkSec x
  len h := by rw [h.1, secV, List.length_map, h.2.1]
  one h := by rw [h.1]; intro v hv; obtain ⟨n, _, rfl⟩ := List.mem_map.1 hv; rfl
  keep h _ _ := h
def encPair {α β : Type} (E : Enc α) (F : Enc β) : Enc (α × β) where
  size := E.size + F.size
  rd w S cs x := ∃ c1 c2, cs = c1 ++ c2 ∧ E.rd w S c1 x.1 ∧ F.rd w S c2 x.2
  len h := by obtain ⟨c1, c2, rfl, h1, h2⟩ := h; rw [List.length_append, E.len h1, F.len h2]
  one h := by
    obtain ⟨c1, c2, rfl, h1, h2⟩ := h
    intro v hv
    rcases List.mem_append.1 hv with hv | hv
    · exact E.one h1 v hv
    · exact F.one h2 v hv
  keep h hk hS := by
    obtain ⟨c1, c2, rfl, h1, h2⟩ := h
    exact ⟨c1, c2, rfl, E.keep h1 hk hS, F.keep h2 hk hS⟩
/-- the elements of a slice, from an address on -/
def SlAt {α : Type} (E : Enc α) (w : World) (S : Nat → Prop) (A : Option Addr) (l : List α) : Prop :=
  l ≠ [] → ∃ b off, A = some ⟨b, off, none⟩ ∧ S b ∧ ∀ (i : Nat) x, l[i]? = some x → ∃ cs, (∀ j v, cs[j]? = some v → w.cell? ⟨b, off + i * E.size + j, none⟩ = some v) ∧ E.rd w S cs x
theorem SlAt.keep {α : Type} {E : Enc α} {w w' : World} {S S' : Nat → Prop} {A : Option Addr} {l : List α} (h : SlAt E w S A l) (hk : ∀ p : Addr, S p.block → w'.cell? p = w.cell? p) (hS : ∀ b, S b → S' b) : SlAt E w' S' A l := fun hn => by
  obtain ⟨b, off, e, hb, hc⟩ := h hn
  refine ⟨b, off, e, hS _ hb, fun i x hx => ?_⟩
  obtain ⟨cs, h1, h2⟩ := hc i x hx
  exact ⟨cs, fun j v hv => (hk ⟨b, off + i * E.size + j, none⟩ hb).trans (h1 j v hv), E.keep h2 hk hS⟩
def encSl {α : Type} (E : Enc α) : Enc (List α) where
  size := 1
  rd w S cs l := ∃ A c, cs = [.slice A l.length c] ∧ l.length ≤ c ∧ c ≤ maxLen ∧ SlAt E w S A l
  len h := by obtain ⟨A, c, rfl, _⟩ := h; rfl
  one h := by obtain ⟨A, c, rfl, _⟩ := h; simp [Value.oneCell']
  keep h hk hS := by
    obtain ⟨A, c, rfl, h1, h2, h3⟩ := h
    exact ⟨A, c, rfl, h1, h2, h3.keep hk hS⟩

section
variable {α : Type} {E : Enc α} {w w' : World} {S S' : Nat → Prop} {A : Option Addr} {l : List α}
theorem SlAt.nil_ : SlAt E w S A [] := fun h => absurd rfl h
theorem SlAt.more (h : SlAt E w S A l) (hS : ∀ b, S b → S' b) : SlAt E w S' A l := h.keep (fun _ _ => rfl) hS
theorem SlAt.blk (h : SlAt E w S A l) (hk : ∀ b, S b → w'.heap[b]? = w.heap[b]?) : SlAt E w' S A l := h.keep (fun _ hp => World.cell?_of_block (hk _ hp)) (fun _ h => h)
theorem SlAt.below {B : Nat} (h : SlAt E w (Bl B) A l) (hb : Below B w w') : SlAt E w' (Bl B) A l := h.blk hb.block
theorem SlAt.belowUp {B : Nat} (h : SlAt E w (Bl B) A l) (hb : Below B w w') {B' : Nat} (hB : B ≤ B') : SlAt E w' (Bl B') A l := (h.below hb).more (Bl.mono hB)
theorem SlAt.at_ {k : Nat} (h : SlAt E w S A l) (hk : k < l.length) :
    ∃ b off cs, A = some ⟨b, off, none⟩ ∧ S b ∧ (∀ j v, cs[j]? = some v → w.cell? ⟨b, off + k * E.size + j, none⟩ = some v) ∧ E.rd w S cs l[k] := by
  obtain ⟨b, off, e, hb, hc⟩ := h (by intro e; subst e; simp at hk)
  obtain ⟨cs, h1, h2⟩ := hc k l[k] (List.getElem?_eq_getElem hk)
  exact ⟨b, off, cs, e, hb, h1, h2⟩
/-- the whole row at once: the form in which append takes its source -/
theorem SlAt.row {b off : Nat} (h : SlAt E w S (some ⟨b, off, none⟩) l) : ∃ css, css.length = l.length ∧ (∀ cs ∈ css, cs.length = E.size) ∧ All2 (E.rd w S) css l ∧ ∀ j v, css.flatten[j]? = some v → w.cell? ((⟨b, off, none⟩ : Addr).add j) = some v := by
  have key : ∀ (m : List α) (k : Nat), (∀ (i : Nat) x, m[i]? = some x → ∃ cs, (∀ j v, cs[j]? = some v → w.cell? ⟨b, off + (k + i) * E.size + j, none⟩ = some v) ∧ E.rd w S cs x) →
      ∃ css, css.length = m.length ∧ (∀ cs ∈ css, cs.length = E.size) ∧ All2 (E.rd w S) css m ∧ ∀ j v, css.flatten[j]? = some v → w.cell? ⟨b, off + k * E.size + j, none⟩ = some v := by
    intro m
    induction m with
    | nil => exact fun k _ => ⟨[], rfl, by simp, trivial, by simp⟩
    | cons x m ih =>
      intro k hc
      obtain ⟨cs, c1, c2⟩ := hc 0 x rfl
      obtain ⟨css, i1, i2, i3, i4⟩ := ih (k + 1) (fun i y hy => by
        have := hc (i + 1) y (by simpa using hy)
        rw [show k + (i + 1) = k + 1 + i from by omega] at this
        exact this)
      refine ⟨cs :: css, by simp [i1], ?_, ⟨c2, i3⟩, ?_⟩
      · intro y hy
        rcases List.mem_cons.1 hy with rfl | hy
        · exact E.len c2
        · exact i2 y hy
      · intro j v hv
        rw [List.flatten_cons] at hv
        by_cases hj : j < cs.length
        · rw [List.getElem?_append_left hj] at hv
          exact c1 j v hv
        · rw [List.getElem?_append_right (by omega)] at hv
          have := i4 _ v hv
          rw [E.len c2] at this hj
          rw [show off + k * E.size + j = off + (k + 1) * E.size + (j - E.size) from by rw [Nat.succ_mul]; omega]
          exact this
  by_cases hl : l = []
  · subst hl
    exact ⟨[], rfl, by simp, trivial, by simp⟩
  · obtain ⟨b', off', e, hb, hc⟩ := h hl
    injection e with e
    injection e with e1 e2
    subst e1 e2
    obtain ⟨css, i1, i2, i3, i4⟩ := key l 0 (fun i x hx => by simpa using hc i x hx)
    refine ⟨css, i1, i2, i3, fun j v hv => ?_⟩
    have hadd : (⟨b, off, none⟩ : Addr).add j = ⟨b, off + j, none⟩ := by unfold Addr.add; split <;> simp_all
    rw [hadd]
    simpa using i4 j v hv
theorem SlAt.some_ (h : SlAt E w S A l) (hl : l ≠ []) : ∃ b off, A = some ⟨b, off, none⟩ ∧ S b := by
  obtain ⟨b, off, e, hb, _⟩ := h hl
  exact ⟨b, off, e, hb⟩
/-- s[i:] and s[:n], as readings -/
theorem SlAt.drop {k : Nat} {b off : Nat} (h : SlAt E w S (some ⟨b, off, none⟩) l) : SlAt E w S (some ⟨b, off + k * E.size, none⟩) (l.drop k) := fun hn => by
  have hl : l ≠ [] := by intro e; subst e; simp at hn
  obtain ⟨b', off', e, hb, hc⟩ := h hl
  injection e with e
  injection e with e1 e2
  subst e1 e2
  refine ⟨b, _, rfl, hb, fun i x hx => ?_⟩
  rw [List.getElem?_drop] at hx
  obtain ⟨cs, h1, h2⟩ := hc _ x hx
  refine ⟨cs, fun j v hv => ?_, h2⟩
  have := h1 j v hv
  rw [Nat.add_mul] at this
  rw [show off + k * E.size + i * E.size + j = off + (k * E.size + i * E.size) + j from by omega]
  exact this
theorem SlAt.take {n : Nat} (h : SlAt E w S A l) : SlAt E w S A (l.take n) := fun hn => by
  have hl : l ≠ [] := by intro e; subst e; simp at hn
  obtain ⟨b, off, e, hb, hc⟩ := h hl
  refine ⟨b, off, e, hb, fun i x hx => hc i x ?_⟩
  rw [List.getElem?_take] at hx
  split at hx
  · exact hx
  · cases hx
end

/-- A slice that the call owns: its row, and what each element's own memory holds (in blocks of S, which its own row is not). -/
def Own {α : Type} (E : Enc α) (w : World) (base : Nat) (e : TypeId) (S : Nat → Prop) (v : Value) (l : List α) : Prop :=
  ∃ css, w.ownsRow base e E.size v l.length css.flatten ∧ All2 (E.rd w S) css l ∧ ∀ g, v.ownBlock = some g → ¬ S g
section
variable {α : Type} {E : Enc α} {w w' : World} {base : Nat} {e : TypeId} {S S' : Nat → Prop} {v v' : Value} {l : List α}
theorem Own.nil_ : Own E w base e S (.slice none 0 0) [] := ⟨[], World.ownsRow_nil w base e E.size, trivial, by simp [Value.ownBlock]⟩
theorem All2.sizes {css : List (List Value)} (h : All2 (E.rd w S) css l) : ∀ cs ∈ css, cs.length = E.size := by
  intro cs hc
  obtain ⟨i, hi, rfl⟩ := List.mem_iff_getElem.1 hc
  obtain ⟨a, ha, hr⟩ := h.get (i := i) (b := l[i]'(by rw [← h.length]; exact hi)) (List.getElem?_eq_getElem _)
  rw [List.getElem?_eq_getElem hi, Option.some.injEq] at ha
  rw [ha]; exact E.len hr
theorem Own.row (h : Own E w base e S v l) : ∃ xs, w.ownsRow base e E.size v l.length xs := by obtain ⟨css, h1, _⟩ := h; exact ⟨_, h1⟩
/-- nothing of it has turned -/
theorem Own.blk (h : Own E w base e S v l) (hk : ∀ b, (S b ∨ v.ownBlock = some b) → w'.heap[b]? = w.heap[b]?) : Own E w' base e S v l := by
  obtain ⟨css, ⟨h1, h2⟩, h3, h4⟩ := h
  refine ⟨css, ⟨h1, ?_⟩, h3.mono (fun _ _ hr => Enc.blk hr (fun b hb => hk b (Or.inl hb))), h4⟩
  rcases h2 with h2 | ⟨g, cap, cur, rfl, hg, hh, r⟩
  · exact Or.inl h2
  · exact Or.inr ⟨g, cap, cur, rfl, hg, (hk g (Or.inr rfl)).trans hh, r⟩
theorem Own.lt (h : Own E w base e S v l) : ∀ g, v.ownBlock = some g → base ≤ g ∧ g < w.heap.size := by
  obtain ⟨css, h1, _⟩ := h
  exact h1.lt
theorem Own.more (h : Own E w base e S v l) (hS : ∀ b, S b → S' b) (hn : ∀ g, v.ownBlock = some g → ¬ S' g) : Own E w base e S' v l := by
  obtain ⟨css, h1, h2, h3⟩ := h
  exact ⟨css, h1, h2.mono (fun _ _ hr => Enc.more hr hS), hn⟩
/-- behind an append of elements -/
theorem Own.appended (h : Own E w base e S v l) {m : List α} {css : List (List Value)} (hm : All2 (E.rd w S) css m) (hg : w.grownBy w' v.ownBlock) (hS : ∀ b, S b → b < w.heap.size)
    (hat : v'.ownBlock = v.ownBlock ∨ v'.ownBlock = some w.heap.size) (hown : ∀ xs, w.ownsRow base e E.size v l.length xs → w'.ownsRow base e E.size v' (l.length + m.length) (xs ++ css.flatten)) : Own E w' base e S v' (l ++ m) := by
  obtain ⟨css0, h1, h2, h3⟩ := h
  have hk : ∀ b, S b → w'.heap[b]? = w.heap[b]? := fun b hb => hg.block b (hS b hb) (fun e => h3 b e.symm hb)
  refine ⟨css0 ++ css, ?_, All2.append (h2.mono fun _ _ hr => Enc.blk hr hk) (hm.mono fun _ _ hr => Enc.blk hr hk), ?_⟩
  · rw [List.flatten_append, List.length_append]
    exact hown _ h1
  · intro g hg'
    rcases hat with hat | hat
    · exact h3 g (by rw [← hat]; exact hg')
    · rw [hat] at hg'
      injection hg' with hg'
      intro hs
      have := hS g hs
      omega
/-- an owned slice reads as its list -/
theorem Own.reads (h : Own E w base e S v l) (hS : ∀ b, S b → S' b) (hv : ∀ g, v.ownBlock = some g → S' g) : (encSl E).rd w S' [v] l := by
  obtain ⟨css, h1, h2, h3⟩ := h
  rcases h1.2 with ⟨rfl, h0⟩ | ⟨g, cap, cur, rfl, hb, hg, hnc, hcm, hcs, htake⟩
  · have : l = [] := List.eq_nil_of_length_eq_zero h0
    subst this
    exact ⟨none, 0, rfl, by simp, by simp, SlAt.nil_⟩
  · refine ⟨_, _, rfl, hnc, hcm, fun _ => ⟨g, 0, rfl, hv g rfl, fun i x hx => ?_⟩⟩
    obtain ⟨cs, hc, hr⟩ := h2.get hx
    refine ⟨cs, fun j u hu => ?_, Enc.more hr hS⟩
    have hj : j < cs.length := (List.getElem?_eq_some_iff.1 hu).1
    have := h1.cells (g := g) rfl (i * E.size + j) u (flatten_at _ _ _ _ _ _ h2.sizes hc hu)
    have hadd : (⟨g, 0, none⟩ : Addr).add (i * E.size + j) = ⟨g, 0 + i * E.size + j, none⟩ := by unfold Addr.add; split <;> simp_all <;> omega
    rw [hadd] at this
    exact this
end

theorem ret_bool {a b : Bool} (h : a = b) : Ending.returned (.bool a) = .returned (.bool b) := by rw [h]
theorem ret_int {k : IntKind} {a b : Int} (h : a = b) : Ending.returned (.int k a) = .returned (.int k b) := by rw [h]
theorem bcell {W w1 : World} (hb : Below W.heap.size W w1) : (∀ b o, b < W.heap.size → w1.cell? ⟨b, o, none⟩ = W.cell? ⟨b, o, none⟩) ∧ (∀ b o, b < W.heap.size → w1.frozen? ⟨b, o, none⟩ = W.frozen? ⟨b, o, none⟩) :=
  ⟨fun b o h => hb.cell (p := ⟨b, o, none⟩) h, fun b o h => hb.frozen (p := ⟨b, o, none⟩) h⟩
theorem bDrew {B : Nat} {a w : World} (h : Below B a w) (n : Nat) : Below B a (w.drewN n) := ⟨h.os, h.tape, h.output, h.size, h.block⟩
/-- the blocks from a number on, below another -/
def Nw (lo hi : Nat) (b : Nat) : Prop := lo ≤ b ∧ b < hi
theorem Nw.bl {lo hi b : Nat} (h : Nw lo hi b) : Bl hi b := h.2
theorem Nw.mono {lo hi lo' hi' b : Nat} (h : Nw lo hi b) (h1 : lo' ≤ lo) (h2 : hi ≤ hi') : Nw lo' hi' b := ⟨Nat.le_trans h1 h.1, Nat.lt_of_lt_of_le h.2 h2⟩
/-- what a function that makes memory returns: a value of one cell, its reading in new memory, and that nothing old has turned -/
def Ret {α : Type} (E : Enc α) (x : α) (w : World) (e : Ending) (w' : World) : Prop := ∃ v, e = .returned v ∧ E.rd w' (Nw w.heap.size w'.heap.size) [v] x ∧ Below w.heap.size w w'
end Go.Proofs.Ytfahbhjlkdcnpaa

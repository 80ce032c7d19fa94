/-
  Leaves, limits, the level above a level.
-/
import Derived.Test.YthneomehfmjbkaaHf
import Derived.Deep.RegionHeld3
import Derived.Laws.Closers25b
set_option linter.unusedVariables false
set_option linter.unusedSimpArgs false
set_option linter.unusedSectionVars false
set_option linter.unnecessarySimpa false
namespace Go.Proofs.Ythneomehfmjbkaa
open Go.RowKit Go.Shelf
attribute [local go_sem] Oper.semAt_some

def U64 (x : Int) : Prop := 0 ≤ x ∧ x < 18446744073709551616
theorem dig_range (bs : List Int) : U64 (dig bs) := by
  have h := bits_within .xor .u64 (bs.foldl dstep d0) (bs.foldl dstep d0 / 4294967296)
  have h1 : IntKind.u64.min = 0 := by decide
  have h2 : IntKind.u64.max = 18446744073709551615 := by decide
  rw [h1, h2] at h
  exact ⟨h.1, by have := h.2; unfold dig dfin; omega⟩
theorem upL_append : ∀ (n : Nat) (a b : List Int), a.length = 2 * n → upL (a ++ b) = upL a ++ upL b
  | 0, [], b, _ => rfl
  | n + 1, x :: y :: a, b, h => by
    show pairD x y :: upL (a ++ b) = pairD x y :: upL a ++ upL b
    rw [upL_append n a b (by simp at h; omega)]; rfl
theorem upL_two (l : List Int) (m : Nat) (h : 2 * m + 1 < l.length) : upL (l.take (2 * (m + 1))) = upL (l.take (2 * m)) ++ [pairD (l[2 * m]'(by omega)) (l[2 * m + 1]'h)] := by
  have e : l.take (2 * (m + 1)) = l.take (2 * m) ++ [l[2 * m]'(by omega), l[2 * m + 1]'h] := by
    rw [show 2 * (m + 1) = 2 * m + 1 + 1 from by omega, List.take_succ_eq_append_getElem h, List.take_succ_eq_append_getElem (by omega : 2 * m < l.length), List.append_assoc]; rfl
  rw [e, upL_append m _ _ (by rw [List.length_take]; omega)]; rfl
theorem upL_one (l : List Int) (m : Nat) (h : 2 * m + 1 = l.length) : upL l = upL (l.take (2 * m)) ++ [l[2 * m]'(by omega)] := by
  have e : l = l.take (2 * m) ++ [l[2 * m]'(by omega)] := by
    conv => lhs; rw [← List.take_length (l := l), ← h, List.take_succ_eq_append_getElem (by omega : 2 * m < l.length)]
  conv => lhs; rw [e]
  rw [upL_append m _ _ (by rw [List.length_take]; omega)]; rfl
theorem upL_range : ∀ (l : List Int), (∀ x ∈ l, U64 x) → ∀ x ∈ upL l, U64 x
  | [], _, x, hx => by cases hx
  | [y], h, x, hx => h x hx
  | y :: z :: l, h, x, hx => by
    rcases List.mem_cons.1 hx with rfl | hx
    · exact dig_range _
    · exact upL_range l (fun x hx => h x (by simp [hx])) x hx
theorem upL_take_len (l : List Int) (m : Nat) : (upL (l.take (2 * m))).length ≤ m := by
  rw [upL_len, List.length_take]; omega
theorem limits_any (a b : Int) (r : Int) (w : World) (hr : limN a b = r) : Calls Try.prog 37 #[.int .i64 a, .int .i64 b] w fun e w' => e = .returned (.int .i64 r) ∧ w' = w := by
  unfold limN at hr
  go_enter Try.func37, Try.ntmps37
  by_cases h1 : a < 1
  · rw [if_pos (Or.inl h1)] at hr; subst hr
    go_wp2
    go_ret
    exact ⟨rfl, rfl⟩
  by_cases h2 : 4096 < a
  · rw [if_pos (Or.inr h2)] at hr; subst hr
    go_wp2
    go_ret
    exact ⟨rfl, rfl⟩
  rw [if_neg (by omega)] at hr
  by_cases h3 : b < 1
  · rw [if_pos (Or.inl h3)] at hr; subst hr
    go_wp2
    go_ret
    exact ⟨rfl, rfl⟩
  by_cases h4 : 4096 < b
  · rw [if_pos (Or.inr h4)] at hr; subst hr
    go_wp2
    go_ret
    exact ⟨rfl, rfl⟩
  rw [if_neg (by omega)] at hr; subst hr
  go_wp2
  go_ret
  exact ⟨rfl, rfl⟩
theorem leaves_any (a b : Nat) (w : World) (ha : 1 ≤ a ∧ a ≤ 4096) (hb : 1 ≤ b ∧ b ≤ 4096) : Calls Try.prog 49 #[.int .i64 a, .int .i64 b] w fun e w' => e = .returned (.int .i64 (leavesN a b : Nat)) ∧ w' = w := by
    obtain ⟨h1, h2, h3, h4⟩ : (1 : Int) ≤ a ∧ (1 : Int) ≤ b ∧ (a : Int) ≤ 4096 ∧ (b : Int) ≤ 4096 := by omega
    have hq : ((a : Int) + b - 1) / b = ((leavesN a b : Nat) : Int) := by
      have e : ((a : Int) + b - 1) = ((a + b - 1 : Nat) : Int) := by omega
      rw [e]
      rfl
    have HQ := Lib.hid hq; clear hq
    go_enter Try.func49, Try.ntmps49
    go_wp2
    go_ret
    refine ⟨ret_int ?_, rfl⟩
    exact HQ.out
theorem refLeaves_any (a b : Nat) (w : World) (ha : 1 ≤ a ∧ a ≤ 4096) (hb : 1 ≤ b ∧ b ≤ 4096) : Calls Try.prog 41 #[.int .i64 a, .int .i64 b] w fun e w' => e = .returned (.int .i64 (leavesN a b : Nat)) ∧ w' = w := by
    obtain ⟨h1, h2, h3, h4⟩ : (1 : Int) ≤ a ∧ (1 : Int) ≤ b ∧ (a : Int) ≤ 4096 ∧ (b : Int) ≤ 4096 := by omega
    have hq : ((a : Int) + b - 1) / b = ((leavesN a b : Nat) : Int) := by
      have e : ((a : Int) + b - 1) = ((a + b - 1 : Nat) : Int) := by omega
      rw [e]
      rfl
    have HQ := Lib.hid hq; clear hq
    go_enter Try.func41, Try.ntmps41
    go_wp2
    go_ret
    refine ⟨ret_int ?_, rfl⟩
    exact HQ.out
theorem leaf_lt {n m i : Nat} (hm : 1 ≤ m) (hi : i < leavesN n m) : i * m < n := by
  unfold leavesN at hi
  have := (Nat.le_div_iff_mul_le (show 0 < m by omega)).1 (show i + 1 ≤ (n + m - 1) / m from hi)
  rw [Nat.succ_mul] at this
  omega
theorem leafAt_len (l : List Sec) (m i : Nat) : (leafAt l m i).length = min m (l.length - i * m) := by simp [leafAt]
/-- the sectors of a leaf -/
def LeafRet (l : List Sec) (m i : Nat) (w : World) (e : Ending) (w' : World) : Prop := (∃ A' c', e = .returned (.slice A' (leafAt l m i).length c') ∧ SlAt encSec w (Bl w.heap.size) A' (leafAt l m i)) ∧ w' = w
theorem leafRet_mk {l : List Sec} {m i k c' : Nat} {A' : Option Addr} {w : World} (h : SlAt encSec w (Bl w.heap.size) A' (leafAt l m i)) (hk : k = (leafAt l m i).length) : LeafRet l m i w (.returned (.slice A' k c')) w := ⟨⟨A', c', by rw [hk], h⟩, rfl⟩
theorem refSectors11_any (A : Option Addr) (c n : Nat) (l : List Sec) (m i : Nat) (w : World) (hn : l.length = n) (hi : i * m < n) (h1 : SlAt encSec w (Bl w.heap.size) A l) (hc : n ≤ c ∧ c ≤ maxLen) (hl : n ≤ 100000) (hm : m ≤ 100000) :
    Calls Try.prog 42 #[.slice A n c, .int .i64 m, .int .i64 i] w (LeafRet l m i w) := by
  subst hn
  obtain ⟨b, off, rfl, hb⟩ := h1.some_ (fun e => by rw [e] at hi; simp at hi)
  have HS : Hid (SlAt encSec w (Bl w.heap.size) (some ⟨b, off + i * m * 8, none⟩) (leafAt l m i)) := (h1.drop (k := i * m)).take
  have HL := Lib.hid (leafAt_len l m i)
  clear h1
  obtain ⟨hc1, hc2⟩ := hc
  unfold maxLen at hc2
  obtain ⟨q, hq⟩ : ∃ q, i * m = q := ⟨_, rfl⟩
  rw [hq] at hi HL HS
  have hq2 : (i : Int) * (m : Int) = q := by rw [← hq]; simp
  have e0 : (0 : Int) ≤ q := by omega
  have e1 : (q : Int) < l.length := by omega
  have e2 : (q : Int) ≤ c := by omega
  have e3 : ((l.length : Nat) : Int) ≤ c := by omega
  have e4 : (m : Int) ≤ 100000 := by omega
  have e5 : ((l.length : Nat) : Int) ≤ 100000 := by omega
  go_enter Try.func42, Try.ntmps42
  go_wp2
  · go_ret
    exact leafRet_mk HS.out (by rw [HL.out]; omega)
  · go_ret
    exact leafRet_mk HS.out (by rw [HL.out]; omega)
end Go.Proofs.Ythneomehfmjbkaa

/-
  The walk of awake: the examples of the chapter.
-/
import Derived.Test.YtgmeghandjkkcaaGreatSg
set_option linter.unusedVariables false
set_option linter.unusedSimpArgs false
set_option linter.unusedSectionVars false
set_option linter.unnecessarySimpa false
namespace Go.Proofs.YtgmeghandjkkcaaGreat
open Go.RowKit Go.ChangeMaps

theorem lit_at {α : Type} {E : Enc α} {w : World} {S : Nat → Prop} {b : Nat} {T : TypeId} {l : List α} {css : List (List Value)} {cs : Array Value} (hb : w.heap[b]? = some (.cells cs T (0, 0))) (hcs : cs = css.flatten.toArray) (hr : All2 (E.rd w S) css l) (hS : S b) : SlAt E w S (some ⟨b, 0, none⟩) l := by
  subst hcs
  refine fun _ => ⟨b, 0, rfl, hS, fun i x hx => ?_⟩
  obtain ⟨c, hc, hr'⟩ := hr.get hx
  refine ⟨c, fun j v hv => ?_, hr'⟩
  rw [cell_of_row w b _ _ T _ hb]
  have := flatten_at E.size css i j c v hr.sizes hc hv
  rw [show 0 + i * E.size + j = i * E.size + j from by omega]
  simpa using this
theorem u8_lit {w : World} {b : Nat} {T : TypeId} {bs : List Int} {cs : Array Value} (hb : w.heap[b]? = some (.cells cs T (0, 0))) (hcs : cs = (bs.map (Value.int .u8)).toArray) (hB : ∀ x ∈ bs, 0 ≤ x ∧ x < 256) : SlAt encU8 w (Bl w.heap.size) (some ⟨b, 0, none⟩) bs := by
  refine lit_at (css := bs.map fun x => [Value.int .u8 x]) hb ?_ ?_ (Array.getElem?_eq_some_iff.1 hb).1
  · rw [hcs]
    congr 1
    clear hcs hb hB
    induction bs with
    | nil => rfl
    | cons x bs ih => simp [ih]
  · clear hcs hb
    induction bs with
    | nil => exact trivial
    | cons x bs ih => exact ⟨⟨rfl, hB x (by simp)⟩, ih (fun y hy => hB y (by simp [hy]))⟩
theorem foldX (A : Option Addr) (c n : Nat) (l r : List Wr) (hn : l.length = n) (hr : foldL l = r) (he : errOf placedN l = 0) (w : World) (h1 : SlAt encWr w (Bl w.heap.size) A l) (hs : n ≤ 9223372036854775807) :
    Calls Tryz.prog 68 #[.slice A n c] w (RetSlN encWr r 0 w) := by
  subst hn hr
  have := fold_any A c l w h1 hs
  rw [he] at this
  exact this
theorem sameX (A A' : Option Addr) (c c' n m : Nat) (l k : List Wr) (hn : l.length = n) (hm : k.length = m) (w : World) (h1 : SlAt encWr w (Bl w.heap.size) A l) (h2 : SlAt encWr w (Bl w.heap.size) A' k) (hs : n ≤ 9223372036854775807) (ht : m ≤ 9223372036854775807) (he : l = k) :
    Calls Tryz.prog 32 #[.slice A n c, .slice A' m c'] w fun e w' => e = .returned (.bool true) ∧ Below w.heap.size w w' := by
  subst hn hm
  exact same_any A A' c c' _ _ l k w h1 h2 hs ht true (by rw [he]; simp)

/-- a write laid in a slot: its reading -/
structure WrOk (v s : Int) (D : Option Addr) (n c : Nat) (w : World) (d : List Sec) : Prop where
  rd : encWr.rd w (Bl w.heap.size) [.int .i64 v, .int .i64 s, .slice D n c] (v, s, d)
theorem WrOk.fwd {v s : Int} {D : Option Addr} {n c : Nat} {w w' : World} {d : List Sec} (h : WrOk v s D n c w d) (hb : Below w.heap.size w w') : WrOk v s D n c w' d := ⟨Enc.fwd h.rd hb⟩
theorem WrOk.len {v s : Int} {D : Option Addr} {n c : Nat} {w : World} {d : List Sec} (h : WrOk v s D n c w d) : d.length = n := by
  obtain ⟨D', c', he, _⟩ := wr_cs h.rd
  simp at he
  exact he.2.1.symm
section
variable {w : World} {T : TypeId} {v1 s1 v2 s2 v3 s3 : Int} {D1 D2 D3 : Option Addr} {n1 c1 n2 c2 n3 c3 : Nat} {d1 d2 d3 : List Sec}
theorem litW1 (h1 : WrOk v1 s1 D1 n1 c1 w d1) : SlAt encWr (w.alloc (.cells #[.int .i64 v1, .int .i64 s1, .slice D1 n1 c1] T)) (Bl (w.alloc (.cells #[.int .i64 v1, .int .i64 s1, .slice D1 n1 c1] T)).heap.size) (some ⟨w.heap.size, 0, none⟩) [(v1, s1, d1)] :=
  lit_at (css := [[.int .i64 v1, .int .i64 s1, .slice D1 n1 c1]]) (heap_alloc_new _ _) rfl ⟨(h1.fwd (ext_alloc (Below.refl _ _))).rd, trivial⟩ (by simp [Bl])
theorem litW3 (h1 : WrOk v1 s1 D1 n1 c1 w d1) (h2 : WrOk v2 s2 D2 n2 c2 w d2) (h3 : WrOk v3 s3 D3 n3 c3 w d3) :
    SlAt encWr (w.alloc (.cells #[.int .i64 v1, .int .i64 s1, .slice D1 n1 c1, .int .i64 v2, .int .i64 s2, .slice D2 n2 c2, .int .i64 v3, .int .i64 s3, .slice D3 n3 c3] T)) (Bl (w.alloc (.cells #[.int .i64 v1, .int .i64 s1, .slice D1 n1 c1, .int .i64 v2, .int .i64 s2, .slice D2 n2 c2, .int .i64 v3, .int .i64 s3, .slice D3 n3 c3] T)).heap.size) (some ⟨w.heap.size, 0, none⟩) [(v1, s1, d1), (v2, s2, d2), (v3, s3, d3)] :=
  lit_at (css := [[.int .i64 v1, .int .i64 s1, .slice D1 n1 c1], [.int .i64 v2, .int .i64 s2, .slice D2 n2 c2], [.int .i64 v3, .int .i64 s3, .slice D3 n3 c3]]) (heap_alloc_new _ _) rfl ⟨(h1.fwd (ext_alloc (Below.refl _ _))).rd, (h2.fwd (ext_alloc (Below.refl _ _))).rd, (h3.fwd (ext_alloc (Below.refl _ _))).rd, trivial⟩ (by simp [Bl])
theorem litE2 {x1 y1 x2 y2 : Int} (i1 : I64 x1) (i2 : I64 y1) (i3 : I64 x2) (i4 : I64 y2) : SlAt encExt (w.alloc (.cells #[.int .i64 x1, .int .i64 y1, .int .i64 x2, .int .i64 y2] T)) (Bl (w.alloc (.cells #[.int .i64 x1, .int .i64 y1, .int .i64 x2, .int .i64 y2] T)).heap.size) (some ⟨w.heap.size, 0, none⟩) [(x1, y1), (x2, y2)] :=
  lit_at (css := [[.int .i64 x1, .int .i64 y1], [.int .i64 x2, .int .i64 y2]]) (heap_alloc_new _ _) rfl ⟨ext_mk (x := (x1, y1)) i1 i2, ext_mk (x := (x2, y2)) i3 i4, trivial⟩ (by simp [Bl])
end
end Go.Proofs.YtgmeghandjkkcaaGreat

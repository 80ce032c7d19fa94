/-
  Arguments that read as data read as plain data (Enc), type by type; the last step of a law's proof. No program in sight.; Plain words: clones of snapshots. No program in sight.; A sector stored; the reference's Fits, its copy of an image that it owns, its Apply.; clone.change, Replicate, Take, Drop: the walks.; clone.Replicate, Take: the walks, the functions they hand to change first.
-/
import Derived.OpenShut
import Derived.Carry
import Derived.ProofKit
import Derived.ChangeSame
import GoSem.Claim
import GoSem.ClaimJoined
import GoSem.ClaimMapViews
import Derived.JoinedTies
import Derived.KernelRfl
import Derived.BigQuiet
import Derived.Test.YtgndgkjefgjamaaGreatZ01
import Derived.Test.YtgndgkjefgjamaaGreatZ02
import Derived.Test.YtgndgkjefgjamaaGreatZ03
import Derived.Test.YtgndgkjefgjamaaGreatZ04
import Derived.Test.YtgndgkjefgjamaaGreatZ05
import Derived.Test.YtgndgkjefgjamaaGreatZ06
import Derived.Test.YtgndgkjefgjamaaGreatZ07
import Derived.Test.YtgndgkjefgjamaaGreatZ08
import Derived.Test.YtgndgkjefgjamaaGreatZ09
import Derived.Test.YtgndgkjefgjamaaGreatZ10
import Derived.Test.YtgndgkjefgjamaaGreatZ11
import Derived.Test.YtgndgkjefgjamaaGreatZ12
import Derived.Test.YtgndgkjefgjamaaGreatZ13
import Derived.Test.YtgndgkjefgjamaaGreatZ18
import Derived.Test.YtgndgkjefgjamaaGreatZ21
import Derived.Test.YtgndgkjefgjamaaGreatZ22
set_option linter.unusedVariables false
set_option linter.unusedSimpArgs false
set_option linter.unusedSectionVars false
set_option linter.unnecessarySimpa false
namespace Go.Proofs.YtgndgkjefgjamaaGreat
open Go.RowKit Go.ChangeShapes Go.WideShapes Go.ChangeAt

section
variable {P : Program} {t e : TypeId} {α β : Type} {E : Enc α} {F : Enc β}
end
section
variable {P : Program} {t e : TypeId} {α : Type} {E : Enc α} {H : Type} {enc : TypeId × Value → H} {W : World} {base b0 : Nat} {spare : Nat → Bool} {held : Bool} {r : Reach} {v : Value} {d : DataW H} {p : List MemPlace}
theorem arg_slice (ht : P.underlying t = some (.slice e)) (ho : Opens P t (encSl E)) (hv : Value.okWide P W r b0 t v) (h : DataW.Trod enc P W base spare held t v d p) :
    ∃ A c l, v = .slice A l.length c ∧ l.length ≤ c ∧ c ≤ maxLen ∧ SlAt E W (Bl W.heap.size) A l := by
  obtain ⟨A, n, c, rfl⟩ := okWide_slice ht hv
  obtain ⟨fuel, hf⟩ := h
  obtain ⟨l, A', c', he, h1, h2, h3⟩ := ho.2 _ _ _ _ _ _ _ _ _ hf
  simp [Value.cells] at he
  obtain ⟨rfl, rfl, rfl⟩ := he
  exact ⟨A, c, l, rfl, h1, h2, h3⟩
end
section
variable {H : Type} {enc : TypeId × Value → H} {P : Program}
end
end Go.Proofs.YtgndgkjefgjamaaGreat
namespace Go.Proofs.YtgndgkjefgjamaaGreat

def cTakE (c : Cls) (n t : Int) : Int := if clE c ≠ 0 then clE c else takeE c.1 n t
def cTak (c : Cls) (n t : Int) : Cls := if cTakE c n t = 0 then (takeS c.1 n t, c.2) else zCls
end Go.Proofs.YtgndgkjefgjamaaGreat
namespace Go.Proofs.YtgndgkjefgjamaaGreat
open Go.RowKit Go.Shelf
attribute [local go_sem] Oper.semAt_some

section
variable {w : World} {g k b : Nat} {x0 x1 x2 x3 x4 x5 x6 x7 : Int}
end
end Go.Proofs.YtgndgkjefgjamaaGreat

namespace Go.Proofs.YtgndgkjefgjamaaGreat
open Go.RowKit Go.Shelf
attribute [local go_sem] Oper.semAt_some

end Go.Proofs.YtgndgkjefgjamaaGreat

namespace Go.Proofs.YtgndgkjefgjamaaGreat
open Go.RowKit Go.Shelf
attribute [local go_sem] Oper.semAt_some

theorem last_at {l : List Snp} {j : Nat} (h : l.length = j + 1) : lastN l = (l[j]'(by omega)).1 ∧ lastT l = (l[j]'(by omega)).2.1 := by
  have h1 := lastN_take (l := l) (k := j) (by omega)
  have h2 : l.take (j + 1) = l := by rw [← h, List.take_length]
  rw [h2] at h1
  exact h1
set_option maxHeartbeats 4000000 in
set_option maxRecDepth 100000 in
theorem refTake_any (A A2 : Option Addr) (c c2 n m : Nat) (im : Img) (l : List Snp) (num tm : Int) (w : World) (hn : im.length = n) (hm : l.length = m) (h1 : SlAt (encSl encSec) w (Bl w.heap.size) A im) (h2 : SlAt encSnp w (Bl w.heap.size) A2 l) (hL : SnLim im l) (hi : I64 num ∧ I64 tm) :
    Calls Tryz.prog 87 #[.agg #[.slice A n c, .slice A2 m c2], .int .i64 num, .int .i64 tm] w (SnRetE (takeS (im, l) num tm) (takeE (im, l) num tm) w) := by
  subst hn hm
  have H1 : Hid (∀ w', Below w.heap.size w w' → SlAt (encSl encSec) w' (Bl w.heap.size) A im) := fun w' hb => h1.below hb
  have H2 : Hid (∀ w', Below w.heap.size w w' → SlAt encSnp w' (Bl w.heap.size) A2 l) := fun w' hb => h2.below hb
  have HLM := Lib.hid hL
  have hl1 := hL.ims
  have hl2 := hL.its
  have hnum := Lib.hid hi.1
  have htm := Lib.hid hi.2
  clear h1 h2 hL hi
  obtain ⟨n0, hn0⟩ : ∃ n0, w.heap.size = n0 := ⟨_, rfl⟩
  obtain ⟨W0, hW0⟩ : ∃ W0, (w.alloc (.cells #[.slice A im.length c, .slice A2 l.length c2] 26)).alloc (.cells #[.slice none 0 0, .slice none 0 0] 26) = W0 := ⟨_, rfl⟩
  have hB0 : Below n0 w W0 := by rw [← hW0, ← hn0]; exact ext_alloc (ext_alloc (Below.refl _ _))
  have hs0 : n0 + 1 < W0.heap.size := by rw [← hW0, ← hn0]; simp
  have hr0 : W0.heap[n0]? = some (.cells #[.slice A im.length c, .slice A2 l.length c2] 26 (0, 0)) := by rw [← hW0, ← hn0]; exact (Below.heap_alloc _ _ _ (by simp)).trans (heap_alloc_new _ _)
  have hrz0 : W0.heap[n0 + 1]? = some (.cells #[.slice none 0 0, .slice none 0 0] 26 (0, 0)) := by rw [← hW0, ← hn0]; exact heap_new2 _ _ _
  have hBL : Hid (∀ (W : World) g, Below n0 w W → Bl w.heap.size g → Bl W.heap.size g) := fun W g hb hg => by have := hb.size; have h5 : g < w.heap.size := hg; show g < W.heap.size; omega
  obtain ⟨r, hr⟩ : ∃ r, Hid (snE (im, l) = r) := ⟨_, rfl⟩
  have HCK := Lib.hid (refSnCheck_any A A2 c c2 im.length l.length im l r W0 rfl rfl hr.out ((H1.out W0 (by rw [hn0]; exact hB0)).more (fun g hg => hBL.out W0 g hB0 hg)) ((H2.out W0 (by rw [hn0]; exact hB0)).more (fun g hg => hBL.out W0 g hB0 hg)) hl1 (by omega))
  obtain ⟨c0, c1, _⟩ := blk2 hr0
  go_enter Tryz.func87, Tryz.ntmps87
  go_wp2_with fail
  refine HCK.out.mono ?_
  rintro e w5 ⟨rfl, hb1⟩
  have hbw3 : Below n0 w w5 := hB0.trans (hb1.mono (by omega))
  have hz1 := hb1.size
  have hrp := (hb1.block n0 (by omega)).trans hr0
  have hrz3 := (hb1.block (n0 + 1) (by omega)).trans hrz0
  clear HCK hW0 c0 c1 hr0 hrz0
  by_cases hx0 : r = 0
  case neg =>
    have hx0' : (r != 0) = true := by simp [hx0]
    have hE : Hid (takeE (im, l) num tm = r) := by rw [Hid, takeE, hr.out, if_pos hx0]
    have hS : Hid (takeS (im, l) num tm = zSns) := by rw [Hid, takeS, if_neg (by rw [hE.out]; exact hx0)]
    obtain ⟨q0, q1, qf⟩ := blk2 hrz3
    clear hx0
    go_wp2_with fail
    have hz := blk2_set hrz3 (.slice none 0 0) (.slice none 0 0)
    have hbe := ((hbw3.setCell (p := ⟨n0 + 1, 0, none⟩) (by show n0 ≤ n0 + 1; omega) (.slice none 0 0)).setCell (p := ⟨n0 + 1, 1, none⟩) (by show n0 ≤ n0 + 1; omega) (.slice none 0 0))
    have hse := (SnRet.zero (w := (w5.setCell ⟨n0 + 1, 0, none⟩ (.slice none 0 0)).setCell ⟨n0 + 1, 1, none⟩ (.slice none 0 0)) (lo := n0) (by simp [World.setCell]; omega))
    change bodyPost _ _ _ _ _ ((w5.setCell ⟨(n0 + 1), 0, none⟩ (.slice none 0 0)).setCell ⟨(n0 + 1), 1, none⟩ (.slice none 0 0))
    generalize (w5.setCell ⟨(n0 + 1), 0, none⟩ (.slice none 0 0)).setCell ⟨(n0 + 1), 1, none⟩ (.slice none 0 0) = W3 at hz hbe hse ⊢
    obtain ⟨z0, z1, _⟩ := blk2 hz
    refine bodyPost_ret (v := .tuple #[.agg #[(.slice none 0 0), (.slice none 0 0)], .int .i64 r]) ?_ rfl ?_
    · simp [results, Tryz.results87, Tryz.f87, go_sem, z0, z1]
    rw [hE.out, hS.out]
    exact ⟨none, 0, none, 0, n0, rfl, by rw [hn0]; exact hse, by rw [hn0]; exact hbe⟩
  have hx0' : (r != 0) = false := by simp [hx0]
  have HOK : Hid (snE (im, l) = 0) := by rw [Hid, hr.out, hx0]
  have hTE : Hid (takeE (im, l) num tm = if inT num = false then 2 else if num ≤ lastN l then 8 else if inT tm = false ∨ tm < lastT l then 24 else if 1024 ≤ l.length then 11 else 0) := by rw [Hid, takeE, HOK.out, if_neg (by decide)]
  clear hx0 hr
  obtain ⟨c0, c1, _⟩ := blk2 hrp
  by_cases e1 : num < 0
  · have hE : Hid (takeE (im, l) num tm = 2) := (by rw [Hid, hTE.out, if_pos (by simp [inT]; omega)])
    have hS : Hid (takeS (im, l) num tm = zSns) := by rw [Hid, takeS, if_neg (by rw [hE.out]; decide)]
    obtain ⟨q0, q1, qf⟩ := blk2 hrz3
    go_wp2_with fail
    have hz := blk2_set hrz3 (.slice none 0 0) (.slice none 0 0)
    have hbe := ((hbw3.setCell (p := ⟨n0 + 1, 0, none⟩) (by show n0 ≤ n0 + 1; omega) (.slice none 0 0)).setCell (p := ⟨n0 + 1, 1, none⟩) (by show n0 ≤ n0 + 1; omega) (.slice none 0 0))
    have hse := (SnRet.zero (w := (w5.setCell ⟨n0 + 1, 0, none⟩ (.slice none 0 0)).setCell ⟨n0 + 1, 1, none⟩ (.slice none 0 0)) (lo := n0) (by simp [World.setCell]; omega))
    change bodyPost _ _ _ _ _ ((w5.setCell ⟨(n0 + 1), 0, none⟩ (.slice none 0 0)).setCell ⟨(n0 + 1), 1, none⟩ (.slice none 0 0))
    generalize (w5.setCell ⟨(n0 + 1), 0, none⟩ (.slice none 0 0)).setCell ⟨(n0 + 1), 1, none⟩ (.slice none 0 0) = W3 at hz hbe hse ⊢
    obtain ⟨z0, z1, _⟩ := blk2 hz
    refine bodyPost_ret (v := .tuple #[.agg #[(.slice none 0 0), (.slice none 0 0)], .int .i64 2]) ?_ rfl ?_
    · simp [results, Tryz.results87, Tryz.f87, go_sem, z0, z1]
    rw [hE.out, hS.out]
    exact ⟨none, 0, none, 0, n0, rfl, by rw [hn0]; exact hse, by rw [hn0]; exact hbe⟩
  by_cases e2 : 1073741824 < num
  · have hE : Hid (takeE (im, l) num tm = 2) := (by rw [Hid, hTE.out, if_pos (by simp [inT]; omega)])
    have hS : Hid (takeS (im, l) num tm = zSns) := by rw [Hid, takeS, if_neg (by rw [hE.out]; decide)]
    obtain ⟨q0, q1, qf⟩ := blk2 hrz3
    go_wp2_with fail
    have hz := blk2_set hrz3 (.slice none 0 0) (.slice none 0 0)
    have hbe := ((hbw3.setCell (p := ⟨n0 + 1, 0, none⟩) (by show n0 ≤ n0 + 1; omega) (.slice none 0 0)).setCell (p := ⟨n0 + 1, 1, none⟩) (by show n0 ≤ n0 + 1; omega) (.slice none 0 0))
    have hse := (SnRet.zero (w := (w5.setCell ⟨n0 + 1, 0, none⟩ (.slice none 0 0)).setCell ⟨n0 + 1, 1, none⟩ (.slice none 0 0)) (lo := n0) (by simp [World.setCell]; omega))
    change bodyPost _ _ _ _ _ ((w5.setCell ⟨(n0 + 1), 0, none⟩ (.slice none 0 0)).setCell ⟨(n0 + 1), 1, none⟩ (.slice none 0 0))
    generalize (w5.setCell ⟨(n0 + 1), 0, none⟩ (.slice none 0 0)).setCell ⟨(n0 + 1), 1, none⟩ (.slice none 0 0) = W3 at hz hbe hse ⊢
    obtain ⟨z0, z1, _⟩ := blk2 hz
    refine bodyPost_ret (v := .tuple #[.agg #[(.slice none 0 0), (.slice none 0 0)], .int .i64 2]) ?_ rfl ?_
    · simp [results, Tryz.results87, Tryz.f87, go_sem, z0, z1]
    rw [hE.out, hS.out]
    exact ⟨none, 0, none, 0, n0, rfl, by rw [hn0]; exact hse, by rw [hn0]; exact hbe⟩
  have hn1 : inT num = true := by simp [inT]; omega
  have HCP := Lib.hid (refCopy36_any A A2 c c2 im.length l.length im l w5 rfl rfl ((H1.out w5 (by rw [hn0]; exact hbw3)).more (fun g hg => hBL.out w5 g hbw3 hg)) ((H2.out w5 (by rw [hn0]; exact hbw3)).more (fun g hg => hBL.out w5 g hbw3 hg)) HLM.out (snE_full HOK.out))
  have H2w := H2.out w5 (by rw [hn0]; exact hbw3)
  by_cases hpos : (0 : Int) < l.length
  · have hjj : ∃ j : Nat, Hid (l.length = j + 1) := ⟨l.length - 1, by show l.length = _; omega⟩
    obtain ⟨j, hj⟩ := hjj
    have hlast := last_at hj.out
    have hjl : j < l.length := by rw [hj.out]; omega
    obtain ⟨b, off, D0, d0, rfl, hb, y0, y1, _, _, _, _, _, _⟩ := H2w.snp hjl
    obtain ⟨ln, hln⟩ : ∃ x, (l[j]'hjl).1 = x := ⟨_, rfl⟩
    obtain ⟨lt, hlt⟩ : ∃ x, (l[j]'hjl).2.1 = x := ⟨_, rfl⟩
    rw [hln] at y0
    rw [hlt] at y1
    have h1 : lastN l = ln := hlast.1.trans hln
    have h2 : lastT l = lt := hlast.2.trans hlt
    rw [h1, h2] at hTE
    have e5 : (l.length : Int) - 1 = j := by have := hj.out; omega
    have hji : (j : Int) < l.length := by omega
    clear hlast h1 h2 hln hlt
    by_cases n1 : num ≤ ln
    · have hE : Hid (takeE (im, l) num tm = 8) := (by rw [Hid, hTE.out, if_neg (by simp [hn1]), if_pos n1])
      have hS : Hid (takeS (im, l) num tm = zSns) := by rw [Hid, takeS, if_neg (by rw [hE.out]; decide)]
      obtain ⟨q0, q1, qf⟩ := blk2 hrz3
      go_wp2_with fail
      have hz := blk2_set hrz3 (.slice none 0 0) (.slice none 0 0)
      have hbe := ((hbw3.setCell (p := ⟨n0 + 1, 0, none⟩) (by show n0 ≤ n0 + 1; omega) (.slice none 0 0)).setCell (p := ⟨n0 + 1, 1, none⟩) (by show n0 ≤ n0 + 1; omega) (.slice none 0 0))
      have hse := (SnRet.zero (w := (w5.setCell ⟨n0 + 1, 0, none⟩ (.slice none 0 0)).setCell ⟨n0 + 1, 1, none⟩ (.slice none 0 0)) (lo := n0) (by simp [World.setCell]; omega))
      change bodyPost _ _ _ _ _ ((w5.setCell ⟨(n0 + 1), 0, none⟩ (.slice none 0 0)).setCell ⟨(n0 + 1), 1, none⟩ (.slice none 0 0))
      generalize (w5.setCell ⟨(n0 + 1), 0, none⟩ (.slice none 0 0)).setCell ⟨(n0 + 1), 1, none⟩ (.slice none 0 0) = W3 at hz hbe hse ⊢
      obtain ⟨z0, z1, _⟩ := blk2 hz
      refine bodyPost_ret (v := .tuple #[.agg #[(.slice none 0 0), (.slice none 0 0)], .int .i64 8]) ?_ rfl ?_
      · simp [results, Tryz.results87, Tryz.f87, go_sem, z0, z1]
      rw [hE.out, hS.out]
      exact ⟨none, 0, none, 0, n0, rfl, by rw [hn0]; exact hse, by rw [hn0]; exact hbe⟩
    by_cases t1 : tm < 0
    · have hE : Hid (takeE (im, l) num tm = 24) := (by rw [Hid, hTE.out, if_neg (by simp [hn1]), if_neg (by omega), if_pos (Or.inl (by simp [inT]; omega))])
      have hS : Hid (takeS (im, l) num tm = zSns) := by rw [Hid, takeS, if_neg (by rw [hE.out]; decide)]
      obtain ⟨q0, q1, qf⟩ := blk2 hrz3
      go_wp2_with fail
      have hz := blk2_set hrz3 (.slice none 0 0) (.slice none 0 0)
      have hbe := ((hbw3.setCell (p := ⟨n0 + 1, 0, none⟩) (by show n0 ≤ n0 + 1; omega) (.slice none 0 0)).setCell (p := ⟨n0 + 1, 1, none⟩) (by show n0 ≤ n0 + 1; omega) (.slice none 0 0))
      have hse := (SnRet.zero (w := (w5.setCell ⟨n0 + 1, 0, none⟩ (.slice none 0 0)).setCell ⟨n0 + 1, 1, none⟩ (.slice none 0 0)) (lo := n0) (by simp [World.setCell]; omega))
      change bodyPost _ _ _ _ _ ((w5.setCell ⟨(n0 + 1), 0, none⟩ (.slice none 0 0)).setCell ⟨(n0 + 1), 1, none⟩ (.slice none 0 0))
      generalize (w5.setCell ⟨(n0 + 1), 0, none⟩ (.slice none 0 0)).setCell ⟨(n0 + 1), 1, none⟩ (.slice none 0 0) = W3 at hz hbe hse ⊢
      obtain ⟨z0, z1, _⟩ := blk2 hz
      refine bodyPost_ret (v := .tuple #[.agg #[(.slice none 0 0), (.slice none 0 0)], .int .i64 24]) ?_ rfl ?_
      · simp [results, Tryz.results87, Tryz.f87, go_sem, z0, z1]
      rw [hE.out, hS.out]
      exact ⟨none, 0, none, 0, n0, rfl, by rw [hn0]; exact hse, by rw [hn0]; exact hbe⟩
    by_cases t2 : 1073741824 < tm
    · have hE : Hid (takeE (im, l) num tm = 24) := (by rw [Hid, hTE.out, if_neg (by simp [hn1]), if_neg (by omega), if_pos (Or.inl (by simp [inT]; omega))])
      have hS : Hid (takeS (im, l) num tm = zSns) := by rw [Hid, takeS, if_neg (by rw [hE.out]; decide)]
      obtain ⟨q0, q1, qf⟩ := blk2 hrz3
      go_wp2_with fail
      have hz := blk2_set hrz3 (.slice none 0 0) (.slice none 0 0)
      have hbe := ((hbw3.setCell (p := ⟨n0 + 1, 0, none⟩) (by show n0 ≤ n0 + 1; omega) (.slice none 0 0)).setCell (p := ⟨n0 + 1, 1, none⟩) (by show n0 ≤ n0 + 1; omega) (.slice none 0 0))
      have hse := (SnRet.zero (w := (w5.setCell ⟨n0 + 1, 0, none⟩ (.slice none 0 0)).setCell ⟨n0 + 1, 1, none⟩ (.slice none 0 0)) (lo := n0) (by simp [World.setCell]; omega))
      change bodyPost _ _ _ _ _ ((w5.setCell ⟨(n0 + 1), 0, none⟩ (.slice none 0 0)).setCell ⟨(n0 + 1), 1, none⟩ (.slice none 0 0))
      generalize (w5.setCell ⟨(n0 + 1), 0, none⟩ (.slice none 0 0)).setCell ⟨(n0 + 1), 1, none⟩ (.slice none 0 0) = W3 at hz hbe hse ⊢
      obtain ⟨z0, z1, _⟩ := blk2 hz
      refine bodyPost_ret (v := .tuple #[.agg #[(.slice none 0 0), (.slice none 0 0)], .int .i64 24]) ?_ rfl ?_
      · simp [results, Tryz.results87, Tryz.f87, go_sem, z0, z1]
      rw [hE.out, hS.out]
      exact ⟨none, 0, none, 0, n0, rfl, by rw [hn0]; exact hse, by rw [hn0]; exact hbe⟩
    have hn2 : inT tm = true := by simp [inT]; omega
    by_cases t3 : tm < lt
    · have hE : Hid (takeE (im, l) num tm = 24) := (by rw [Hid, hTE.out, if_neg (by simp [hn1]), if_neg (by omega), if_pos (Or.inr (by omega))])
      have hS : Hid (takeS (im, l) num tm = zSns) := by rw [Hid, takeS, if_neg (by rw [hE.out]; decide)]
      obtain ⟨q0, q1, qf⟩ := blk2 hrz3
      go_wp2_with fail
      have hz := blk2_set hrz3 (.slice none 0 0) (.slice none 0 0)
      have hbe := ((hbw3.setCell (p := ⟨n0 + 1, 0, none⟩) (by show n0 ≤ n0 + 1; omega) (.slice none 0 0)).setCell (p := ⟨n0 + 1, 1, none⟩) (by show n0 ≤ n0 + 1; omega) (.slice none 0 0))
      have hse := (SnRet.zero (w := (w5.setCell ⟨n0 + 1, 0, none⟩ (.slice none 0 0)).setCell ⟨n0 + 1, 1, none⟩ (.slice none 0 0)) (lo := n0) (by simp [World.setCell]; omega))
      change bodyPost _ _ _ _ _ ((w5.setCell ⟨(n0 + 1), 0, none⟩ (.slice none 0 0)).setCell ⟨(n0 + 1), 1, none⟩ (.slice none 0 0))
      generalize (w5.setCell ⟨(n0 + 1), 0, none⟩ (.slice none 0 0)).setCell ⟨(n0 + 1), 1, none⟩ (.slice none 0 0) = W3 at hz hbe hse ⊢
      obtain ⟨z0, z1, _⟩ := blk2 hz
      refine bodyPost_ret (v := .tuple #[.agg #[(.slice none 0 0), (.slice none 0 0)], .int .i64 24]) ?_ rfl ?_
      · simp [results, Tryz.results87, Tryz.f87, go_sem, z0, z1]
      rw [hE.out, hS.out]
      exact ⟨none, 0, none, 0, n0, rfl, by rw [hn0]; exact hse, by rw [hn0]; exact hbe⟩
    by_cases hfl : (1024 : Int) ≤ l.length
    · have hE : Hid (takeE (im, l) num tm = 11) := (by rw [Hid, hTE.out, if_neg (by simp [hn1]), if_neg n1, if_neg (by simp [hn2]; omega), if_pos (by omega)])
      have hS : Hid (takeS (im, l) num tm = zSns) := by rw [Hid, takeS, if_neg (by rw [hE.out]; decide)]
      obtain ⟨q0, q1, qf⟩ := blk2 hrz3
      go_wp2_with fail
      have hz := blk2_set hrz3 (.slice none 0 0) (.slice none 0 0)
      have hbe := ((hbw3.setCell (p := ⟨n0 + 1, 0, none⟩) (by show n0 ≤ n0 + 1; omega) (.slice none 0 0)).setCell (p := ⟨n0 + 1, 1, none⟩) (by show n0 ≤ n0 + 1; omega) (.slice none 0 0))
      have hse := (SnRet.zero (w := (w5.setCell ⟨n0 + 1, 0, none⟩ (.slice none 0 0)).setCell ⟨n0 + 1, 1, none⟩ (.slice none 0 0)) (lo := n0) (by simp [World.setCell]; omega))
      change bodyPost _ _ _ _ _ ((w5.setCell ⟨(n0 + 1), 0, none⟩ (.slice none 0 0)).setCell ⟨(n0 + 1), 1, none⟩ (.slice none 0 0))
      generalize (w5.setCell ⟨(n0 + 1), 0, none⟩ (.slice none 0 0)).setCell ⟨(n0 + 1), 1, none⟩ (.slice none 0 0) = W3 at hz hbe hse ⊢
      obtain ⟨z0, z1, _⟩ := blk2 hz
      refine bodyPost_ret (v := .tuple #[.agg #[(.slice none 0 0), (.slice none 0 0)], .int .i64 11]) ?_ rfl ?_
      · simp [results, Tryz.results87, Tryz.f87, go_sem, z0, z1]
      rw [hE.out, hS.out]
      exact ⟨none, 0, none, 0, n0, rfl, by rw [hn0]; exact hse, by rw [hn0]; exact hbe⟩
    have hE : Hid (takeE (im, l) num tm = 0) := by rw [Hid, hTE.out, if_neg (by simp [hn1]), if_neg n1, if_neg (by simp [hn2]; omega), if_neg (by omega)]
    have hS : Hid (takeS (im, l) num tm = (im, l ++ [(num, tm, [])])) := by rw [Hid, takeS, if_pos hE.out]
    go_upto_region 13 with (fail)
    clear e5 y0 y1 hji n1 t1 t2 t3
    go_wp2_with fail
    refine HCP.out.mono ?_
    rintro e w6 ⟨B, vc, D, dc, mid, rfl, hsn, hb6⟩
    clear HCP c0 c1
    go_upto_region 14 with (fail)
    obtain ⟨ob, hob⟩ : ∃ ob, w6.heap.size = ob := ⟨_, rfl⟩
    obtain ⟨w7, hw7⟩ : ∃ w7, w6.alloc (.cells #[.slice B im.length vc, .slice D l.length dc] 26) = w7 := ⟨_, rfl⟩
    rw [hw7, hob]
    have hb7 : Below w6.heap.size w6 w7 := by rw [← hw7]; exact ext_alloc (Below.refl _ _)
    have hr7 : w7.heap[ob]? = some (.cells #[.slice B im.length vc, .slice D l.length dc] 26 (0, 0)) := by rw [← hw7, ← hob]; exact heap_alloc_new _ _
    have hs7 : ob < w7.heap.size := (Array.getElem?_eq_some_iff.1 hr7).1
    have hz6 := hb6.size
    have hsn7 := hsn.below hb7
    obtain ⟨k1, k2, k3, k4, k5, k6⟩ := hsn
    have hO7 : Hid (OwnX (fun g => g = ob) encSnp w7 mid 158 (.slice D l.length dc) l) := (k6.var (X' := fun g => g = ob) (fun g hg => Or.inr (by omega))).below hb7
    have hO8 := Lib.hid (hO7.out.alloc (.cells #[.int .i64 num, .int .i64 tm, .slice none 0 0] 158))
    have hO8o := Lib.hid hO8.out.1
    have hlo := Lib.hid k6.lt
    have hHI := Lib.hid k5
    have HRD : Hid (encSnp.rd (w7.alloc (.cells #[.int .i64 num, .int .i64 tm, .slice none 0 0] 158)) (fun g => Nw mid (w7.alloc (.cells #[.int .i64 num, .int .i64 tm, .slice none 0 0] 158)).heap.size g ∧ ¬ (fun g => g = ob) g ∧ (Value.slice D l.length dc).ownBlock ≠ some g) [.int .i64 num, .int .i64 tm, .slice none 0 0] (num, tm, [])) := snp_mk (x := (num, tm, [])) ⟨hnum.out.1, hnum.out.2⟩ ⟨htm.out.1, htm.out.2⟩ (by simp) (by simp) SlAt.nil_
    have hrz7 : w7.heap[n0 + 1]? = some (.cells #[.slice none 0 0, .slice none 0 0] 26 (0, 0)) := (hb7.block _ (by omega)).trans ((hb6.block _ (by omega)).trans hrz3)
    have hbw7 : Below n0 w w7 := (hbw3.trans (hb6.mono (by omega))).trans (hb7.mono (by omega))
    obtain ⟨o0, o1, _⟩ := blk2 hr7
    have hz7 := hb7.size
    clear k5 k6 hw7 hsn7
    go_wp2_with (at_builtin; refine Hid.out ?_)
    change wpList _ _ _ _ _ _
    refine wpList_app1 (E := encSnp) tySnps rfl _ _ rfl rfl hO8o.out (num, tm, []) [.int .i64 num, .int .i64 tm, .slice none 0 0] rfl HRD.out (heap_alloc_new _ _) (fun _ h => h.1.2) (by simp; omega) (by unfold maxLen; omega) (by omega) ?_
    intro A9 c9 w9 hown9 hg9 hat9
    have hz9 := hg9.size
    rw [World.size_alloc] at hz9
    have hkeep9 : ∀ g, g < w7.heap.size → (Value.slice D l.length dc).ownBlock ≠ some g → w9.heap[g]? = w7.heap[g]? := fun g hg hne => (hg9.block g (by rw [World.size_alloc]; omega) (fun e => hne e.symm)).trans (Below.heap_alloc _ _ _ hg)
    have hro9 := (hkeep9 ob hs7 (fun e => by have := (hlo.out ob e).2; omega)).trans hr7
    have hrz9 := (hkeep9 (n0 + 1) (by omega) (fun e => by have := (hlo.out _ e).1; omega)).trans hrz7
    have hO9 : Hid (OwnX (fun g => g = ob) encSnp (w9.setCell ⟨ob, 1, none⟩ (.slice A9 (l.length + 1) c9)) mid 158 (.slice A9 (l.length + 1) c9) (l ++ [(num, tm, [])])) := (hO8.out.app hown9 hg9 hat9 (fun g hg => by rw [hg]; simp; omega)).set (p := ⟨ob, 1, none⟩) rfl _
    have hbw9 : Below n0 w (w9.setCell ⟨ob, 1, none⟩ (.slice A9 (l.length + 1) c9)) := ((hbw7.alloc (by omega) (.cells #[.int .i64 num, .int .i64 tm, .slice none 0 0] 158)).grown hg9 (by simp; omega) (fun g h => by have := (hlo.out g h).1; omega)).setCell (p := ⟨ob, 1, none⟩) (by show n0 ≤ ob; omega) _
    have hI9 : Hid (SlAt (encSl encSec) (w9.setCell ⟨ob, 1, none⟩ (.slice A9 (l.length + 1) c9)) (Nw w5.heap.size mid) B im) := hHI.out.blk (fun g hg => (heap_setCell_other _ _ _ _ (by have := hg.2; show g ≠ ob; omega)).trans ((hkeep9 g (by have := hg.2; omega) (fun e => by have := (hlo.out g e).1; have := hg.2; omega)).trans (hb7.block g (by have := hg.2; omega))))
    have hro10 := blk2_1 hro9 (.slice A9 (l.length + 1) c9)
    have hrz10 := (heap_setCell_other w9 ⟨ob, 1, none⟩ (n0 + 1) (.slice A9 (l.length + 1) c9) (by show n0 + 1 ≠ ob; omega)).trans hrz9
    have hz10 : mid ≤ (w9.setCell ⟨ob, 1, none⟩ (.slice A9 (l.length + 1) c9)).heap.size := by simp [World.setCell]; omega
    obtain ⟨_, o1, of⟩ := blk2 hro9
    clear hown9 hg9 hat9 hkeep9 HRD
    go_upto_region 15 with (fail)
    generalize w9.setCell ⟨ob, 1, none⟩ (.slice A9 (l.length + 1) c9) = w10 at hO9 hbw9 hI9 hro10 hrz10 hz10 ⊢
    clear o0 o1 of hro9 hrz9
    obtain ⟨o0, o1, _⟩ := blk2 hro10
    obtain ⟨q0, q1, qf⟩ := blk2 hrz10
    go_wp2_with fail
    have hz := blk2_set hrz10 (.slice B im.length vc) (.slice A9 (l.length + 1) c9)
    have hbe := ((hbw9.setCell (p := ⟨n0 + 1, 0, none⟩) (by show n0 ≤ n0 + 1; omega) (.slice B im.length vc)).setCell (p := ⟨n0 + 1, 1, none⟩) (by show n0 ≤ n0 + 1; omega) (.slice A9 (l.length + 1) c9))
    have hse := (((show SnRet im (l ++ [(num, tm, [])]) B vc A9 c9 mid w5.heap.size w10 from ⟨k1, k2, k3, hz10, hI9.out, by have := hO9.out.var (X' := fun _ => False) (fun g hg => hg.elim); simpa using this⟩).set (p := ⟨n0 + 1, 0, none⟩) (by show n0 + 1 < w5.heap.size; omega) (.slice B im.length vc)).set (p := ⟨n0 + 1, 1, none⟩) (by show n0 + 1 < w5.heap.size; omega) (.slice A9 (l.length + 1) c9))
    change bodyPost _ _ _ _ _ ((w10.setCell ⟨(n0 + 1), 0, none⟩ (.slice B im.length vc)).setCell ⟨(n0 + 1), 1, none⟩ (.slice A9 (l.length + 1) c9))
    generalize (w10.setCell ⟨(n0 + 1), 0, none⟩ (.slice B im.length vc)).setCell ⟨(n0 + 1), 1, none⟩ (.slice A9 (l.length + 1) c9) = W3 at hz hbe hse ⊢
    obtain ⟨z0, z1, _⟩ := blk2 hz
    refine bodyPost_ret (v := .tuple #[.agg #[(.slice B im.length vc), (.slice A9 (l.length + 1) c9)], .int .i64 0]) ?_ rfl ?_
    · simp [results, Tryz.results87, Tryz.f87, go_sem, z0, z1]
    rw [hE.out, hS.out]
    exact ⟨B, vc, A9, c9, mid, by simp, hse.low (by omega), by rw [hn0]; exact hbe⟩
  · have hnil : l = [] := List.eq_nil_of_length_eq_zero (by omega)
    have hlast : Hid (lastN l = -1 ∧ lastT l = 0) := by rw [hnil]; exact ⟨rfl, rfl⟩
    rw [hlast.out.1, hlast.out.2] at hTE
    have n1 : ¬ num ≤ -1 := by omega
    clear hnil
    by_cases t1 : tm < 0
    · have hE : Hid (takeE (im, l) num tm = 24) := (by rw [Hid, hTE.out, if_neg (by simp [hn1]), if_neg (by omega), if_pos (Or.inl (by simp [inT]; omega))])
      have hS : Hid (takeS (im, l) num tm = zSns) := by rw [Hid, takeS, if_neg (by rw [hE.out]; decide)]
      obtain ⟨q0, q1, qf⟩ := blk2 hrz3
      go_wp2_with fail
      have hz := blk2_set hrz3 (.slice none 0 0) (.slice none 0 0)
      have hbe := ((hbw3.setCell (p := ⟨n0 + 1, 0, none⟩) (by show n0 ≤ n0 + 1; omega) (.slice none 0 0)).setCell (p := ⟨n0 + 1, 1, none⟩) (by show n0 ≤ n0 + 1; omega) (.slice none 0 0))
      have hse := (SnRet.zero (w := (w5.setCell ⟨n0 + 1, 0, none⟩ (.slice none 0 0)).setCell ⟨n0 + 1, 1, none⟩ (.slice none 0 0)) (lo := n0) (by simp [World.setCell]; omega))
      change bodyPost _ _ _ _ _ ((w5.setCell ⟨(n0 + 1), 0, none⟩ (.slice none 0 0)).setCell ⟨(n0 + 1), 1, none⟩ (.slice none 0 0))
      generalize (w5.setCell ⟨(n0 + 1), 0, none⟩ (.slice none 0 0)).setCell ⟨(n0 + 1), 1, none⟩ (.slice none 0 0) = W3 at hz hbe hse ⊢
      obtain ⟨z0, z1, _⟩ := blk2 hz
      refine bodyPost_ret (v := .tuple #[.agg #[(.slice none 0 0), (.slice none 0 0)], .int .i64 24]) ?_ rfl ?_
      · simp [results, Tryz.results87, Tryz.f87, go_sem, z0, z1]
      rw [hE.out, hS.out]
      exact ⟨none, 0, none, 0, n0, rfl, by rw [hn0]; exact hse, by rw [hn0]; exact hbe⟩
    by_cases t2 : 1073741824 < tm
    · have hE : Hid (takeE (im, l) num tm = 24) := (by rw [Hid, hTE.out, if_neg (by simp [hn1]), if_neg (by omega), if_pos (Or.inl (by simp [inT]; omega))])
      have hS : Hid (takeS (im, l) num tm = zSns) := by rw [Hid, takeS, if_neg (by rw [hE.out]; decide)]
      obtain ⟨q0, q1, qf⟩ := blk2 hrz3
      go_wp2_with fail
      have hz := blk2_set hrz3 (.slice none 0 0) (.slice none 0 0)
      have hbe := ((hbw3.setCell (p := ⟨n0 + 1, 0, none⟩) (by show n0 ≤ n0 + 1; omega) (.slice none 0 0)).setCell (p := ⟨n0 + 1, 1, none⟩) (by show n0 ≤ n0 + 1; omega) (.slice none 0 0))
      have hse := (SnRet.zero (w := (w5.setCell ⟨n0 + 1, 0, none⟩ (.slice none 0 0)).setCell ⟨n0 + 1, 1, none⟩ (.slice none 0 0)) (lo := n0) (by simp [World.setCell]; omega))
      change bodyPost _ _ _ _ _ ((w5.setCell ⟨(n0 + 1), 0, none⟩ (.slice none 0 0)).setCell ⟨(n0 + 1), 1, none⟩ (.slice none 0 0))
      generalize (w5.setCell ⟨(n0 + 1), 0, none⟩ (.slice none 0 0)).setCell ⟨(n0 + 1), 1, none⟩ (.slice none 0 0) = W3 at hz hbe hse ⊢
      obtain ⟨z0, z1, _⟩ := blk2 hz
      refine bodyPost_ret (v := .tuple #[.agg #[(.slice none 0 0), (.slice none 0 0)], .int .i64 24]) ?_ rfl ?_
      · simp [results, Tryz.results87, Tryz.f87, go_sem, z0, z1]
      rw [hE.out, hS.out]
      exact ⟨none, 0, none, 0, n0, rfl, by rw [hn0]; exact hse, by rw [hn0]; exact hbe⟩
    have hn2 : inT tm = true := by simp [inT]; omega
    have t3 : ¬ tm < 0 := t1
    have hfl : ¬ (1024 : Int) ≤ l.length := by omega
    have hE : Hid (takeE (im, l) num tm = 0) := by rw [Hid, hTE.out, if_neg (by simp [hn1]), if_neg n1, if_neg (by simp [hn2]; omega), if_neg (by omega)]
    have hS : Hid (takeS (im, l) num tm = (im, l ++ [(num, tm, [])])) := by rw [Hid, takeS, if_pos hE.out]
    go_upto_region 13 with (fail)
    clear n1 t1 t2 t3
    go_wp2_with fail
    refine HCP.out.mono ?_
    rintro e w6 ⟨B, vc, D, dc, mid, rfl, hsn, hb6⟩
    clear HCP c0 c1
    go_upto_region 14 with (fail)
    obtain ⟨ob, hob⟩ : ∃ ob, w6.heap.size = ob := ⟨_, rfl⟩
    obtain ⟨w7, hw7⟩ : ∃ w7, w6.alloc (.cells #[.slice B im.length vc, .slice D l.length dc] 26) = w7 := ⟨_, rfl⟩
    rw [hw7, hob]
    have hb7 : Below w6.heap.size w6 w7 := by rw [← hw7]; exact ext_alloc (Below.refl _ _)
    have hr7 : w7.heap[ob]? = some (.cells #[.slice B im.length vc, .slice D l.length dc] 26 (0, 0)) := by rw [← hw7, ← hob]; exact heap_alloc_new _ _
    have hs7 : ob < w7.heap.size := (Array.getElem?_eq_some_iff.1 hr7).1
    have hz6 := hb6.size
    have hsn7 := hsn.below hb7
    obtain ⟨k1, k2, k3, k4, k5, k6⟩ := hsn
    have hO7 : Hid (OwnX (fun g => g = ob) encSnp w7 mid 158 (.slice D l.length dc) l) := (k6.var (X' := fun g => g = ob) (fun g hg => Or.inr (by omega))).below hb7
    have hO8 := Lib.hid (hO7.out.alloc (.cells #[.int .i64 num, .int .i64 tm, .slice none 0 0] 158))
    have hO8o := Lib.hid hO8.out.1
    have hlo := Lib.hid k6.lt
    have hHI := Lib.hid k5
    have HRD : Hid (encSnp.rd (w7.alloc (.cells #[.int .i64 num, .int .i64 tm, .slice none 0 0] 158)) (fun g => Nw mid (w7.alloc (.cells #[.int .i64 num, .int .i64 tm, .slice none 0 0] 158)).heap.size g ∧ ¬ (fun g => g = ob) g ∧ (Value.slice D l.length dc).ownBlock ≠ some g) [.int .i64 num, .int .i64 tm, .slice none 0 0] (num, tm, [])) := snp_mk (x := (num, tm, [])) ⟨hnum.out.1, hnum.out.2⟩ ⟨htm.out.1, htm.out.2⟩ (by simp) (by simp) SlAt.nil_
    have hrz7 : w7.heap[n0 + 1]? = some (.cells #[.slice none 0 0, .slice none 0 0] 26 (0, 0)) := (hb7.block _ (by omega)).trans ((hb6.block _ (by omega)).trans hrz3)
    have hbw7 : Below n0 w w7 := (hbw3.trans (hb6.mono (by omega))).trans (hb7.mono (by omega))
    obtain ⟨o0, o1, _⟩ := blk2 hr7
    have hz7 := hb7.size
    clear k5 k6 hw7 hsn7
    go_wp2_with (at_builtin; refine Hid.out ?_)
    change wpList _ _ _ _ _ _
    refine wpList_app1 (E := encSnp) tySnps rfl _ _ rfl rfl hO8o.out (num, tm, []) [.int .i64 num, .int .i64 tm, .slice none 0 0] rfl HRD.out (heap_alloc_new _ _) (fun _ h => h.1.2) (by simp; omega) (by unfold maxLen; omega) (by omega) ?_
    intro A9 c9 w9 hown9 hg9 hat9
    have hz9 := hg9.size
    rw [World.size_alloc] at hz9
    have hkeep9 : ∀ g, g < w7.heap.size → (Value.slice D l.length dc).ownBlock ≠ some g → w9.heap[g]? = w7.heap[g]? := fun g hg hne => (hg9.block g (by rw [World.size_alloc]; omega) (fun e => hne e.symm)).trans (Below.heap_alloc _ _ _ hg)
    have hro9 := (hkeep9 ob hs7 (fun e => by have := (hlo.out ob e).2; omega)).trans hr7
    have hrz9 := (hkeep9 (n0 + 1) (by omega) (fun e => by have := (hlo.out _ e).1; omega)).trans hrz7
    have hO9 : Hid (OwnX (fun g => g = ob) encSnp (w9.setCell ⟨ob, 1, none⟩ (.slice A9 (l.length + 1) c9)) mid 158 (.slice A9 (l.length + 1) c9) (l ++ [(num, tm, [])])) := (hO8.out.app hown9 hg9 hat9 (fun g hg => by rw [hg]; simp; omega)).set (p := ⟨ob, 1, none⟩) rfl _
    have hbw9 : Below n0 w (w9.setCell ⟨ob, 1, none⟩ (.slice A9 (l.length + 1) c9)) := ((hbw7.alloc (by omega) (.cells #[.int .i64 num, .int .i64 tm, .slice none 0 0] 158)).grown hg9 (by simp; omega) (fun g h => by have := (hlo.out g h).1; omega)).setCell (p := ⟨ob, 1, none⟩) (by show n0 ≤ ob; omega) _
    have hI9 : Hid (SlAt (encSl encSec) (w9.setCell ⟨ob, 1, none⟩ (.slice A9 (l.length + 1) c9)) (Nw w5.heap.size mid) B im) := hHI.out.blk (fun g hg => (heap_setCell_other _ _ _ _ (by have := hg.2; show g ≠ ob; omega)).trans ((hkeep9 g (by have := hg.2; omega) (fun e => by have := (hlo.out g e).1; have := hg.2; omega)).trans (hb7.block g (by have := hg.2; omega))))
    have hro10 := blk2_1 hro9 (.slice A9 (l.length + 1) c9)
    have hrz10 := (heap_setCell_other w9 ⟨ob, 1, none⟩ (n0 + 1) (.slice A9 (l.length + 1) c9) (by show n0 + 1 ≠ ob; omega)).trans hrz9
    have hz10 : mid ≤ (w9.setCell ⟨ob, 1, none⟩ (.slice A9 (l.length + 1) c9)).heap.size := by simp [World.setCell]; omega
    obtain ⟨_, o1, of⟩ := blk2 hro9
    clear hown9 hg9 hat9 hkeep9 HRD
    go_upto_region 15 with (fail)
    generalize w9.setCell ⟨ob, 1, none⟩ (.slice A9 (l.length + 1) c9) = w10 at hO9 hbw9 hI9 hro10 hrz10 hz10 ⊢
    clear o0 o1 of hro9 hrz9
    obtain ⟨o0, o1, _⟩ := blk2 hro10
    obtain ⟨q0, q1, qf⟩ := blk2 hrz10
    go_wp2_with fail
    have hz := blk2_set hrz10 (.slice B im.length vc) (.slice A9 (l.length + 1) c9)
    have hbe := ((hbw9.setCell (p := ⟨n0 + 1, 0, none⟩) (by show n0 ≤ n0 + 1; omega) (.slice B im.length vc)).setCell (p := ⟨n0 + 1, 1, none⟩) (by show n0 ≤ n0 + 1; omega) (.slice A9 (l.length + 1) c9))
    have hse := (((show SnRet im (l ++ [(num, tm, [])]) B vc A9 c9 mid w5.heap.size w10 from ⟨k1, k2, k3, hz10, hI9.out, by have := hO9.out.var (X' := fun _ => False) (fun g hg => hg.elim); simpa using this⟩).set (p := ⟨n0 + 1, 0, none⟩) (by show n0 + 1 < w5.heap.size; omega) (.slice B im.length vc)).set (p := ⟨n0 + 1, 1, none⟩) (by show n0 + 1 < w5.heap.size; omega) (.slice A9 (l.length + 1) c9))
    change bodyPost _ _ _ _ _ ((w10.setCell ⟨(n0 + 1), 0, none⟩ (.slice B im.length vc)).setCell ⟨(n0 + 1), 1, none⟩ (.slice A9 (l.length + 1) c9))
    generalize (w10.setCell ⟨(n0 + 1), 0, none⟩ (.slice B im.length vc)).setCell ⟨(n0 + 1), 1, none⟩ (.slice A9 (l.length + 1) c9) = W3 at hz hbe hse ⊢
    obtain ⟨z0, z1, _⟩ := blk2 hz
    refine bodyPost_ret (v := .tuple #[.agg #[(.slice B im.length vc), (.slice A9 (l.length + 1) c9)], .int .i64 0]) ?_ rfl ?_
    · simp [results, Tryz.results87, Tryz.f87, go_sem, z0, z1]
    rw [hE.out, hS.out]
    exact ⟨B, vc, A9, c9, mid, by simp, hse.low (by omega), by rw [hn0]; exact hbe⟩
end Go.Proofs.YtgndgkjefgjamaaGreat

namespace Go.Proofs.YtgndgkjefgjamaaGreat
open Go.RowKit Go.Shelf
attribute [local go_sem] Oper.semAt_some

def contD (im : Img) (x : Wr) (j : Nat) : Wr := (x.1, x.2.1, ((contW im x).2.2).take j ++ x.2.2.drop j)
theorem contL_app (im : Img) (l m : List Wr) : contL im (l ++ m) = contL im l ++ contL im m := List.map_append ..
theorem kept_zero {im : Img} {l : List Wr} {k : Nat} (hk : k < l.length) : (contL im (l.take k) ++ l.drop k).set k (contD im l[k] 0) = contL im (l.take k) ++ l.drop k := by
  have h1 : (contL im (l.take k)).length = k := by simp [contL]; omega
  rw [List.set_append_right _ _ (by omega), h1, Nat.sub_self, List.drop_eq_getElem_cons hk, List.set_cons_zero]
  have e : contD im l[k] 0 = l[k] := by simp [contD]
  rw [e]
theorem kept_step {im : Img} {l : List Wr} {k j : Nat} (hk : k < l.length) (hc : (contW im l[k]).2.2.length = l[k].2.2.length) (hj : j < l[k].2.2.length) : (contD im l[k] j).2.2.set j ((contW im l[k]).2.2[j]'(by omega)) = (contD im l[k] (j + 1)).2.2 := by
  unfold contD
  simp only
  have h2 : (((contW im l[k]).2.2).take j).length = j := by simp; omega
  rw [List.set_append_right _ _ (by omega), h2, Nat.sub_self, List.drop_eq_getElem_cons hj, List.set_cons_zero, List.take_succ_eq_append_getElem (by omega), List.append_assoc]
  rfl
theorem kept_end {im : Img} {l : List Wr} {k : Nat} (hk : k < l.length) (hc : (contW im l[k]).2.2.length = l[k].2.2.length) : (contL im (l.take k) ++ l.drop k).set k (contD im l[k] l[k].2.2.length) = contL im (l.take (k + 1)) ++ l.drop (k + 1) := by
  have h1 : (contL im (l.take k)).length = k := by simp [contL]; omega
  rw [List.set_append_right _ _ (by omega), h1, Nat.sub_self, List.drop_eq_getElem_cons hk, List.set_cons_zero, List.take_succ_eq_append_getElem hk, contL_app, List.append_assoc]
  congr 1
  have : contD im l[k] l[k].2.2.length = contW im l[k] := by
    unfold contD
    rw [List.drop_length, List.append_nil, ← hc, List.take_length]
    rfl
  rw [this]
  rfl
set_option maxHeartbeats 8000000 in
set_option maxRecDepth 100000 in
theorem refKept_any (A A2 : Option Addr) (c c2 n m : Nat) (im : Img) (l : List Wr) (w : World) (hn : im.length = n) (hm : l.length = m) (h1 : SlAt (encSl encSec) w (Bl w.heap.size) A im) (hl : n ≤ 100000) (h2 : SlAt encWr w (Bl w.heap.size) A2 l) (hl2 : m ≤ 100000) (hz : sizesN (lens im) = 0) (hf : ∀ x ∈ l, fitsN (lens im) x = 0) :
    Calls Tryz.prog 136 #[.slice A n c, .slice A2 m c2] w (WrsRet (contL im l) w) := by
  subst hn hm
  have H1 : Hid (∀ w', Below w.heap.size w w' → SlAt (encSl encSec) w' (Bl w.heap.size) A im) := fun w' hb => h1.below hb
  have hrg := Lib.hid (sizes_range hz)
  have HF := Lib.hid hf
  have HCW := Lib.hid (refCopyWrites_any A2 c2 l.length l w rfl h2 hl2 (fun x hx => ⟨(fits_ok hz (hf x hx)).2.2.1, by have := (fits_ok hz (hf x hx)).2.2.2; omega⟩))
  clear h1 h2 hf hz
  obtain ⟨n0, hn0⟩ : ∃ n0, w.heap.size = n0 := ⟨_, rfl⟩
  go_enter Tryz.func136, Tryz.ntmps136
  go_wp2_with fail
  refine HCW.out.mono ?_
  rintro e w1 ⟨B, vc, xs, rfl, ho, hb1⟩
  have HO := Lib.hid ho; clear ho HCW
  have hxl : Hid (xs.length = l.length) := HO.out.len
  have hll : Hid ((contL im l).length = l.length) := by simp [Hid, contL]
  go_wp2_with fail
  go_loopw [6] (fun i wr => ∃ k : Nat, k ≤ l.length ∧ i = .int .i64 k ∧ Below w.heap.size w wr ∧ Hid (WrsOwn wr w.heap.size B vc xs (contL im (l.take k) ++ l.drop k))) (fun i _ => l.length - (intOf i).toNat)
  case atStart => exact ⟨0, by omega, rfl, hb1, by simpa [Hid, contL] using HO.out⟩
  case round =>
    obtain ⟨wo, rfl⟩ : ∃ wo : World, wo = wr := ⟨_, rfl⟩
    obtain ⟨k, hk, rfl, hB, hown⟩ := hrel
    by_cases hlt : k < l.length
    · have hnn : (0 : Int) ≤ k := by omega
      have hki : (k : Int) < l.length := by omega
      have hfk := HF.out l[k] (List.getElem_mem hlt)
      obtain ⟨base, hbase⟩ : ∃ b, Hid (contL im (l.take k) ++ l.drop k = b) := ⟨_, rfl⟩
      have hbl : Hid (base.length = l.length) := by rw [← hbase.out, Hid]; simp [contL]; omega
      have h0 := kept_zero (im := im) hlt
      have hst := kept_step (im := im) (j := 0) hlt
      have hen := kept_end (im := im) hlt
      obtain ⟨y, hy⟩ : ∃ y, Hid (y = l[k]'hlt) := ⟨_, Lib.hid rfl⟩
      have hstep : Hid (∀ j, (hc : (contW im y).2.2.length = y.2.2.length) → (hj : j < y.2.2.length) → (contD im y j).2.2.set j ((contW im y).2.2[j]'(by omega)) = (contD im y (j + 1)).2.2) := by
        rw [hy.out]; exact fun j hc hj => kept_step hlt hc hj
      rw [← hy.out] at hfk h0 hen
      rw [hbase.out] at hown h0 hen
      clear hst
      obtain ⟨v, s, data⟩ := y
      obtain ⟨kv, sv, ev, es2, hkv, hdp, hsv⟩ := fits_img hfk
      simp only at ev es2 hdp hsv
      subst ev es2
      obtain ⟨row, hrow⟩ : ∃ r, Hid (r = im[kv]'hkv) := ⟨_, Lib.hid rfl⟩
      have hgd : im.getD kv [] = row := by rw [hrow.out, List.getD_eq_getElem?_getD, List.getElem?_eq_getElem hkv]; rfl
      rw [hgd] at hsv
      have hcw : Hid ((contW im ((kv : Int), (sv : Int), data)).2.2 = (row.drop sv).take data.length) := by
        rw [Hid]; unfold contW; simp only [Int.toNat_natCast]; rw [hgd]
      have hcl : Hid ((contW im ((kv : Int), (sv : Int), data)).2.2.length = data.length) := by rw [Hid, hcw.out]; simp; omega
      have hen2 := Lib.hid (hen hcl.out)
      have H0 := Lib.hid h0
      have hrl : (row.length : Int) ≤ 4096 := by
        have := (hrg.out.2 (lenI row) (List.mem_map.2 ⟨row, by rw [hrow.out]; exact List.getElem_mem hkv, rfl⟩)).2
        exact this
      have hkvi : (kv : Int) < im.length := by omega
      have hkv0 : (0 : Int) ≤ kv := by omega
      have hxk : k < xs.length := by rw [hxl.out]; exact hlt
      have hbk : k < base.length := by rw [hbl.out]; exact hlt
      clear hgd hen h0 hfk
      go_wp2_with fail
      go_loopw [7] (fun jj W => ∃ j : Nat, j ≤ data.length ∧ jj = .int .i64 j ∧ Below w.heap.size w W ∧ Hid (WrsOwn W w.heap.size B vc xs (base.set k (contD im ((kv : Int), (sv : Int), data) j)))) (fun jj _ => data.length - (intOf jj).toNat)
      case atStart => exact ⟨0, by omega, rfl, hB, by rw [Hid, H0.out]; exact hown.out⟩
      case round =>
        obtain ⟨W, rfl⟩ : ∃ W : World, W = wr := ⟨_, rfl⟩
        obtain ⟨j, hj, rfl, hBW, hownW⟩ := hrel
        have hHo := hownW.out
        have hbk2 : k < (base.set k (contD im ((kv : Int), (sv : Int), data) j)).length := by rw [List.length_set]; exact hbk
        have hrow1 := hHo.rows k hxk hbk2
        have hhd := hHo.heads k hxk hbk2
        simp only [List.getElem_set_self] at hrow1 hhd
        obtain ⟨g, cs, hBg, hgl1, hgl, _, hcell, _, hrd⟩ := hHo.outer.elem hxk
        subst hBg
        obtain ⟨x, hx⟩ : ∃ x, Hid (x = xs[k]'hxk) := ⟨_, Lib.hid rfl⟩
        rw [← hx.out] at hrow1 hhd hrd
        obtain ⟨v', s', rb, rn, rc⟩ := x
        obtain ⟨ev, es⟩ := hhd
        simp only [contD] at ev es
        subst ev es
        have hty := hrow1.ty
        simp only at hty
        obtain ⟨y1, y2, y3, y4, y5, _⟩ := hty
        have hdl : (contD im ((kv : Int), (sv : Int), data) j).2.2.length = data.length := by
          unfold contD; simp only; rw [List.length_append, List.length_take, List.length_drop, hcl.out]; omega
        rw [hdl] at y3 y4
        subst y3
        obtain ⟨rfl, _, _, _⟩ := hrd
        have c0 := hcell 0 _ rfl
        have c1 := hcell 1 _ rfl
        have c2' := hcell 2 _ rfl
        simp only [show encWB.size = 3 from rfl, Nat.add_zero] at c0 c1 c2'
        have hgrb : g < W.heap.size := hgl
        by_cases hjlt : j < data.length
        · obtain ⟨b1, off1, D1, dc1, rfl, hb1', z, hD1, _, _⟩ := (H1.out W hBW).sl hkv
          rw [← hrow.out] at z hD1
          have hsj : sv + j < row.length := by omega
          obtain ⟨b2, off2, x0, x1, x2, x3, x4, x5, x6, x7, rfl, hb2', hxe, hok, z0, z1, z2, z3, z4, z5, z6, z7⟩ := hD1.sec hsj
          have hcj : (contW im ((kv : Int), (sv : Int), data)).2.2[j]'(by rw [hcl.out]; exact hjlt) = [x0, x1, x2, x3, x4, x5, x6, x7] := by
            have : (contW im ((kv : Int), (sv : Int), data)).2.2[j]'(by rw [hcl.out]; exact hjlt) = row[sv + j]'hsj := by
              simp only [hcw.out]
              rw [List.getElem_take, List.getElem_drop]
            rw [this, hxe]
          rw [hxe] at hok
          have hsji : (sv : Int) + j < row.length := by omega
          have hsj0 : (0 : Int) ≤ (sv : Int) + j := by omega
          have hj0 : (0 : Int) ≤ j := by omega
          have hjd : (j : Int) < data.length := by omega
          obtain ⟨hc8, hfz⟩ := Own.cellSec hrow1 hdl (k := j) (by rw [hdl]; exact hjlt)
          obtain ⟨u0, d0⟩ := hc8 0 (by omega)
          obtain ⟨u1, d1⟩ := hc8 1 (by omega)
          obtain ⟨u2, d2⟩ := hc8 2 (by omega)
          obtain ⟨u3, d3⟩ := hc8 3 (by omega)
          obtain ⟨u4, d4⟩ := hc8 4 (by omega)
          obtain ⟨u5, d5⟩ := hc8 5 (by omega)
          obtain ⟨u6, d6⟩ := hc8 6 (by omega)
          obtain ⟨u7, d7⟩ := hc8 7 (by omega)
          simp only [Nat.add_zero] at d0
          have hst := Own.setSec hrow1 hdl (k := j) (by rw [hdl]; exact hjlt) hok
          have hST : Hid (RowOf (st8 W rb j x0 x1 x2 x3 x4 x5 x6 x7) w.heap.size (rb, data.length, rc) (contD im ((kv : Int), (sv : Int), data) (j + 1)).2.2) := by
            rw [Hid, ← hstep.out j hcl.out hjlt, hcj]
            exact hst
          have hfin : Hid (WrsOwn (st8 W rb j x0 x1 x2 x3 x4 x5 x6 x7) w.heap.size (some ⟨g, 0, none⟩) vc xs (base.set k (contD im ((kv : Int), (sv : Int), data) (j + 1)))) := by
            have h4 := hHo.put (w1 := st8 W rb j x0 x1 x2 x3 x4 x5 x6 x7) (row := (contD im ((kv : Int), (sv : Int), data) (j + 1)).2.2) hxk hbk2 (by rw [← hx.out]; exact hST.out) (by rw [← hx.out]; exact st8_grown)
            rw [List.set_set] at h4
            simp only [List.getElem_set_self] at h4
            exact h4
          clear hst hc8 hHo hcell hrow1 hST hdl hcj hbk2
          go_upto_region 8 with (fail)
          go_region
          obtain ⟨W5, hW5⟩ : ∃ W5, st8 W rb j x0 x1 x2 x3 x4 x5 x6 x7 = W5 := ⟨_, rfl⟩
          have hB5 : Below w.heap.size w W5 := by rw [← hW5]; exact st8_below hBW y1
          rw [hW5] at hfin
          have hW6 := hW5
          unfold st8 at hW6
          rw [hW6]
          clear hW5 hW6 d0 d1 d2 d3 d4 d5 d6 d7 z0 z1 z2 z3 z4 z5 z6 z7 c0 c1 c2' hfz z
          go_wp2
          go_roundw
          case rel => exact ⟨j + 1, hjlt, by go_num, hB5.drew, hfin.out.below (Below.refl _ _).drew⟩
          case measure => simp [intOf]; omega
        · have hjj : j = data.length := by omega
          subst hjj
          have hput : Hid (WrsOwn W w.heap.size (some ⟨g, 0, none⟩) vc xs (contL im (l.take (k + 1)) ++ l.drop (k + 1))) := by
            rw [Hid, ← hen2.out]; exact hHo
          clear hHo hcell hrow1
          go_wp2_with fail
          go_roundw
          case rel => exact ⟨k + 1, hlt, by go_num, hBW, hput.out⟩
          case measure => simp [intOf]; omega
    · have hkk : k = l.length := by omega
      subst hkk
      have ho := hown.out
      rw [List.take_length, List.drop_length, List.append_nil] at ho
      have HO2 := Lib.hid ho
      clear ho
      go_wp2
      go_ret
      exact ⟨B, vc, xs, by show Ending.returned (.slice B l.length vc) = Ending.returned (.slice B (contL im l).length vc); rw [hll.out], HO2.out, hB⟩
end Go.Proofs.YtgndgkjefgjamaaGreat

namespace Go.Proofs.YtgndgkjefgjamaaGreat
open Go.RowKit Go.Shelf
attribute [local go_sem] Oper.semAt_some

end Go.Proofs.YtgndgkjefgjamaaGreat

namespace Go.Proofs.YtgndgkjefgjamaaGreat
open Go.RowKit Go.Shelf
attribute [local go_sem] Oper.semAt_some

theorem setLast_at {l : List Snp} {j : Nat} (h : l.length = j + 1) (f : List Wr → List Wr) : setLast l f = l.set j ((l[j]'(by omega)).1, (l[j]'(by omega)).2.1, f (l[j]'(by omega)).2.2) := by
  obtain rfl : j = l.length - 1 := by omega
  exact setLast_set (by omega) f
theorem contL_len {im : Img} {ws : List Wr} : (contL im ws).length = ws.length := by simp [contL]
theorem contL_data {im : Img} {ws : List Wr} (hz : sizesN (lens im) = 0) (hf : ∀ x ∈ ws, fitsN (lens im) x = 0) : ∀ x ∈ contL im ws, 0 < x.2.2.length ∧ x.2.2.length ≤ 1000000 := by
  intro x hx
  obtain ⟨y, hy, rfl⟩ := List.mem_map.1 hx
  have h1 := fits_ok hz (hf y hy)
  have h2 : (contW im y).2.2.length = y.2.2.length := contW_len (hf y hy)
  rw [h2]
  exact ⟨h1.2.2.1, by have := h1.2.2.2; omega⟩
set_option maxHeartbeats 4000000 in
set_option maxRecDepth 100000 in
theorem refSnApply_any (A A2 A3 : Option Addr) (c c2 c3 n m p : Nat) (im : Img) (l : List Snp) (ws : List Wr) (w : World) (hn : im.length = n) (hm : l.length = m) (hp : ws.length = p) (h1 : SlAt (encSl encSec) w (Bl w.heap.size) A im) (h2 : SlAt encSnp w (Bl w.heap.size) A2 l) (h3 : SlAt encWr w (Bl w.heap.size) A3 ws) (hL : SnLim im l) (hwl : p ≤ 1000) (hsv : ∀ x ∈ l, x.2.2.length ≤ 99000) :
    Calls Tryz.prog 84 #[.agg #[.slice A n c, .slice A2 m c2], .slice A3 p c3] w (SnRetE (sApply (im, l) ws) (sApplyE (im, l) ws) w) := by
  subst hn hm hp
  have H1 : Hid (∀ w', Below w.heap.size w w' → SlAt (encSl encSec) w' (Bl w.heap.size) A im) := fun w' hb => h1.below hb
  have H2 : Hid (∀ w', Below w.heap.size w w' → SlAt encSnp w' (Bl w.heap.size) A2 l) := fun w' hb => h2.below hb
  have H3 : Hid (∀ w', Below w.heap.size w w' → SlAt encWr w' (Bl w.heap.size) A3 ws) := fun w' hb => h3.below hb
  have HLM := Lib.hid hL
  have HSV := Lib.hid hsv
  have hl1 := hL.ims
  have hl2 := hL.its
  clear h1 h2 h3 hL hsv
  obtain ⟨n0, hn0⟩ : ∃ n0, w.heap.size = n0 := ⟨_, rfl⟩
  obtain ⟨W0, hW0⟩ : ∃ W0, (w.alloc (.cells #[.slice A im.length c, .slice A2 l.length c2] 26)).alloc (.cells #[.slice none 0 0, .slice none 0 0] 26) = W0 := ⟨_, rfl⟩
  have hB0 : Below n0 w W0 := by rw [← hW0, ← hn0]; exact ext_alloc (ext_alloc (Below.refl _ _))
  have hs0 : n0 + 1 < W0.heap.size := by rw [← hW0, ← hn0]; simp
  have hr0 : W0.heap[n0]? = some (.cells #[.slice A im.length c, .slice A2 l.length c2] 26 (0, 0)) := by rw [← hW0, ← hn0]; exact (Below.heap_alloc _ _ _ (by simp)).trans (heap_alloc_new _ _)
  have hrz0 : W0.heap[n0 + 1]? = some (.cells #[.slice none 0 0, .slice none 0 0] 26 (0, 0)) := by rw [← hW0, ← hn0]; exact heap_new2 _ _ _
  have hBL : Hid (∀ (W : World) g, Below n0 w W → Bl w.heap.size g → Bl W.heap.size g) := fun W g hb hg => by have := hb.size; have h5 : g < w.heap.size := hg; show g < W.heap.size; omega
  have HCC : Hid (∀ W, Below W0.heap.size W0 W → W.cell? ⟨n0, 0, none⟩ = some (.slice A im.length c) ∧ W.cell? ⟨n0, 1, none⟩ = some (.slice A2 l.length c2)) := fun W hb => by
    obtain ⟨a, b, _⟩ := blk2 ((hb.block n0 (by omega)).trans hr0)
    exact ⟨a, b⟩
  have HRZ : Hid (∀ W, Below W0.heap.size W0 W → W.heap[n0 + 1]? = some (.cells #[.slice none 0 0, .slice none 0 0] 26 (0, 0))) := fun W hb => (hb.block (n0 + 1) hs0).trans hrz0
  obtain ⟨r, hr⟩ : ∃ r, Hid (snE (im, l) = r) := ⟨_, rfl⟩
  have HCK := Lib.hid (refSnCheck_any A A2 c c2 im.length l.length im l r W0 rfl rfl hr.out ((H1.out W0 (by rw [hn0]; exact hB0)).more (fun g hg => hBL.out W0 g hB0 hg)) ((H2.out W0 (by rw [hn0]; exact hB0)).more (fun g hg => hBL.out W0 g hB0 hg)) hl1 (by omega))
  obtain ⟨c0, c1⟩ := HCC.out W0 (Below.refl _ _)
  clear hr0 hrz0
  go_enter Tryz.func84, Tryz.ntmps84
  go_wp2_with fail
  refine HCK.out.mono ?_
  rintro e w1 ⟨rfl, hb1⟩
  have hbw1 : Below n0 w w1 := hB0.trans (hb1.mono (by omega))
  have hz1 := hb1.size
  have hrz1 := HRZ.out w1 hb1
  clear HCK hW0 c0 c1
  by_cases hx0 : r = 0
  case neg =>
    have hx0' : (r != 0) = true := by simp [hx0]
    have hne : r ≠ 0 := hx0
    have hre : Hid (sApplyE (im, l) ws = r) := by rw [Hid, sApplyE, hr.out, if_pos hx0]
    clear hx0
    have hE : Hid (sApplyE (im, l) ws = r) := hre.out
    have hS : Hid (sApply (im, l) ws = zSns) := by rw [Hid, sApply, if_neg (by rw [hE.out]; exact hne)]
    obtain ⟨q0, q1, qf⟩ := blk2 hrz1
    clear hne
    go_wp2_with fail
    have hz := blk2_set hrz1 (.slice none 0 0) (.slice none 0 0)
    have hbe := ((hbw1.setCell (p := ⟨n0 + 1, 0, none⟩) (by show n0 ≤ n0 + 1; omega) (.slice none 0 0)).setCell (p := ⟨n0 + 1, 1, none⟩) (by show n0 ≤ n0 + 1; omega) (.slice none 0 0))
    have hse := (SnRet.zero (w := (w1.setCell ⟨n0 + 1, 0, none⟩ (.slice none 0 0)).setCell ⟨n0 + 1, 1, none⟩ (.slice none 0 0)) (lo := n0) (by simp [World.setCell]; omega))
    change bodyPost _ _ _ _ _ ((w1.setCell ⟨(n0 + 1), 0, none⟩ (.slice none 0 0)).setCell ⟨(n0 + 1), 1, none⟩ (.slice none 0 0))
    generalize (w1.setCell ⟨(n0 + 1), 0, none⟩ (.slice none 0 0)).setCell ⟨(n0 + 1), 1, none⟩ (.slice none 0 0) = W3 at hz hbe hse ⊢
    obtain ⟨z0, z1, _⟩ := blk2 hz
    refine bodyPost_ret (v := .tuple #[.agg #[(.slice none 0 0), (.slice none 0 0)], .int .i64 r]) ?_ rfl ?_
    · simp [results, Tryz.results84, Tryz.f84, go_sem, z0, z1]
    rw [hE.out, hS.out]
    exact ⟨none, 0, none, 0, n0, rfl, by rw [hn0]; exact hse, by rw [hn0]; exact hbe⟩
  have hx0' : (r != 0) = false := by simp [hx0]
  have HOK : Hid (snE (im, l) = 0) := by rw [Hid, hr.out, hx0]
  clear hx0 hr
  obtain ⟨en, hen⟩ : ∃ en, Hid (applyErr im ws = en) := ⟨_, rfl⟩
  have hsE : Hid (sApplyE (im, l) ws = en) := by rw [Hid, sApplyE, HOK.out, if_neg (by decide)]; exact hen.out
  have HAP := Lib.hid (refApply07_any A A3 c c3 im.length ws.length im ws w1 rfl rfl ((H1.out w1 (by rw [hn0]; exact hbw1)).more (fun g hg => hBL.out w1 g hbw1 hg)) hl1 ((H3.out w1 (by rw [hn0]; exact hbw1)).more (fun g hg => hBL.out w1 g hbw1 hg)) (by omega))
  rw [hen.out] at HAP
  obtain ⟨c0, c1⟩ := HCC.out w1 hb1
  go_wp2_with fail
  refine HAP.out.mono ?_
  rintro e w2 ⟨A4, c4, ix, rfl, a1, a2, a3, hb2⟩
  have hb02 : Below W0.heap.size W0 w2 := ext_trans hb1 hb2
  have hbw2 : Below n0 w w2 := hB0.trans (hb02.mono (by omega))
  have hrz2 := HRZ.out w2 hb02
  have hz2 := hb2.size
  have HA3 := Lib.hid a3
  clear HAP c0 c1 hrz1 a3
  by_cases hx0 : en = 0
  case neg =>
    have hx0' : (en != 0) = true := by simp [hx0]
    have hne : en ≠ 0 := hx0
    clear hx0
    have hE : Hid (sApplyE (im, l) ws = en) := hsE.out
    have hS : Hid (sApply (im, l) ws = zSns) := by rw [Hid, sApply, if_neg (by rw [hE.out]; exact hne)]
    obtain ⟨q0, q1, qf⟩ := blk2 hrz2
    clear hne
    go_wp2_with fail
    have hz := blk2_set hrz2 (.slice none 0 0) (.slice none 0 0)
    have hbe := ((hbw2.setCell (p := ⟨n0 + 1, 0, none⟩) (by show n0 ≤ n0 + 1; omega) (.slice none 0 0)).setCell (p := ⟨n0 + 1, 1, none⟩) (by show n0 ≤ n0 + 1; omega) (.slice none 0 0))
    have hse := (SnRet.zero (w := (w2.setCell ⟨n0 + 1, 0, none⟩ (.slice none 0 0)).setCell ⟨n0 + 1, 1, none⟩ (.slice none 0 0)) (lo := n0) (by simp [World.setCell]; omega))
    change bodyPost _ _ _ _ _ ((w2.setCell ⟨(n0 + 1), 0, none⟩ (.slice none 0 0)).setCell ⟨(n0 + 1), 1, none⟩ (.slice none 0 0))
    generalize (w2.setCell ⟨(n0 + 1), 0, none⟩ (.slice none 0 0)).setCell ⟨(n0 + 1), 1, none⟩ (.slice none 0 0) = W3 at hz hbe hse ⊢
    obtain ⟨z0, z1, _⟩ := blk2 hz
    refine bodyPost_ret (v := .tuple #[.agg #[(.slice none 0 0), (.slice none 0 0)], .int .i64 en]) ?_ rfl ?_
    · simp [results, Tryz.results84, Tryz.f84, go_sem, z0, z1]
    rw [hE.out, hS.out]
    exact ⟨none, 0, none, 0, n0, rfl, by rw [hn0]; exact hse, by rw [hn0]; exact hbe⟩
  have hx0' : (en != 0) = false := by simp [hx0]
  have hE : Hid (sApplyE (im, l) ws = 0) := by rw [Hid, hsE.out, hx0]
  have hfit : Hid (sizesN (lens im) = 0 ∧ ∀ x ∈ ws, fitsN (lens im) x = 0) := applyErr_ok (by rw [hen.out, hx0])
  have hapl : Hid (applyL im ws = putAll im ws) := by rw [Hid, applyL, if_pos (by rw [hen.out, hx0])]
  have hS : Hid (sApply (im, l) ws = (putAll im ws, setLast l fun d => foldL (contL im ws ++ d))) := by rw [Hid, sApply, if_pos hE.out]
  rw [hapl.out] at HA3 a1 ⊢
  clear hx0 hsE hapl
  have hpl : (putAll im ws).length = im.length := putAll_length im ws
  obtain ⟨im2, him2⟩ : ∃ im2, putAll im ws = im2 := ⟨_, rfl⟩
  rw [him2] at HA3 a1 hS hpl ⊢
  clear him2
  have HPL := Lib.hid hpl
  rw [hpl] at a1 ⊢
  clear hpl
  have HCP := Lib.hid (refCopy36_any A A2 c c2 im.length l.length im l w2 rfl rfl ((H1.out w2 (by rw [hn0]; exact hbw2)).more (fun g hg => hBL.out w2 g hbw2 hg)) ((H2.out w2 (by rw [hn0]; exact hbw2)).more (fun g hg => hBL.out w2 g hbw2 hg)) HLM.out (snE_full HOK.out))
  obtain ⟨c0, c1⟩ := HCC.out w2 hb02
  go_wp2_with fail
  refine HCP.out.mono ?_
  rintro e w3 ⟨B, vc, D, dc, mid, rfl, hsn, hb3⟩
  clear HCP c0 c1 hrz2
  go_upto_region 8 with (fail)
  obtain ⟨ob, hob⟩ : ∃ ob, w3.heap.size = ob := ⟨_, rfl⟩
  obtain ⟨w4, hw4⟩ : ∃ w4, w3.alloc (.cells #[.slice B im.length vc, .slice D l.length dc] 26) = w4 := ⟨_, rfl⟩
  rw [hw4, hob]
  have hb4 : Below w3.heap.size w3 w4 := by rw [← hw4]; exact ext_alloc (Below.refl _ _)
  have hr4 : w4.heap[ob]? = some (.cells #[.slice B im.length vc, .slice D l.length dc] 26 (0, 0)) := by rw [← hw4, ← hob]; exact heap_alloc_new _ _
  have hs4 : ob < w4.heap.size := (Array.getElem?_eq_some_iff.1 hr4).1
  have hz3 := hb3.size
  obtain ⟨k1, k2, k3, k4, k5, k6⟩ := hsn
  have hO4 : Hid (OwnX (fun g => g = ob) encSnp w4 mid 158 (.slice D l.length dc) l) := (k6.var (X' := fun g => g = ob) (fun g hg => Or.inr (by omega))).below hb4
  have hb04 : Below W0.heap.size W0 w4 := ext_trans (ext_trans hb02 hb3) hb4
  have hbw4 : Below n0 w w4 := hB0.trans (hb04.mono (by omega))
  have HA4 : Hid (SlAt (encSl encSec) w4 (Nw w1.heap.size mid) A4 im2) := (HA3.out.blk (w' := w4) (fun g hg => (hb4.block g (by have := hg.2; omega)).trans (hb3.block g hg.2))).more (fun g hg => hg.mono (Nat.le_refl _) (by omega))
  have hmz : mid ≤ ob := by omega
  have hwm : w1.heap.size ≤ mid := by omega
  have hz02 := hb02.size
  obtain ⟨o0, o1, of⟩ := blk2 hr4
  have HR5 := Lib.hid (blk2_0 hr4 (.slice A4 im.length c4))
  have HO5 := Lib.hid (hO4.out.set (p := ⟨ob, 0, none⟩) rfl (.slice A4 im.length c4))
  have HA5 : Hid (SlAt (encSl encSec) (w4.setCell ⟨ob, 0, none⟩ (.slice A4 im.length c4)) (Nw w1.heap.size mid) A4 im2) := HA4.out.blk (fun g hg => heap_setCell_other _ _ _ _ (by have := hg.2; show g ≠ ob; omega))
  have HB5 := Lib.hid (hbw4.setCell (p := ⟨ob, 0, none⟩) (by show n0 ≤ ob; omega) (.slice A4 im.length c4))
  have HB05 := Lib.hid (hb04.setCell (p := ⟨ob, 0, none⟩) (by show W0.heap.size ≤ ob; omega) (.slice A4 im.length c4))
  clear k1 k2 k3 k4 k5 k6 hw4 HA3 hb3 hb4 hen hO4 HA4
  go_upto_region 9 with (fail)
  generalize w4.setCell ⟨ob, 0, none⟩ (.slice A4 im.length c4) = w5 at HR5 HO5 HA5 HB5 HB05 ⊢
  clear o0 o1 of hr4 hs4 hb04 hbw4
  have hB5 := HB5.out
  have hB05 := HB05.out
  have hr5 := HR5.out
  clear HB5 HB05 HR5
  obtain ⟨o0, o1, _⟩ := blk2 hr5
  by_cases h0 : l.length = 0
  · have HL0 : Hid (l = []) := List.eq_nil_of_length_eq_zero h0
    have hg0 : decide (0 < l.length) = false := decide_eq_false (by omega)
    clear h0
    go_upto_region 12 with (fail)
    clear o0 o1
    obtain ⟨o0, o1, _⟩ := blk2 hr5
    have hrz6 := HRZ.out w5 hB05
    obtain ⟨q0, q1, qf⟩ := blk2 hrz6
    have hz6 : mid ≤ (w5).heap.size := by have := (Array.getElem?_eq_some_iff.1 hr5).1; omega
    go_wp2_with fail
    have hz := blk2_set hrz6 (.slice A4 im.length c4) (.slice D l.length dc)
    have hbe := ((hB5.setCell (p := ⟨n0 + 1, 0, none⟩) (by show n0 ≤ n0 + 1; omega) (.slice A4 im.length c4)).setCell (p := ⟨n0 + 1, 1, none⟩) (by show n0 ≤ n0 + 1; omega) (.slice D l.length dc))
    have hse := (((show SnRet im2 l A4 c4 D dc mid w1.heap.size w5 from ⟨by rw [HPL.out]; exact a1, a2, by omega, hz6, (HA5.out), (HO5.out).noX (by simp)⟩).set (p := ⟨n0 + 1, 0, none⟩) (by show n0 + 1 < w1.heap.size; omega) (.slice A4 im.length c4)).set (p := ⟨n0 + 1, 1, none⟩) (by show n0 + 1 < w1.heap.size; omega) (.slice D l.length dc))
    change bodyPost _ _ _ _ _ ((w5.setCell ⟨(n0 + 1), 0, none⟩ (.slice A4 im.length c4)).setCell ⟨(n0 + 1), 1, none⟩ (.slice D l.length dc))
    generalize (w5.setCell ⟨(n0 + 1), 0, none⟩ (.slice A4 im.length c4)).setCell ⟨(n0 + 1), 1, none⟩ (.slice D l.length dc) = W3 at hz hbe hse ⊢
    obtain ⟨z0, z1, _⟩ := blk2 hz
    refine bodyPost_ret (v := .tuple #[.agg #[(.slice A4 im.length c4), (.slice D l.length dc)], .int .i64 0]) ?_ rfl ?_
    · simp [results, Tryz.results84, Tryz.f84, go_sem, z0, z1]
    rw [hE.out, hS.out]
    have e : setLast l (fun d => foldL (contL im ws ++ d)) = l := by rw [HL0.out]; rfl
    rw [e]
    exact ⟨A4, c4, D, dc, mid, by rw [HPL.out], hse.low (by omega), by rw [hn0]; exact hbe⟩
  · have hg0 : decide (0 < l.length) = true := decide_eq_true (by omega)
    go_upto_region 11 with (fail)
    have hjj : ∃ j : Nat, Hid (l.length = j + 1) := ⟨l.length - 1, by show l.length = _; omega⟩
    obtain ⟨j, hj⟩ := hjj
    have hjl : j < l.length := by rw [hj.out]; omega
    have e5 : (l.length : Int) - 1 = j := by have := hj.out; omega
    have hji : (j : Int) < l.length := by omega
    have hnn : (0 : Int) ≤ j := by omega
    have hwj : IntKind.i64.wrap (j : Int) = (j : Int) := IntWalk.i64_in _ (by omega)
    have hset := setLast_at hj.out (fun d => foldL (contL im ws ++ d))
    have hsvl := HSV.out l[j] (List.getElem_mem hjl)
    obtain ⟨g, cs, rfl, hg1, hg2, hg3, hcell, hfz, hrd⟩ := HO5.out.1.elem (i := j) hjl
    have hgob : Hid (g ≠ ob) := fun e => HO5.out.2 g rfl e
    obtain ⟨_, _, rfl, _, _, _, _, _⟩ := snp_cs hrd
    have dg := hcell 2 _ rfl
    simp only [show encSnp.size = 3 from rfl] at dg
    generalize Value.slice _ _ _ = ug at dg
    have hfg := hfz (j * 3 + 2)
    have HST := Lib.hid (fun (W : World) (d : List Wr) (D : Option Addr) (dcc : Nat) (h : OwnX (fun g => g = ob) encSnp W mid 158 (.slice (some ⟨g, 0, none⟩) l.length dc) l) => OwnX.storeSv h hjl (d := d) (D := D) (dc := dcc))
    obtain ⟨b, off, Dx, dx, rfl, hb, g0, g1, g2, hD, hd1, hd2, _, _⟩ := (H2.out w5 (by rw [hn0]; exact hB5)).snp hjl
    obtain ⟨x, hx⟩ : ∃ x, l[j] = x := ⟨_, rfl⟩
    rw [hx] at hset hsvl g2 hD HST
    obtain ⟨num, tm, sv⟩ := x
    simp only at hset hsvl g2 hD HST
    have HSET := Lib.hid hset
    have hg2' : g < w5.heap.size := hg2
    have hbw : b < w5.heap.size := by have h1 := hb; have h2 := hB5.size; have h3 : b < w.heap.size := h1; omega
    have hz5 := hB5.size
    have HDS : Hid (∀ W, Below w5.heap.size w5 W → SlAt encWr W (Bl W.heap.size) Dx sv) := fun W hb => hD.belowUp (hb.mono hz5) (by have := hb.size; omega)
    have hobl : ob < w5.heap.size := (Array.getElem?_eq_some_iff.1 hr5).1
    have HSX : Hid (∀ W, Below w5.heap.size w5 W → W.cell? ⟨ob, 1, none⟩ = some (.slice (some ⟨g, 0, none⟩) l.length dc) ∧ W.cell? ⟨n0, 0, none⟩ = some (.slice A im.length c) ∧ W.cell? ⟨n0, 1, none⟩ = some (.slice (some ⟨b, off, none⟩) l.length c2) ∧ W.cell? ⟨b, off + j * 3 + 2, none⟩ = some (.slice Dx sv.length dx)) := fun W hb => by
      obtain ⟨a1', a2'⟩ := HCC.out W (ext_trans hB05 hb)
      exact ⟨(World.cell?_of_block (a := ⟨ob, 1, none⟩) (hb.block ob hobl)).trans o1, a1', a2', (World.cell?_of_block (a := ⟨b, off + j * 3 + 2, none⟩) (hb.block b hbw)).trans g2⟩
    have HSG : Hid (∀ W, Below w5.heap.size w5 W → W.cell? ⟨g, j * 3 + 2, none⟩ = some ug ∧ W.frozen? ⟨g, j * 3 + 2, none⟩ = false) := fun W hb => by
      have hkg := hb.block g hg2'
      exact ⟨(World.cell?_of_block (a := ⟨g, j * 3 + 2, none⟩) hkg).trans dg, (World.frozen?_of_block (a := ⟨g, j * 3 + 2, none⟩) hkg).trans hfg⟩
    have hbg : b ≠ g := by have h1 : b < w.heap.size := hb; have := hg1; omega
    have hng : n0 ≠ g := by have := hg1; omega
    have HSK : Hid (∀ W u, Below w5.heap.size w5 W → (W.setCell ⟨g, j * 3 + 2, none⟩ u).cell? ⟨ob, 1, none⟩ = some (.slice (some ⟨g, 0, none⟩) l.length dc) ∧ (W.setCell ⟨g, j * 3 + 2, none⟩ u).cell? ⟨n0, 0, none⟩ = some (.slice A im.length c) ∧ (W.setCell ⟨g, j * 3 + 2, none⟩ u).cell? ⟨n0, 1, none⟩ = some (.slice (some ⟨b, off, none⟩) l.length c2) ∧ (W.setCell ⟨g, j * 3 + 2, none⟩ u).cell? ⟨b, off + j * 3 + 2, none⟩ = some (.slice Dx sv.length dx)) := fun W u hb' => by
      obtain ⟨y1, y2, y3, y4⟩ := HSX.out W hb'
      exact ⟨(World.cell?_of_block (a := ⟨ob, 1, none⟩) (heap_setCell_other W ⟨g, j * 3 + 2, none⟩ ob u (fun e => hgob.out e.symm))).trans y1, (World.cell?_of_block (a := ⟨n0, 0, none⟩) (heap_setCell_other W ⟨g, j * 3 + 2, none⟩ n0 u hng)).trans y2, (World.cell?_of_block (a := ⟨n0, 1, none⟩) (heap_setCell_other W ⟨g, j * 3 + 2, none⟩ n0 u hng)).trans y3, (World.cell?_of_block (a := ⟨b, off + j * 3 + 2, none⟩) (heap_setCell_other W ⟨g, j * 3 + 2, none⟩ b u hbg)).trans y4⟩
    obtain ⟨cl, hcl⟩ : ∃ cl, Hid (contL im ws = cl) := ⟨_, rfl⟩
    have hcll : Hid (cl.length = ws.length) := by rw [Hid, ← hcl.out]; exact contL_len
    have hcd : Hid (∀ x ∈ cl, 0 < x.2.2.length ∧ x.2.2.length ≤ 1000000) := by rw [← hcl.out]; exact contL_data hfit.out.1 hfit.out.2
    obtain ⟨rr, hrr⟩ : ∃ rr, Hid (foldL (cl ++ sv) = rr) := ⟨_, rfl⟩
    have hlen9 : Hid (cl.length + sv.length ≤ 100000) := by rw [Hid, hcll.out]; have : sv.length ≤ 99000 := hsvl; omega
    have hbd : Below w5.heap.size w5 w5.drew := (Below.refl _ _).drew
    have HKP := Lib.hid (refKept_any A A3 c c3 im.length ws.length im ws w5.drew rfl rfl ((H1.out w5.drew (by rw [hn0]; exact hB5.drew)).more (fun g hg => hBL.out w5.drew g hB5.drew hg)) hl1 ((H3.out w5.drew (by rw [hn0]; exact hB5.drew)).more (fun g hg => hBL.out w5.drew g hB5.drew hg)) (by omega) hfit.out.1 hfit.out.2)
    rw [hcl.out] at HKP HSET
    rw [hrr.out] at HSET
    clear hset hsvl hrd hcell hfz dg hfg g0 g1 g2 hD hd1 hd2 hx o0 o1 hg3 h0
    have hs0 := HSX.out w5.drew hbd
    go_region_held3 (fun W => W.cell? ⟨ob, 1, none⟩ = some (.slice (some ⟨g, 0, none⟩) l.length dc) ∧ W.cell? ⟨n0, 0, none⟩ = some (.slice A im.length c) ∧ W.cell? ⟨n0, 1, none⟩ = some (.slice (some ⟨b, off, none⟩) l.length c2) ∧ W.cell? ⟨b, off + j * 3 + 2, none⟩ = some (.slice Dx sv.length dx)) (first | exact hs0 | exact HSX.out _ hx7 | exact HSX.out _ hx6 | exact HSK.out _ _ hx7) (first | (go_at_call 131; refine (refOver_any B6 Dx v6 dx cl.length sv.length cl sv w6 rfl rfl ho6.out.sl (HDS.out w6 hx6) hlen9.out hcd.out).mono ?_; rintro e w7 ⟨A8, c8, rfl, u1, u2, u3, hb7⟩; have hx7 : Below w5.heap.size w5 w7 := ext_trans hx6 hb7; obtain ⟨z7, f7⟩ := HSG.out w7 hx7) | (go_at_call 136; refine HKP.out.mono ?_; rintro e w6 ⟨B6, v6, xs, rfl, ho, hb6⟩; have ho6 := Lib.hid ho; have hx6 : Below w5.heap.size w5 w6 := ext_trans hbd hb6))
    rw [hrr.out] at u1 u3 ⊢
    have HU := Lib.hid (And.intro u1 (And.intro u2 u3))
    have hz6 := hx6.size
    have hz7 := hx7.size
    have hO7 := HST.out w7 rr A8 c8 (HO5.out.below hx7) u1 u2 (u3.more (fun b' hb' => ⟨⟨by have := hb'.1; omega, hb'.2⟩, by have := hb'.1; omega, by have := hb'.1; omega⟩))
    have HO7 := Lib.hid hO7
    have hr7 := (heap_setCell_other w7 ⟨g, j * 3 + 2, none⟩ ob (.slice A8 rr.length c8) (fun e => hgob.out e.symm)).trans ((hx7.block ob hobl).trans hr5)
    have HR7 := Lib.hid hr7
    have HA7 : Hid (SlAt (encSl encSec) (w7.setCell ⟨g, j * 3 + 2, none⟩ (.slice A8 rr.length c8)) (Nw w1.heap.size mid) A4 im2) := HA5.out.blk (fun b' hb' => (heap_setCell_other w7 ⟨g, j * 3 + 2, none⟩ b' (.slice A8 rr.length c8) (by have := hb'.2; show b' ≠ g; omega)).trans (hx7.block b' (by have := hb'.2; omega)))
    have HB7 : Hid (Below n0 w (w7.setCell ⟨g, j * 3 + 2, none⟩ (.slice A8 rr.length c8))) := (hB5.trans (hx7.mono (by omega))).setCell (p := ⟨g, j * 3 + 2, none⟩) (by show n0 ≤ g; omega) _
    have HB07 : Hid (Below W0.heap.size W0 (w7.setCell ⟨g, j * 3 + 2, none⟩ (.slice A8 rr.length c8))) := (ext_trans hB05 hx7).setCell (p := ⟨g, j * 3 + 2, none⟩) (by show W0.heap.size ≤ g; omega) _
    clear hO7 hr7 u1 u2 u3 z7 f7 hr5 hB5 hB05 hs0 HO5 HA5
    generalize w7.setCell ⟨g, j * 3 + 2, none⟩ (.slice A8 rr.length c8) = w8 at HO7 HR7 HA7 HB7 HB07 ⊢
    have hr8 := HR7.out
    have hB8 := HB7.out
    have hB08 := HB07.out
    clear HR7 HB7 HB07 hb6 hb7 hx6 hx7 hz6 hz7 ho e5 hg1 hg2 hg2' hbw hb
    obtain ⟨o0, o1, _⟩ := blk2 hr8
    have hrz6 := HRZ.out w8 hB08
    obtain ⟨q0, q1, qf⟩ := blk2 hrz6
    have hz6 : mid ≤ (w8).heap.size := by have := (Array.getElem?_eq_some_iff.1 hr8).1; omega
    go_wp2_with fail
    have hz := blk2_set hrz6 (.slice A4 im.length c4) (.slice (some ⟨g, 0, none⟩) l.length dc)
    have hbe := ((hB8.setCell (p := ⟨n0 + 1, 0, none⟩) (by show n0 ≤ n0 + 1; omega) (.slice A4 im.length c4)).setCell (p := ⟨n0 + 1, 1, none⟩) (by show n0 ≤ n0 + 1; omega) (.slice (some ⟨g, 0, none⟩) l.length dc))
    have hse := (((show SnRet im2 (l.set j (num, tm, rr)) A4 c4 (some ⟨g, 0, none⟩) dc mid w1.heap.size w8 from ⟨by rw [HPL.out]; exact a1, a2, by omega, hz6, (HA7.out), (HO7.out).noX (by simp)⟩).set (p := ⟨n0 + 1, 0, none⟩) (by show n0 + 1 < w1.heap.size; omega) (.slice A4 im.length c4)).set (p := ⟨n0 + 1, 1, none⟩) (by show n0 + 1 < w1.heap.size; omega) (.slice (some ⟨g, 0, none⟩) l.length dc))
    change bodyPost _ _ _ _ _ ((w8.setCell ⟨(n0 + 1), 0, none⟩ (.slice A4 im.length c4)).setCell ⟨(n0 + 1), 1, none⟩ (.slice (some ⟨g, 0, none⟩) l.length dc))
    generalize (w8.setCell ⟨(n0 + 1), 0, none⟩ (.slice A4 im.length c4)).setCell ⟨(n0 + 1), 1, none⟩ (.slice (some ⟨g, 0, none⟩) l.length dc) = W3 at hz hbe hse ⊢
    obtain ⟨z0, z1, _⟩ := blk2 hz
    refine bodyPost_ret (v := .tuple #[.agg #[(.slice A4 im.length c4), (.slice (some ⟨g, 0, none⟩) l.length dc)], .int .i64 0]) ?_ rfl ?_
    · simp [results, Tryz.results84, Tryz.f84, go_sem, z0, z1]
    rw [hE.out, hS.out]
    rw [hcl.out, HSET.out]
    exact ⟨A4, c4, some ⟨g, 0, none⟩, dc, mid, by rw [HPL.out, List.length_set], hse.low (by omega), by rw [hn0]; exact hbe⟩
end Go.Proofs.YtgndgkjefgjamaaGreat
namespace Go.Proofs.YtgndgkjefgjamaaGreat
open Go.RowKit Go.Shelf
attribute [local go_sem] Oper.semAt_some

set_option maxHeartbeats 4000000 in
set_option maxRecDepth 100000 in
theorem clChangeT_any (a1 a2 : Addr) (A A2 A3 : Option Addr) (c c2 c3 n m p : Nat) (im : Img) (l : List Snp) (cl : List Cln) (s9 : Sns) (n9 : Int) (w : World) (hn : im.length = n) (hm : l.length = m) (hp : cl.length = p) (h1 : SlAt (encSl encSec) w (Bl w.heap.size) A im) (h2 : SlAt encSnp w (Bl w.heap.size) A2 l) (h3 : SlAt encCln w (Bl w.heap.size) A3 cl) (hL : ClLim (im, l) cl)
    (hF : ∀ (W : World) (B D : Option Addr) (vc dc : Nat), Below w.heap.size w W → im.length ≤ vc ∧ vc ≤ maxLen → l.length ≤ dc ∧ dc ≤ maxLen → SlAt (encSl encSec) W (Bl W.heap.size) B im → SlAt encSnp W (Bl W.heap.size) D l → clE ((im, l), cl) = 0 → Calls Tryz.prog 85 #[.agg #[.slice B im.length vc, .slice D l.length dc], .pointer (some a1), .pointer (some a2)] W (SnRdE s9 n9 W)) (hz9 : n9 ≠ 0 → s9 = zSns) :
    Calls Tryz.prog 73 #[.agg #[.slice A n c, .slice A2 m c2, .slice A3 p c3], .func (.func 85) #[] #[.pointer (some a1), .pointer (some a2)]] w (RetCl (chS ((im, l), cl) s9 n9) (chE ((im, l), cl) n9) w) := by
  subst hn hm hp
  have HF := Lib.hid hF
  clear hF
  obtain ⟨n0, hn0⟩ : ∃ n0, w.heap.size = n0 := ⟨_, rfl⟩
  obtain ⟨W0, hW0⟩ : ∃ W0, (w.alloc (.cells #[.slice A im.length c, .slice A2 l.length c2, .slice A3 cl.length c3] 29)).alloc (.cells #[.slice none 0 0, .slice none 0 0, .slice none 0 0] 29) = W0 := ⟨_, rfl⟩
  have hB0 : Below n0 w W0 := by rw [← hW0, ← hn0]; repeat (first | exact Below.refl _ _ | refine ext_alloc ?_)
  have hr0 : W0.heap[n0]? = some (.cells #[.slice A im.length c, .slice A2 l.length c2, .slice A3 cl.length c3] 29 (0, 0)) := by rw [← hW0, ← hn0]; exact (Below.heap_alloc _ _ _ (by simp)).trans (heap_alloc_new _ _)
  have hr1 : W0.heap[n0 + 1]? = some (.cells #[.slice none 0 0, .slice none 0 0, .slice none 0 0] 29 (0, 0)) := by rw [← hW0, ← hn0]; exact heap_new2 _ _ _
  obtain ⟨n2, hn2⟩ : ∃ n2, W0.heap.size = n2 := ⟨_, rfl⟩
  have hn02 : n0 + 1 < n2 := by rw [← hn2]; exact (Array.getElem?_eq_some_iff.1 hr1).1
  have up : ∀ {α : Type} {E : Enc α} {A : Option Addr} {l : List α}, SlAt E w (Bl w.heap.size) A l → ∀ W, Below n2 W0 W → SlAt E W (Bl W.heap.size) A l := fun h W hb => by
    rw [hn0] at h
    exact (h.blk (fun g hg => (hb.block g (by have : g < n0 := hg; omega)).trans (hB0.block g hg))).more (fun g hg => by have : g < n0 := hg; have := hb.size; show g < W.heap.size; omega)
  have H1 := Lib.hid (up h1)
  have H2 := Lib.hid (up h2)
  have H3 := Lib.hid (up h3)
  have HC : Hid (∀ W, Below n2 W0 W → W.cell? ⟨n0, 0, none⟩ = some (.slice A im.length c) ∧ W.cell? ⟨n0, 1, none⟩ = some (.slice A2 l.length c2) ∧ W.cell? ⟨n0, 2, none⟩ = some (.slice A3 cl.length c3)) := fun W hb => by
    obtain ⟨a, b, d, _⟩ := blk3 ((hb.block _ (by omega)).trans hr0)
    exact ⟨a, b, d⟩
  have HRR : Hid (∀ W, Below n2 W0 W → W.heap[n0 + 1]? = some (.cells #[.slice none 0 0, .slice none 0 0, .slice none 0 0] 29 (0, 0))) := fun W hb => (hb.block _ (by omega)).trans hr1
  have HROW0 : Hid (∀ W, Below n2 W0 W → W.heap[n0]? = some (.cells #[.slice A im.length c, .slice A2 l.length c2, .slice A3 cl.length c3] 29 (0, 0))) := fun W hb => (hb.block _ (by omega)).trans hr0
  have HBW : Hid (∀ W, Below n2 W0 W → Below w.heap.size w W) := fun W hb => by rw [hn0]; exact hB0.trans (hb.mono (by omega))
  have HN0 := Lib.hid hn0
  have HN2 := Lib.hid hn2
  have hN0 : n0 ≤ w.heap.size ∧ w.heap.size ≤ n0 := by omega
  have hl1 := hL.sn.ims
  have hl2 := hL.sn.its
  have hl3 := hL.its
  have HLM := Lib.hid hL
  simp only at hl1 hl2
  obtain ⟨s0, hs0⟩ : ∃ s0, clE ((im, l), cl) = s0 := ⟨_, rfl⟩
  have HCK := Lib.hid (fun W (hb : Below n2 W0 W) => clCheck_any A A2 A3 c c2 c3 im.length l.length cl.length im l cl s0 W rfl rfl rfl hs0 (H1.out W hb) (H2.out W hb) (H3.out W hb) hl1 (by omega) (by omega))
  have HOW := Lib.hid (fun W (hb : Below n2 W0 W) => own37_any A A2 A3 c c2 c3 im.length l.length cl.length im l cl W rfl rfl rfl (H1.out W hb) (H2.out W hb) (H3.out W hb) HLM.out)
  have HS0 := Lib.hid hs0
  have hB00 := Below.refl n2 W0
  obtain ⟨p0, p1, p2⟩ := HC.out W0 hB00
  clear h1 h2 h3 up hB0 hL hr0 hr1 hs0
  have HCE : Hid (chE ((im, l), cl) n9 = if s0 ≠ 0 then s0 else n9) := by rw [Hid, chE, HS0.out]
  have HCK0 := Lib.hid (HCK.out W0 hB00)
  go_enter Tryz.func73, Tryz.ntmps73
  go_wp2_with fail
  refine HCK0.out.mono ?_
  rintro e w1 ⟨rfl, hb1⟩
  rw [HN2.out] at hb1
  clear p0 p1 p2 HCK0 hn2 hn0 hW0
  by_cases hx0 : s0 = 0
  case neg =>
    have hx0' : (s0 != 0) = true := by simp [hx0]
    have HE : Hid (chE ((im, l), cl) n9 = s0) := by rw [Hid, HCE.out, if_pos hx0]
    have HT : Hid (chS ((im, l), cl) s9 n9 = zCls) := by rw [Hid, chS, if_neg (by rw [HE.out]; exact hx0)]
    clear hx0
    have hr1 := HRR.out w1 hb1
    obtain ⟨v0, v1, v2, vf⟩ := blk3 hr1
    go_wp2_with fail
    have hend := cl_end (w := w) (x := zCls) (A := none) (c := 0) (D := none) (d := 0) (G := none) (g := 0) hr1 (by omega) (HBW.out w1 hb1) ClAt.zero s0
    obtain ⟨hz, hret⟩ := hend
    change bodyPost _ _ _ _ _ (sw3 w1 (n0 + 1) (.slice none (zCls).1.1.length 0) (.slice none (zCls).1.2.length 0) (.slice none (zCls).2.length 0))
    generalize sw3 w1 (n0 + 1) (.slice none (zCls).1.1.length 0) (.slice none (zCls).1.2.length 0) (.slice none (zCls).2.length 0) = W3 at hz hret ⊢
    obtain ⟨z0, z1, z2, _⟩ := blk3 hz
    refine bodyPost_ret (v := .tuple #[.agg #[.slice none (zCls).1.1.length 0, .slice none (zCls).1.2.length 0, .slice none (zCls).2.length 0], .int .i64 s0]) ?_ rfl ?_
    · simp [results, Tryz.results73, Tryz.f73, go_sem, z0, z1, z2, zCls, zSns]
    rw [HT.out, HE.out]; exact hret
  have hx0' : (s0 != 0) = false := by simp [hx0]
  rw [if_neg (by simp [hx0])] at HCE
  subst hx0
  obtain ⟨p0, p1, p2⟩ := HC.out w1 hb1
  have HO := Lib.hid (HOW.out w1 hb1)
  go_wp2_with fail
  refine HO.out.mono ?_
  rintro e w5 ⟨B, vc, D, dc, G, gc, m1, m2, rfl, hcr, hb5⟩
  have hbb5 : Below n2 W0 w5 := hb1.trans (hb5.mono (by have := hb1.size; have := HN2.out; omega))
  clear p0 p1 p2 HO
  obtain ⟨ob, hob⟩ : ∃ ob, w5.heap.size = ob := ⟨_, rfl⟩
  obtain ⟨w6, hw6⟩ : ∃ w6, w5.alloc (.cells #[.slice B im.length vc, .slice D l.length dc, .slice G cl.length gc] 29) = w6 := ⟨_, rfl⟩
  have HW6 := Lib.hid hw6
  have hb6 : Below ob w5 w6 := by rw [← hw6, ← hob]; exact ext_alloc (Below.refl _ _)
  have hr6 : w6.heap[ob]? = some (.cells #[.slice B im.length vc, .slice D l.length dc, .slice G cl.length gc] 29 (0, 0)) := by rw [← hw6, ← hob]; exact heap_alloc_new _ _
  have hle := hcr.le
  have hz1 := hb1.size
  have hN2 : n2 ≤ W0.heap.size := by have := HN2.out; omega
  have hz6 : ob < w6.heap.size := (Array.getElem?_eq_some_iff.1 hr6).1
  have hbb6 : Below n2 W0 w6 := hbb5.trans (hb6.mono (by omega))
  have HCR := Lib.hid hcr
  have HCA := Lib.hid (hcr.at_.keep (S' := fun q => w.heap.size ≤ q ∧ q < w5.heap.size ∧ n2 ≤ q) (fun _ _ => rfl) (fun q hq => ⟨by have := hq.1; omega, hq.2, by have := hq.1; omega⟩))
  have HFF := Lib.hid (HF.out w6 B D vc dc (HBW.out w6 hbb6) ⟨hcr.im.1, hcr.im.2.1⟩ ⟨hcr.sn.1, hcr.sn.2.1⟩ ((hcr.im.2.2.blk (fun x hx => hb6.block x (by have := hx.2; omega))).more (fun x hx => by have := hx.2; show x < w6.heap.size; omega)) ((hcr.sn.2.2.blk (fun x hx => hb6.block x (by have := hx.2; omega))).more (fun x hx => by have := hx.2; show x < w6.heap.size; omega)) HS0.out)
  clear hw6 hcr
  go_upto_region 5 with (fail)
  rw [HW6.out]
  clear HW6
  obtain ⟨q0, q1, q2, qf⟩ := blk3 hr6
  go_wp2_with fail
  refine HFF.out.mono ?_
  rintro e w7 ⟨B9, vc9, D9, dc9, rfl, ⟨j1, j2, j3⟩, ⟨j4, j5, j6⟩, hb7⟩
  have hbb7 : Below n2 W0 w7 := hbb6.trans (hb7.mono (by omega))
  have hr7 := (hb7.block ob hz6).trans hr6
  have hz7 := hb7.size
  clear q0 q1 q2 qf HFF
  obtain ⟨sb, hsb⟩ : ∃ sb, w7.heap.size = sb := ⟨_, rfl⟩
  obtain ⟨w8, hw8⟩ : ∃ w8, w7.alloc (.cells #[.slice B9 s9.1.length vc9, .slice D9 s9.2.length dc9] 26) = w8 := ⟨_, rfl⟩
  have HW8 := Lib.hid hw8
  have hb8 : Below sb w7 w8 := by rw [← hw8, ← hsb]; exact ext_alloc (Below.refl _ _)
  have hr8 : w8.heap[sb]? = some (.cells #[.slice B9 s9.1.length vc9, .slice D9 s9.2.length dc9] 26 (0, 0)) := by rw [← hw8, ← hsb]; exact heap_alloc_new _ _
  have hz8 : sb < w8.heap.size := (Array.getElem?_eq_some_iff.1 hr8).1
  have hbb8 : Below n2 W0 w8 := hbb7.trans (hb8.mono (by omega))
  have hro8 := (hb8.block ob (by omega)).trans hr7
  have HJ3 := Lib.hid (j3.blk (w' := w8) (fun x hx => hb8.block x (by have := hx.2; omega)))
  have HJ6 := Lib.hid (j6.blk (w' := w8) (fun x hx => hb8.block x (by have := hx.2; omega)))
  clear hw8 j3 j6
  go_upto_region 6 with (fail)
  rw [HW8.out]
  clear HW8
  by_cases hn9 : n9 = 0
  case neg =>
    have hn9' : (n9 != 0) = true := by simp [hn9]
    have HE : Hid (chE ((im, l), cl) n9 = n9) := HCE.out
    have HT : Hid (chS ((im, l), cl) s9 n9 = zCls) := by rw [Hid, chS, if_neg (by rw [HE.out]; exact hn9)]
    clear hn9 hz9
    have hr18 := HRR.out w8 hbb8
    obtain ⟨v0, v1, v2, vf⟩ := blk3 hr18
    go_wp2_with fail
    have hend := cl_end (w := w) (x := zCls) (A := none) (c := 0) (D := none) (d := 0) (G := none) (g := 0) hr18 (by omega) (HBW.out w8 hbb8) ClAt.zero n9
    obtain ⟨hz, hret⟩ := hend
    change bodyPost _ _ _ _ _ (sw3 w8 (n0 + 1) (.slice none (zCls).1.1.length 0) (.slice none (zCls).1.2.length 0) (.slice none (zCls).2.length 0))
    generalize sw3 w8 (n0 + 1) (.slice none (zCls).1.1.length 0) (.slice none (zCls).1.2.length 0) (.slice none (zCls).2.length 0) = W3 at hz hret ⊢
    obtain ⟨z0, z1, z2, _⟩ := blk3 hz
    refine bodyPost_ret (v := .tuple #[.agg #[.slice none (zCls).1.1.length 0, .slice none (zCls).1.2.length 0, .slice none (zCls).2.length 0], .int .i64 n9]) ?_ rfl ?_
    · simp [results, Tryz.results73, Tryz.f73, go_sem, z0, z1, z2, zCls, zSns]
    rw [HT.out, HE.out]; exact hret
  have hn9' : (n9 != 0) = false := by simp [hn9]
  have HE : Hid (chE ((im, l), cl) n9 = 0) := HCE.out.trans hn9
  have HT : Hid (chS ((im, l), cl) s9 n9 = (s9, cl)) := by rw [Hid, chS, if_pos HE.out]
  subst hn9
  clear hz9
  obtain ⟨y0, y1, _⟩ := blk2 hr8
  obtain ⟨q0, q1, q2, qf⟩ := blk3 hro8
  go_upto_region 9 with (fail)
  clear q0 q1 q2 qf y0 y1
  change Code.wp _ _ _ _ ((w8.setCell ⟨ob, 0, none⟩ (.slice B9 s9.1.length vc9)).setCell ⟨ob, 1, none⟩ (.slice D9 s9.2.length dc9))
  have hr9 : ((w8.setCell ⟨ob, 0, none⟩ (.slice B9 s9.1.length vc9)).setCell ⟨ob, 1, none⟩ (.slice D9 s9.2.length dc9)).heap[ob]? = some (.cells #[.slice B9 s9.1.length vc9, .slice D9 s9.2.length dc9, .slice G cl.length gc] 29 (0, 0)) := by
    simp [World.setCell, Array.getElem?_modify, hro8]
  have hk9 : ∀ x, x ≠ ob → ((w8.setCell ⟨ob, 0, none⟩ (.slice B9 s9.1.length vc9)).setCell ⟨ob, 1, none⟩ (.slice D9 s9.2.length dc9)).heap[x]? = w8.heap[x]? := fun x hx => (heap_setCell_other _ _ _ _ hx).trans (heap_setCell_other _ _ _ _ hx)
  have hz9 : w8.heap.size ≤ ((w8.setCell ⟨ob, 0, none⟩ (.slice B9 s9.1.length vc9)).setCell ⟨ob, 1, none⟩ (.slice D9 s9.2.length dc9)).heap.size := by simp [World.setCell]
  have hb9 : Below n2 W0 ((w8.setCell ⟨ob, 0, none⟩ (.slice B9 s9.1.length vc9)).setCell ⟨ob, 1, none⟩ (.slice D9 s9.2.length dc9)) := (hbb8.setCell (p := ⟨ob, 0, none⟩) (by show n2 ≤ ob; omega) _).setCell (p := ⟨ob, 1, none⟩) (by show n2 ≤ ob; omega) _
  generalize (w8.setCell ⟨ob, 0, none⟩ (.slice B9 s9.1.length vc9)).setCell ⟨ob, 1, none⟩ (.slice D9 s9.2.length dc9) = w9 at hr9 hk9 hz9 hb9 ⊢
  have HCL : Hid (ClAt ((s9, cl) : Cls) B9 vc9 D9 dc9 G gc (fun q => w.heap.size ≤ q ∧ q < w9.heap.size ∧ q ≠ n0 + 1) w9) :=
    ⟨⟨j1, j2, (HJ3.out.blk (fun x hx => hk9 x (by have := hx.1; omega))).more (fun x hx => ⟨by have := hx.1; omega, by have := hx.2; omega, by have := hx.1; omega⟩)⟩,
      ⟨j4, j5, (HJ6.out.blk (fun x hx => hk9 x (by have := hx.1; omega))).more (fun x hx => ⟨by have := hx.1; omega, by have := hx.2; omega, by have := hx.1; omega⟩)⟩,
      ⟨HCA.out.cl.1, HCA.out.cl.2.1, (HCA.out.cl.2.2.blk (fun x hx => (hk9 x (by have := hx.2.1; omega)).trans ((hb8.block x (by have := hx.2.1; omega)).trans ((hb7.block x (by have := hx.2.1; omega)).trans (hb6.block x (by have := hx.2.1; omega)))))).more (fun x hx => ⟨hx.1, by have := hx.2.1; omega, by have := hx.2.2; omega⟩)⟩⟩
  have hr19 := HRR.out w9 hb9
  obtain ⟨q0, q1, q2, qf⟩ := blk3 hr9
  obtain ⟨v0, v1, v2, vf⟩ := blk3 hr19
  clear hk9 hz9
  go_wp2_with fail
  have hend := cl_end (w := w) (x := ((s9, cl) : Cls)) (A := B9) (c := vc9) (D := D9) (d := dc9) (G := G) (g := gc) hr19 (by omega) (HBW.out w9 hb9) HCL.out 0
  obtain ⟨hz, hret⟩ := hend
  change bodyPost _ _ _ _ _ (sw3 w9 (n0 + 1) (.slice B9 (((s9, cl) : Cls)).1.1.length vc9) (.slice D9 (((s9, cl) : Cls)).1.2.length dc9) (.slice G (((s9, cl) : Cls)).2.length gc))
  generalize sw3 w9 (n0 + 1) (.slice B9 (((s9, cl) : Cls)).1.1.length vc9) (.slice D9 (((s9, cl) : Cls)).1.2.length dc9) (.slice G (((s9, cl) : Cls)).2.length gc) = W3 at hz hret ⊢
  obtain ⟨z0, z1, z2, _⟩ := blk3 hz
  refine bodyPost_ret (v := .tuple #[.agg #[.slice B9 (((s9, cl) : Cls)).1.1.length vc9, .slice D9 (((s9, cl) : Cls)).1.2.length dc9, .slice G (((s9, cl) : Cls)).2.length gc], .int .i64 0]) ?_ rfl ?_
  · simp [results, Tryz.results73, Tryz.f73, go_sem, z0, z1, z2, zCls, zSns]
  rw [HT.out, HE.out]; exact hret
end Go.Proofs.YtgndgkjefgjamaaGreat
namespace Go.Proofs.YtgndgkjefgjamaaGreat
open Go.RowKit Go.Shelf
attribute [local go_sem] Oper.semAt_some

set_option maxHeartbeats 2000000 in
set_option maxRecDepth 100000 in
theorem take1_any (A A2 : Option Addr) (c c2 n m : Nat) (im : Img) (l : List Snp) (w : World) (hn : im.length = n) (hm : l.length = m) (h1 : SlAt (encSl encSec) w (Bl w.heap.size) A im) (h2 : SlAt encSnp w (Bl w.heap.size) A2 l) (hL : SnLim im l) (num tm : Int) (a a2 : Nat) (hi : I64 num ∧ I64 tm) (ha : a < w.heap.size) (hc : w.cell? ⟨a, 0, none⟩ = some (.int .i64 num)) (ha2 : a2 < w.heap.size) (hc2 : w.cell? ⟨a2, 0, none⟩ = some (.int .i64 tm)) :
    Calls Tryz.prog 85 #[.agg #[.slice A n c, .slice A2 m c2], .pointer (some ⟨a, 0, none⟩), .pointer (some ⟨a2, 0, none⟩)] w (SnRdE (takeS (im, l) num tm) (takeE (im, l) num tm) w) := by
  subst hn hm
  obtain ⟨n0, hn0⟩ : ∃ n0, w.heap.size = n0 := ⟨_, rfl⟩
  obtain ⟨W0, hW0⟩ : ∃ W0, (w.alloc (.cells #[.slice A im.length c, .slice A2 l.length c2] 26)).alloc (.cells #[.slice none 0 0, .slice none 0 0] 26) = W0 := ⟨_, rfl⟩
  have hB0 : Below w.heap.size w W0 := by rw [← hW0]; exact ext_alloc (ext_alloc (Below.refl _ _))
  have hs0 : n0 + 1 < W0.heap.size := by rw [← hW0, ← hn0]; simp
  have hr0 : W0.heap[n0]? = some (.cells #[.slice A im.length c, .slice A2 l.length c2] 26 (0, 0)) := by rw [← hW0, ← hn0]; exact (Below.heap_alloc _ _ _ (by simp)).trans (heap_alloc_new _ _)
  have hrz0 : W0.heap[n0 + 1]? = some (.cells #[.slice none 0 0, .slice none 0 0] 26 (0, 0)) := by rw [← hW0, ← hn0]; exact heap_new2 _ _ _
  have hc0 := (hB0.cell (p := ⟨a, 0, none⟩) ha).trans hc
  have hc20 := (hB0.cell (p := ⟨a2, 0, none⟩) ha2).trans hc2; have HC := Lib.hid (snTake_any A A2 c c2 _ _ im l num tm W0 rfl rfl (h1.fwd hB0) (h2.fwd hB0) hL hi); clear hc2
  obtain ⟨p0, p1, _⟩ := blk2 hr0
  have HBB := Lib.hid hB0
  clear h1 h2 hr0 hc hB0
  go_enter Tryz.func85, Tryz.ntmps85
  go_wp2_with fail
  refine HC.out.mono ?_
  intro e w1 he
  obtain ⟨B, vc, D, dc, rfl, ⟨g1, g2, g3⟩, ⟨g4, g5, g6⟩, hb1⟩ := he.rd
  have hrz1 := (hb1.block _ hs0).trans hrz0
  have G3 := Lib.hid g3; have G6 := Lib.hid g6
  have hz1 := hb1.size
  have hbw1 : Below w.heap.size w w1 := HBB.out.trans (hb1.mono HBB.out.size)
  obtain ⟨q0, q1, _⟩ := blk2 hrz1
  clear p0 p1 hc0 HC he g3 g6 hW0 hrz0
  go_wp2_with fail
  clear q0 q1
  have hend := sn_end37 (w := w) hrz1 (by omega) hbw1 (s := (takeS (im, l) num tm)) (B := B) (D := D) (vc := vc) (dc := dc) ⟨g1, g2, G3.out.more (fun q hq => ⟨by have := hq.1; omega, by have := hq.2; omega, by have := hq.1; omega⟩)⟩ ⟨g4, g5, G6.out.more (fun q hq => ⟨by have := hq.1; omega, by have := hq.2; omega, by have := hq.1; omega⟩)⟩ (takeE (im, l) num tm)
  obtain ⟨hz, hret⟩ := hend
  change bodyPost _ _ _ _ _ ((w1.setCell ⟨n0 + 1, 0, none⟩ (.slice B ((takeS (im, l) num tm)).1.length vc)).setCell ⟨n0 + 1, 1, none⟩ (.slice D ((takeS (im, l) num tm)).2.length dc))
  generalize (w1.setCell ⟨n0 + 1, 0, none⟩ (.slice B ((takeS (im, l) num tm)).1.length vc)).setCell ⟨n0 + 1, 1, none⟩ (.slice D ((takeS (im, l) num tm)).2.length dc) = W3 at hz hret ⊢
  obtain ⟨z0, z1, _⟩ := blk2 hz
  refine bodyPost_ret (v := .tuple #[.agg #[.slice B ((takeS (im, l) num tm)).1.length vc, .slice D ((takeS (im, l) num tm)).2.length dc], .int .i64 (takeE (im, l) num tm)]) ?_ rfl ?_
  · simp [results, Tryz.results85, Tryz.f85, go_sem, z0, z1]
  exact hret
end Go.Proofs.YtgndgkjefgjamaaGreat

/-
  The laws on clones: a variable of clones, and what each call does to it.; How the types of this program read; the closed facts on it.; How snapshots read; closed facts.; How clones and strings read; closed facts.
-/
import Derived.BigQuiet
import Derived.Test.YtgndgkjefgjamaaGreatRows
import Derived.Test.YtgndgkjefgjamaaGreatZ01
import Derived.Test.YtgndgkjefgjamaaGreatZ02
import Derived.Test.YtgndgkjefgjamaaGreatZ03
import Derived.Test.YtgndgkjefgjamaaGreatZ04
import Derived.Test.YtgndgkjefgjamaaGreatZ05
import Derived.Test.YtgndgkjefgjamaaGreatZ06
import Derived.Test.YtgndgkjefgjamaaGreatZ07
import Derived.Test.YtgndgkjefgjamaaGreatZ08
import Derived.Test.YtgndgkjefgjamaaGreatZ09
import Derived.Test.YtgndgkjefgjamaaGreatZ10
import Derived.Test.YtgndgkjefgjamaaGreatZ11
import Derived.Test.YtgndgkjefgjamaaGreatZ12
import Derived.Test.YtgndgkjefgjamaaGreatZ13
import Derived.Test.YtgndgkjefgjamaaGreatZ14
import Derived.Test.YtgndgkjefgjamaaGreatZ15
import Derived.Test.YtgndgkjefgjamaaGreatZ16
set_option linter.unusedVariables false
set_option linter.unusedSimpArgs false
set_option linter.unusedSectionVars false
set_option linter.unnecessarySimpa false
namespace Go.Proofs.YtgndgkjefgjamaaGreat
open Go.RowKit Go.Shelf
attribute [local go_sem] Oper.semAt_some

section
variable {t t' : Nat} {x x' : Cls} {A D G A' D' G' : Option Addr} {c d g c' d' g' : Nat} {W W' : World} {n' : Int} {S : Nat → Prop}
theorem ClI.mkNew (h : ClAt x A c D d G g S W) (hS : ∀ q, S q → q < W.heap.size) : ClI W.heap.size x A c D d G g (W.alloc (.cells #[.slice A x.1.1.length c, .slice D x.1.2.length d, .slice G x.2.length g] 29)) :=
  ⟨heap_alloc_new _ _, h.keep (fun q hq => Below.heap_alloc _ _ _ (hS q hq)) (fun q hq => ⟨by have := hS q hq; omega, by have := hS q hq; simp; omega⟩)⟩
theorem ClI.other (h : ClI t x A c D d G g W) {u : Nat} (hu : t ≠ u) (hk : ∀ b, b ≠ u → W'.heap[b]? = W.heap[b]?) (hz : W'.heap.size = W.heap.size) (hS : ∀ {S : Nat → Prop}, ClAt x A c D d G g S W → ClAt x A c D d G g (fun q => S q ∧ q ≠ u) W) : ClI t x A c D d G g W' :=
  ⟨(hk t hu).trans h.row, (hS h.at_).keep (fun q hq => hk q hq.2) (fun q hq => ⟨hq.1.1, by rw [hz]; exact hq.1.2⟩)⟩
/-- a variable whose memory another variable is not -/
structure ClJ (t u : Nat) (x : Cls) (A : Option Addr) (c : Nat) (D : Option Addr) (d : Nat) (G : Option Addr) (g : Nat) (W : World) : Prop where
  row : W.heap[t]? = some (.cells #[.slice A x.1.1.length c, .slice D x.1.2.length d, .slice G x.2.length g] 29 (0, 0))
  at_ : ClAt x A c D d G g (fun q => q ≠ t ∧ q ≠ u ∧ q < W.heap.size) W
theorem ClJ.cli {u : Nat} (h : ClJ t u x A c D d G g W) : ClI t x A c D d G g W := ⟨h.row, h.at_.keep (fun _ _ => rfl) (fun q hq => ⟨hq.1, hq.2.2⟩)⟩
theorem ClJ.below {u : Nat} (h : ClJ t u x A c D d G g W) (hb : Below W.heap.size W W') : ClJ t u x A c D d G g W' :=
  ⟨(hb.block t h.cli.lt).trans h.row, h.at_.keep (fun q hq => hb.block q hq.2.2) (fun q hq => ⟨hq.1, hq.2.1, by have := hq.2.2; have := hb.size; omega⟩)⟩
theorem ClJ.other {u : Nat} (h : ClJ t u x A c D d G g W) (hu : t ≠ u) (hk : ∀ b, b ≠ u → W'.heap[b]? = W.heap[b]?) (hz : W'.heap.size = W.heap.size) : ClJ t u x A c D d G g W' :=
  ⟨(hk t hu).trans h.row, h.at_.keep (fun q hq => hk q hq.2.1) (fun q hq => ⟨hq.1, hq.2.1, by rw [hz]; exact hq.2.2⟩)⟩
theorem ClI.le (h : ClI t x A c D d G g W) : x.1.1.length ≤ 9223372036854775807 ∧ x.1.2.length ≤ 9223372036854775807 ∧ x.2.length ≤ 9223372036854775807 := by
  have h1 := h.at_.im; have h2 := h.at_.sn; have h3 := h.at_.cl
  unfold maxLen at h1 h2 h3
  omega
theorem riFew (h : ClI t x A c D d G g W) {q : Bool} (hq : fewC x = q) : Calls Tryz.prog 10 #[.agg #[.slice A x.1.1.length c, .slice D x.1.2.length d, .slice G x.2.length g]] W fun e w' => e = .returned (.bool q) ∧ Below W.heap.size W w' := by
  have hl := h.le
  obtain ⟨⟨im, l⟩, cl⟩ := x
  exact rcFew_any A D G c d g _ _ _ im l cl q W rfl rfl rfl hq h.im h.sn h.cl hl.1 hl.2.1 hl.2.2
theorem riSame (h : ClI t x A c D d G g W) (h' : ClI t' x A' c' D' d' G' g' W) : Calls Tryz.prog 16 #[.agg #[.slice A x.1.1.length c, .slice D x.1.2.length d, .slice G x.2.length g], .agg #[.slice A' x.1.1.length c', .slice D' x.1.2.length d', .slice G' x.2.length g']] W fun e w' => e = .returned (.bool true) ∧ Below W.heap.size W w' := by
  have hl := h.le
  obtain ⟨⟨im, l⟩, cl⟩ := x
  exact rcSame_true A D G A' D' G' c d g c' d' g' _ _ _ im l cl W rfl rfl rfl h.im h.sn h.cl h'.im h'.sn h'.cl hl.1 hl.2.1 hl.2.2
end
end Go.Proofs.YtgndgkjefgjamaaGreat
namespace Go.Proofs.YtgndgkjefgjamaaGreat
open Go.RowKit Go.ChangeShapes Go.WideShapes Go.ChangeAt

theorem own : ownKnob Tryz.prog.godebug = none := by kernel_rfl
theorem laidOut : laidOutB Tryz.prog = true := by kernel_rfl
theorem op_int : Opens Tryz.prog 3 encInt := opens_int Tryz.underlying3 (by kernel_rfl)
theorem op_sec : Opens Tryz.prog 95 encSec := opens_sec Tryz.underlying95 (by kernel_rfl) Tryz.underlying5 (by kernel_rfl)
theorem op_secs : Opens Tryz.prog 43 (encSl encSec) := opens_slice Tryz.underlying43 (by kernel_rfl) op_sec (by decide)
theorem op_wr : Opens Tryz.prog 45 encWr := opens_struct Tryz.underlying45 (opensF_cons rfl op_int (opensF_cons rfl op_int (opensF_one rfl op_secs (by kernel_rfl))))
theorem op_wrs : Opens Tryz.prog 64 (encSl encWr) := opens_slice Tryz.underlying64 (by kernel_rfl) op_wr (by decide)
theorem op_img : Opens Tryz.prog 23 (encSl (encSl encSec)) := opens_slice Tryz.underlying23 (by kernel_rfl) op_secs (by decide)
end Go.Proofs.YtgndgkjefgjamaaGreat
namespace Go.Proofs.YtgndgkjefgjamaaGreat
open Go.RowKit Go.ChangeShapes Go.WideShapes Go.ChangeAt

abbrev encSns : Enc Sns := encPair (encSl (encSl encSec)) (encSl encSnp)
theorem op_snap : Opens Tryz.prog 158 encSnp := opens_struct Tryz.underlying158 (opensF_cons rfl op_int (opensF_cons rfl op_int (opensF_one rfl op_wrs (by kernel_rfl))))
theorem op_snaps : Opens Tryz.prog 24 (encSl encSnp) := opens_slice Tryz.underlying24 (by kernel_rfl) op_snap (by decide)
theorem op_sns : Opens Tryz.prog 26 encSns := opens_struct Tryz.underlying26 (opensF_cons rfl op_img (opensF_one rfl op_snaps (by kernel_rfl)))
end Go.Proofs.YtgndgkjefgjamaaGreat
namespace Go.Proofs.YtgndgkjefgjamaaGreat
open Go.RowKit Go.ChangeShapes Go.WideShapes Go.ChangeAt

theorem opens_str {P : Program} {t : TypeId} (ht : P.underlying t = some .string) (hc : P.cellsOf t = 1) : Opens P t encStr := by
  refine ⟨hc, fun H enc w base spare held fuel cs x h => ?_⟩
  obtain ⟨s, rfl, _, hs⟩ := DataW.trod_string ht h
  exact ⟨s, rfl, hs⟩
theorem op_str : Opens Tryz.prog 9 encStr := opens_str Tryz.underlying9 (by kernel_rfl)
theorem op_cln : Opens Tryz.prog 87 encCln := opens_struct Tryz.underlying87 (opensF_cons rfl op_str (opensF_cons rfl op_int (opensF_one rfl op_wrs (by kernel_rfl))))
theorem op_clns : Opens Tryz.prog 27 (encSl encCln) := opens_slice Tryz.underlying27 (by kernel_rfl) op_cln (by decide)
theorem op_cls : Opens Tryz.prog 29 (encPair encSns (encSl encCln)) := opens_struct Tryz.underlying29 (opensF_cons rfl op_sns (opensF_one rfl op_clns (by kernel_rfl)))
section
variable {H : Type} {enc : TypeId × Value → H} {W : World} {base b0 : Nat} {spare : Nat → Bool} {held : Bool} {r : Reach} {v : Value} {d : DataW H} {p : List MemPlace}
set_option maxRecDepth 100000 in
theorem arg_cls (hv : Value.okWide Tryz.prog W r b0 29 v) (h : DataW.Trod enc Tryz.prog W base spare held 29 v d p) :
    ∃ (x : Cls) (A : Option Addr) (c : Nat) (D : Option Addr) (d : Nat) (G : Option Addr) (g : Nat), v = .agg #[.slice A x.1.1.length c, .slice D x.1.2.length d, .slice G x.2.length g] ∧ ClAt x A c D d G g (Bl W.heap.size) W := by
  obtain ⟨cs, x, rfl, hr⟩ := arg_struct Tryz.underlying29 op_cls hv h
  obtain ⟨e1, e2, he, ⟨c1, c2, he2, ⟨A, c, rfl, h3, h4, h5⟩, ⟨A2, c2', rfl, h6, h7, h8⟩⟩, ⟨A3, c3', rfl, h9, h10, h11⟩⟩ := hr
  refine ⟨x, A, c, A2, c2', A3, c3', ?_, ⟨h3, h4, h5⟩, ⟨h6, h7, h8⟩, ⟨h9, h10, h11⟩⟩
  congr 1
  exact Array.toList_inj.1 (by rw [he, he2]; simp)
end
end Go.Proofs.YtgndgkjefgjamaaGreat

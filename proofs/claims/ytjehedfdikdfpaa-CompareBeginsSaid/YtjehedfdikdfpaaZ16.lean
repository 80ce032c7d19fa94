/-
  How walks and messages read; closed facts.
-/
import Derived.Test.YtjehedfdikdfpaaZ06
import Derived.Test.YtjehedfdikdfpaaZ15
set_option linter.unusedVariables false
set_option linter.unusedSimpArgs false
set_option linter.unusedSectionVars false
set_option linter.unnecessarySimpa false
namespace Go.Proofs.Ytjehedfdikdfpaa
open Go.RowKit Go.ChangeShapes Go.WideShapes Go.ChangeAt

abbrev encWalk : Enc Wk := encPair encTree (encPair (encSl encExt) (encPair encInt (encPair (encSl encExt) (encPair encInt encBool))))
abbrev encMess : Enc Msg := encPair encInt (encPair encInt (encPair encInt (encPair encInt (encPair encInt (encPair encInt (encPair (encSl encInt) (encSl encU8)))))))
theorem op_boolM : Opens Try.prog 4 encBool := opens_bool Try.underlying4 (by kernel_rfl)
theorem op_u8sM : Opens Try.prog 43 (encSl encU8) := opens_slice Try.underlying43 (by kernel_rfl) op_u8 (by decide)
theorem op_walk : Opens Try.prog 27 encWalk := opens_struct Try.underlying27 (opensF_cons rfl op_tree (opensF_cons rfl op_exts (opensF_cons rfl op_int (opensF_cons rfl op_exts (opensF_cons rfl op_int (opensF_one rfl op_boolM (by kernel_rfl)))))))
theorem op_mess : Opens Try.prog 45 encMess := opens_struct Try.underlying45 (opensF_cons rfl op_int (opensF_cons rfl op_int (opensF_cons rfl op_int (opensF_cons rfl op_int (opensF_cons rfl op_int (opensF_cons rfl op_int (opensF_cons rfl op_ints (opensF_one rfl op_u8sM (by kernel_rfl)))))))))
set_option maxRecDepth 100000 in
theorem arg_walk {H : Type} {enc : TypeId × Value → H} {W : World} {base b0 : Nat} {spare : Nat → Bool} {held : Bool} {r : Reach} {v : Value} {d : DataW H} {p : List MemPlace} (hv : Value.okWide Try.prog W r b0 27 v) (h : DataW.Trod enc Try.prog W base spare held 27 v d p) :
    ∃ x : Wk, WkVal W (Bl W.heap.size) x v := by
  obtain ⟨cs, x, rfl, hr⟩ := arg_struct Try.underlying27 op_walk hv h
  obtain ⟨⟨s, lf, l⟩, pp, lv, f, sent, done⟩ := x
  obtain ⟨t1, t2, he, ⟨c1, c2, rfl, ⟨rfl, h1⟩, c3, c4, rfl, ⟨rfl, h2⟩, A, c, rfl, h3, h4, h5⟩, c5, c6, rfl, ⟨P, pc, rfl, h6, h7, h8⟩, c7, c8, rfl, ⟨rfl, h9⟩, c9, c10, rfl, ⟨F, fc, rfl, h10, h11, h12⟩, c11, c12, rfl, ⟨rfl, h13⟩, rfl⟩ := hr
  refine ⟨((s, lf, l), pp, lv, f, sent, done), A, c, P, pc, F, fc, ?_, ⟨h3, h4, h5⟩, ⟨h6, h7, h8⟩, ⟨h10, h11, h12⟩, h1, h2, h9, h13⟩
  congr 1
  exact Array.toList_inj.1 (by simpa using he)
set_option maxRecDepth 100000 in
theorem arg_mess {H : Type} {enc : TypeId × Value → H} {W : World} {base b0 : Nat} {spare : Nat → Bool} {held : Bool} {r : Reach} {v : Value} {d : DataW H} {p : List MemPlace} (hv : Value.okWide Try.prog W r b0 45 v) (h : DataW.Trod enc Try.prog W base spare held 45 v d p) :
    ∃ x : Msg, MsgVal W (Bl W.heap.size) x v := by
  obtain ⟨cs, x, rfl, hr⟩ := arg_struct Try.underlying45 op_mess hv h
  obtain ⟨x0, x1, x2, x3, x4, x5, vs, bs⟩ := x
  obtain ⟨t1, t2, he, ⟨rfl, h1⟩, c3, c4, rfl, ⟨rfl, h2⟩, c5, c6, rfl, ⟨rfl, h3⟩, c7, c8, rfl, ⟨rfl, h4⟩, c9, c10, rfl, ⟨rfl, h5⟩, c11, c12, rfl, ⟨rfl, h6⟩, c13, c14, rfl, ⟨V, vc, rfl, h7, h8, h9⟩, B, bc, rfl, h10, h11, h12⟩ := hr
  refine ⟨(x0, x1, x2, x3, x4, x5, vs, bs), V, vc, B, bc, ?_, ⟨h1, h2, h3, h4, h5, h6⟩, ⟨h7, h8, h9⟩, h10, h11, h12⟩
  congr 1
  exact Array.toList_inj.1 (by simpa using he)
end Go.Proofs.Ytjehedfdikdfpaa

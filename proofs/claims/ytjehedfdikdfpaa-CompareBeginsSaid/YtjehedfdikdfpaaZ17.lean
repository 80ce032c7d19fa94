/-
  ref44.Begin: the walk.; ref44.Check: the walk.; ref44.digest: the walk.
-/
import Derived.BigQuiet
import Derived.RegionTactic
import Derived.BigRegion
import Derived.Test.YtjehedfdikdfpaaZ02
import Derived.Test.YtjehedfdikdfpaaZ04
import Derived.Test.YtjehedfdikdfpaaZ05
import Derived.Test.YtjehedfdikdfpaaZ07
import Derived.Test.YtjehedfdikdfpaaZ08
import Derived.Test.YtjehedfdikdfpaaZ13
set_option linter.unusedVariables false
set_option linter.unusedSimpArgs false
set_option linter.unusedSectionVars false
set_option linter.unnecessarySimpa false
namespace Go.Proofs.Ytjehedfdikdfpaa
open Go.RowKit Go.Shelf
attribute [local go_sem] Oper.semAt_some

/-- a walk whose tree lies in blocks S or in new ones, messages in new ones, and the number of an error -/
def RetWS (S : Nat → Prop) (x : Wk) (ms : List Msg) (r : Int) (w : World) (e : Ending) (w' : World) : Prop :=
  ∃ v B bc, e = .returned (.tuple #[v, .slice B ms.length bc, .int .i64 r]) ∧ WkVal w' (fun g => S g ∨ Nw w.heap.size w'.heap.size g) x v ∧ ms.length ≤ bc ∧ bc ≤ maxLen ∧ SlAt encMsg w' (Nw w.heap.size w'.heap.size) B ms ∧ Below w.heap.size w w'
theorem wk_endS {S : Nat → Prop} {w W : World} {b : Nat} {T : TypeId} {c0 c1 c2 c3 c4 c5 c6 c7 u0 u1 u2 u3 u4 u5 u6 u7 : Value} (hrow : W.heap[b]? = some (.cells #[c0, c1, c2, c3, c4, c5, c6, c7] T (0, 0))) (hb : w.heap.size ≤ b) (hB : Below w.heap.size w W) {x : Wk}
    (hv : WkVal W (fun g => (S g ∨ w.heap.size ≤ g) ∧ g < W.heap.size ∧ g ≠ b) x (.agg #[u0, u1, u2, u3, u4, u5, u6, u7])) {ms : List Msg} {B : Option Addr} {n bc : Nat} (hn : ms.length = n) (hm : n ≤ bc ∧ bc ≤ maxLen ∧ SlAt encMsg W (fun g => w.heap.size ≤ g ∧ g < W.heap.size ∧ g ≠ b) B ms) (r : Int) :
    (set8 W b u0 u1 u2 u3 u4 u5 u6 u7).heap[b]? = some (.cells #[u0, u1, u2, u3, u4, u5, u6, u7] T (0, 0)) ∧
    RetWS S x ms r w (.returned (.tuple #[.agg #[u0, u1, u2, u3, u4, u5, u6, u7], .slice B n bc, .int .i64 r])) (set8 W b u0 u1 u2 u3 u4 u5 u6 u7) := by
  subst hn
  have ho : ∀ g, (w.heap.size ≤ g ∧ g < W.heap.size ∧ g ≠ b) → (set8 W b u0 u1 u2 u3 u4 u5 u6 u7).heap[g]? = W.heap[g]? := fun g hg => set8_other hg.2.2 _ _ _ _ _ _ _ _
  have hs : ∀ g, (w.heap.size ≤ g ∧ g < W.heap.size ∧ g ≠ b) → Nw w.heap.size (set8 W b u0 u1 u2 u3 u4 u5 u6 u7).heap.size g := fun g hg => ⟨hg.1, by rw [set8_sz]; exact hg.2.1⟩
  exact ⟨set8_row hrow _ _ _ _ _ _ _ _, _, B, bc, rfl, hv.keep (fun g hg => set8_other hg.2.2 _ _ _ _ _ _ _ _) (fun g hg => hg.1.imp id (fun h => ⟨h, by rw [set8_sz]; exact hg.2.1⟩)), hm.1, hm.2.1, (hm.2.2.blk ho).more hs, set8_below hB hb _ _ _ _ _ _ _ _⟩
theorem wk_req_endS {S : Nat → Prop} {w w3 : World} {rb : Nat} {T : TypeId} {c0 c1 c2 c3 c4 c5 c6 c7 u0 u1 u2 u3 u4 u5 u6 u7 : Value} (hrow : w3.heap[rb]? = some (.cells #[c0, c1, c2, c3, c4, c5, c6, c7] T (0, 0))) (hb : w.heap.size ≤ rb) (hB : Below w.heap.size w w3) {x : Wk}
    (hv : WkVal w3 (fun g => (S g ∨ w.heap.size ≤ g) ∧ g < w3.heap.size ∧ g ≠ rb) x (.agg #[u0, u1, u2, u3, u4, u5, u6, u7])) {V : Option Addr} {n vc : Nat} (hn : (reqL x.1.1 x.1.2.1 x.2.1).length = n) (hV : n ≤ vc ∧ vc ≤ maxLen ∧ SlAt encInt w3 (fun g => w.heap.size ≤ g ∧ g < w3.heap.size ∧ g ≠ rb) V (reqL x.1.1 x.1.2.1 x.2.1)) :
    ((set8 w3 rb u0 u1 u2 u3 u4 u5 u6 u7).alloc (.cells #[.int .i64 13, .int .i64 0, .int .i64 0, .int .i64 x.2.2.1, .int .i64 0, .int .i64 0, .slice V n vc, .slice none 0 0] 45)).heap[rb]? = some (.cells #[u0, u1, u2, u3, u4, u5, u6, u7] T (0, 0)) ∧
    RetWS S x [reqMsg x] 0 w (.returned (.tuple #[.agg #[u0, u1, u2, u3, u4, u5, u6, u7], .slice (some ⟨w3.heap.size, 0, none⟩) 1 1, .int .i64 0])) ((set8 w3 rb u0 u1 u2 u3 u4 u5 u6 u7).alloc (.cells #[.int .i64 13, .int .i64 0, .int .i64 0, .int .i64 x.2.2.1, .int .i64 0, .int .i64 0, .slice V n vc, .slice none 0 0] 45)) := by
  subst hn
  have hr0 := set8_row hrow u0 u1 u2 u3 u4 u5 u6 u7
  have hsz : (set8 w3 rb u0 u1 u2 u3 u4 u5 u6 u7).heap.size = w3.heap.size := set8_sz
  have hB8 : Below w.heap.size w (set8 w3 rb u0 u1 u2 u3 u4 u5 u6 u7) := set8_below hB hb _ _ _ _ _ _ _ _
  have ho : ∀ g, g ≠ rb → (set8 w3 rb u0 u1 u2 u3 u4 u5 u6 u7).heap[g]? = w3.heap[g]? := fun g hg => set8_other hg _ _ _ _ _ _ _ _
  generalize set8 w3 rb u0 u1 u2 u3 u4 u5 u6 u7 = W8 at hr0 hsz hB8 ho ⊢
  have ho2 : ∀ g, (g < w3.heap.size ∧ g ≠ rb) → (W8.alloc (.cells #[.int .i64 13, .int .i64 0, .int .i64 0, .int .i64 x.2.2.1, .int .i64 0, .int .i64 0, .slice V (reqL x.1.1 x.1.2.1 x.2.1).length vc, .slice none 0 0] 45)).heap[g]? = w3.heap[g]? := fun g hg => (Below.heap_alloc _ _ _ (by rw [hsz]; exact hg.1)).trans (ho g hg.2)
  have hlv : I64 x.2.2.1 := by obtain ⟨_, _, _, _, _, _, _, _, _, _, h⟩ := hv; exact h.2.2.1
  have hrb : rb < W8.heap.size := (Array.getElem?_eq_some_iff.1 hr0).1
  refine ⟨(Below.heap_alloc _ _ _ hrb).trans hr0, _, _, _, rfl, hv.keep (fun g hg => ho2 g hg.2) (fun g hg => hg.1.imp id (fun h => ⟨h, by simp; omega⟩)), Nat.le_refl _, by unfold maxLen; decide, ?_, hB8.alloc hB8.size _⟩
  refine litS44 (E := encMsg) (S0 := fun g => w.heap.size ≤ g ∧ g < w3.heap.size ∧ g ≠ rb) (css := [[.int .i64 13, .int .i64 0, .int .i64 0, .int .i64 x.2.2.1, .int .i64 0, .int .i64 0, .slice V (reqL x.1.1 x.1.2.1 x.2.1).length vc, .slice none 0 0]]) (by rw [← hsz]; exact heap_alloc_new _ _) rfl ⟨?_, trivial⟩ (fun g hg => ⟨hg.1, by simp; omega⟩) ⟨hB.size, by simp; omega⟩ (fun h => by have := h.2.1; omega)
  have i13 : I64 13 := by unfold I64; decide
  have i0 : I64 0 := by unfold I64; decide
  exact ⟨V, vc, none, 0, rfl, ⟨i13, i0, i0, hlv, i0, i0⟩, ⟨hV.1, hV.2.1, hV.2.2.blk (fun g hg => ho2 g hg.2)⟩, Nat.zero_le _, Nat.zero_le _, SlAt.nil_⟩
set_option maxHeartbeats 4000000 in
set_option maxRecDepth 100000 in
theorem refBegin44_any (S : Nat → Prop) (s lf : Int) (A : Option Addr) (c n : Nat) (l : List (List Int)) (w : World) (hn : l.length = n) (hS : ∀ g, S g → g < w.heap.size) (h1 : SlAt (encSl encU64) w S A l) (hs : n ≤ 100000) (hc : n ≤ c ∧ c ≤ maxLen) (hI : I64 s ∧ I64 lf) :
    Calls Try.prog 15 #[.agg #[.int .i64 s, .int .i64 lf, .slice A n c]] w (RetWS S (begW (s, lf, l)) (begM (s, lf, l)) (checkT (s, lf, l)) w) := by
  subst hn
  obtain ⟨n0, hn0⟩ : ∃ n0, w.heap.size = n0 := ⟨_, rfl⟩
  obtain ⟨W0, hW0⟩ : ∃ W0, (w.alloc (.cells #[.int .i64 s, .int .i64 lf, .slice A l.length c] 24)).alloc (.cells #[.int .i64 0, .int .i64 0, .slice none 0 0, .slice none 0 0, .int .i64 0, .slice none 0 0, .int .i64 0, .bool false] 27) = W0 := ⟨_, rfl⟩
  have hB0 : Below n0 w W0 := by rw [← hW0, ← hn0]; exact ext_alloc (ext_alloc (Below.refl _ _))
  have hs0 : W0.heap.size = n0 + 2 := by rw [← hW0, ← hn0]; simp
  have hr0 : W0.heap[n0]? = some (.cells #[.int .i64 s, .int .i64 lf, .slice A l.length c] 24 (0, 0)) := by
    rw [← hW0, ← hn0]; exact (Below.heap_alloc _ _ _ (by simp)).trans (heap_alloc_new _ _)
  have hr1 : W0.heap[n0 + 1]? = some (.cells #[.int .i64 0, .int .i64 0, .slice none 0 0, .slice none 0 0, .int .i64 0, .slice none 0 0, .int .i64 0, .bool false] 27 (0, 0)) := by
    rw [← hW0, ← hn0]; exact heap_new2 _ _ _
  obtain ⟨n2, hn2⟩ : ∃ n2, W0.heap.size = n2 := ⟨_, rfl⟩
  have hn02 : n0 + 2 ≤ n2 := by omega
  have HT : Hid (∀ W, Below n2 W0 W → W.cell? ⟨n0, 0, none⟩ = some (.int .i64 s) ∧ W.cell? ⟨n0, 1, none⟩ = some (.int .i64 lf) ∧ W.cell? ⟨n0, 2, none⟩ = some (.slice A l.length c)) := fun W hb => by
    obtain ⟨a0, a1, a2, _⟩ := blk3 ((hb.block n0 (by omega)).trans hr0)
    exact ⟨a0, a1, a2⟩
  have HR : Hid (∀ W, Below n2 W0 W → W.heap[n0 + 1]? = some (.cells #[.int .i64 0, .int .i64 0, .slice none 0 0, .slice none 0 0, .int .i64 0, .slice none 0 0, .int .i64 0, .bool false] 27 (0, 0))) := fun W hb => (hb.block _ (by omega)).trans hr1
  have hS0 : ∀ g, S g → g < n0 := fun g hg => by rw [← hn0]; exact hS g hg
  have H1 : Hid (∀ W, Below n2 W0 W → SlAt (encSl encU64) W S A l) := fun W hb => h1.blk (fun g hg => (hb.block g (by have := hS0 g hg; omega)).trans (hB0.block g (hS0 g hg)))
  obtain ⟨r, hr⟩ : ∃ r, checkT (s, lf, l) = r := ⟨_, rfl⟩
  have HCH := Lib.hid (fun W (hb : Below n2 W0 W) => ref11Check_any s lf A c l.length l r W rfl hr ((H1.out W hb).more (fun g hg => by have := hS0 g hg; have := hb.size; show g < W.heap.size; omega)) hs hc hI)
  have HBW : Hid (r = 0 → begW (s, lf, l) = ((s, lf, l), [(0, 1)], (l.length : Int) - 1, [], 0, false)) := fun h => by unfold begW; rw [if_pos (hr.trans h)]
  have HBE : Hid (r ≠ 0 → begW (s, lf, l) = zWk ∧ begM (s, lf, l) = []) := fun h => by unfold begW begM; rw [if_neg (by rw [hr]; exact h), if_neg (by rw [hr]; exact h)]; exact ⟨rfl, rfl⟩
  have HBM : Hid (r = 0 → begM (s, lf, l) = [reqMsg (begW (s, lf, l))]) := fun h => by unfold begM; rw [if_pos (hr.trans h)]
  have HSR : Hid (r = 0 → 0 < l.length ∧ l.length ≤ 13) := fun h => by
    have h2 := hr.trans h
    obtain ⟨n', m', _, _, tk⟩ := checkT_TOk h2
    exact ⟨tk.ne, tk.len⟩
  rw [hr]
  have HB0 := Lib.hid hB0
  have HN0 := Lib.hid hn0
  have HS0 := Lib.hid hS0
  obtain ⟨p0, p1, p2⟩ := HT.out W0 (Below.refl _ _)
  clear h1 hr0 hr1 hr hs0 hS0 hS
  go_enter Try.func15, Try.ntmps15
  go_wp2_with fail
  refine (HCH.out W0 (Below.refl _ _)).mono ?_
  rintro e w1 ⟨rfl, hb1⟩
  rw [hn2] at hb1
  clear p0 p1 p2 hW0
  obtain ⟨p0, p1, p2⟩ := HT.out w1 hb1
  by_cases hr : r = 0
  · subst hr
    obtain ⟨hl0, hl13⟩ := HSR.out rfl
    have hz1 := hb1.size
    obtain ⟨bp, hbp⟩ : ∃ bp, w1.heap.size = bp := ⟨_, rfl⟩
    obtain ⟨Wp, hWp⟩ : ∃ Wp, w1.alloc (.cells #[.int .i64 0, .int .i64 1] 67) = Wp := ⟨_, rfl⟩
    have hzp : Wp.heap.size = bp + 1 := by rw [← hWp, ← hbp]; simp
    have hbpw : Below bp w1 Wp := by rw [← hWp, ← hbp]; exact ext_alloc (Below.refl _ _)
    have hPp : SlAt encExt Wp (fun g => g = bp) (some ⟨bp, 0, none⟩) [(0, 1)] :=
      litS44 (E := encExt) (S0 := fun _ => False) (css := [[.int .i64 0, .int .i64 1]]) (by rw [← hWp, ← hbp]; exact heap_alloc_new _ _) rfl ⟨ext_mk (x := ((0 : Int), (1 : Int))) (by unfold I64; decide) (by unfold I64; decide), trivial⟩ (fun _ h => h.elim) rfl (fun h => h)
    obtain ⟨Wq, hWq⟩ : ∃ Wq, Wp.alloc (.cells #[.int .i64 s, .int .i64 lf, .slice A l.length c, .slice (some ⟨bp, 0, none⟩) 1 1, .int .i64 ((l.length : Int) - 1), .slice none 0 0, .int .i64 0, .bool false] 27) = Wq := ⟨_, rfl⟩
    have hzq : Wq.heap.size = bp + 1 + 1 := by rw [← hWq, ← hzp]; simp
    have hbq : Below (bp + 1) Wp Wq := by rw [← hWq, ← hzp]; exact ext_alloc (Below.refl _ _)
    have hrq : Wq.heap[bp + 1]? = some (.cells #[.int .i64 s, .int .i64 lf, .slice A l.length c, .slice (some ⟨bp, 0, none⟩) 1 1, .int .i64 ((l.length : Int) - 1), .slice none 0 0, .int .i64 0, .bool false] 27 (0, 0)) := by rw [← hWq, ← hzp]; exact heap_alloc_new _ _
    have hb0q : Below n2 W0 Wq := hb1.trans ((hbpw.mono (by omega)).trans (hbq.mono (by omega)))
    have hl1 : IntKind.i64.wrap ((l.length : Int) - 1) = (l.length : Int) - 1 := IntWalk.i64_in _ (by omega)
    obtain ⟨pp0, pp1, pp2⟩ := HT.out Wp (hb1.trans (hbpw.mono (by omega)))
    have HRQ := Lib.hid hrq
    have HPQ := Lib.hid (hPp.blk (w' := Wq) (fun g hg => hbq.block g (by have : g = bp := hg; omega)))
    have HWX := Lib.hid (HBW.out rfl)
    have HMX := Lib.hid (HBM.out rfl)
    have HWQ := Lib.hid hWq
    clear hrq hPp hWq
    go_upto_region 4 with (fail)
    go_upto_region 5 with (fail)
    rw [HWQ.out]
    have hi1 : I64 ((l.length : Int) - 1) := by unfold I64; omega
    have hi0 : I64 0 := by unfold I64; omega
    have hQB : n0 + 1 < Wq.heap.size := by omega
    have hQB0 : w.heap.size ≤ n0 + 1 := by have := HN0.out; omega
    have hbXx : bp + 1 < Wq.heap.size := by omega
    have HRWX := Lib.hid (fun W (hb : BelX (n0 + 1) Wq W) => (hb (bp + 1) hbXx (by omega)).trans HRQ.out)
    have HROW := Lib.hid (HR.out Wq hb0q)
    have HBQ : Hid (Below w.heap.size w Wq) := by rw [Hid, HN0.out]; exact HB0.out.trans (hb0q.mono (by omega))
    have HREQ := Lib.hid (refReq_any s lf ((l.length : Int) - 1) 0 false A (some ⟨bp, 0, none⟩) none l.length c 1 1 0 0 [(0, 1)] Wq.drew rfl (by omega) hI ((HPQ.out.blk (w' := Wq.drew) (fun _ _ => rfl)).more (fun g hg => by have : g = bp := hg; show g < Wq.heap.size; omega)))
    have HAQ := Lib.hid (H1.out Wq hb0q)
    have HV3 : Hid (∀ w3, Below Wq.heap.size Wq w3 → WkVal w3 (fun g => (S g ∨ w.heap.size ≤ g) ∧ g < w3.heap.size ∧ g ≠ n0 + 1) ((s, lf, l), [(0, 1)], (l.length : Int) - 1, [], 0, false) (.agg #[.int .i64 s, .int .i64 lf, .slice A l.length c, .slice (some ⟨bp, 0, none⟩) 1 1, .int .i64 ((l.length : Int) - 1), .slice none 0 0, .int .i64 0, .bool false])) := fun w3 hb => by
      have hz := hb.size
      have hn := HN0.out
      exact ⟨A, c, some ⟨bp, 0, none⟩, 1, none, 0, rfl, ⟨hc.1, hc.2, (HAQ.out.blk (fun g hg => hb.block g (by have := HS0.out g hg; omega))).more (fun g hg => ⟨Or.inl hg, by have := HS0.out g hg; omega, by have := HS0.out g hg; omega⟩)⟩, ⟨Nat.le_refl _, by unfold maxLen; decide, (HPQ.out.blk (fun g hg => hb.block g (by have : g = bp := hg; omega))).more (fun g hg => by have : g = bp := hg; exact ⟨Or.inr (by omega), by omega, by omega⟩)⟩, ⟨Nat.zero_le _, Nat.zero_le _, SlAt.nil_⟩, hI.1, hI.2, hi1, hi0⟩
    have hSw : BelX (n0 + 1) Wq Wq.drew := fun _ _ _ => rfl
    refine wp_region_U (fun W' => BelX (n0 + 1) Wq W') 7 (by kernel_rfl) ?_
    refine wpAnyU_takeD (i := 0) (v := ?_) rfl rfl (by kernel_rfl) (by kernel_rfl) (by kernel_rfl) (by kernel_rfl) (fun _ _ _ h => h) (by rfl) ?_ hSw ?_
    rotate_left 1
    · intro W9 hW9
      try dsimp only at hW9
      obtain ⟨k0, k1, k2, k3, k4, k5, k6, k7, _⟩ := blk8 (HRWX.out W9 hW9)
      go_simp
      try with_reducible rfl
    try simp only [List.setIfInBounds_toArray, List.set_cons_zero, List.set_cons_succ]
    obtain ⟨k0, k1, k2, k3, k4, k5, k6, k7, _⟩ := blk8 (HRWX.out _ hSw)
    refine wpAnyU_op (i := 1) (by kernel_rfl) rfl rfl (fun K hK => ?_)
    go_simp
    refine hK.out _ _ (fun _ => hSw) ?_
    clear hK K
    try simp only [Act.put, List.setIfInBounds_toArray, List.set_cons_zero, List.set_cons_succ]
    clear k0 k1 k2 k3 k4 k5 k6 k7
    refine wpAnyU_op (i := 2) (by kernel_rfl) rfl rfl (fun K hK => ?_)
    go_wp2_with fail
    refine (HREQ.out).mono ?_
    rintro e w3 ⟨V, vc, rfl, ⟨v1, v2, v3⟩, hb3'⟩; have hb3 : Below Wq.heap.size Wq w3 := bUn hb3'
    refine hK.out _ _ (fun _ => (belX_of hb3)) ?_
    clear hK K
    try simp only [Act.put, List.setIfInBounds_toArray, List.set_cons_zero, List.set_cons_succ]
    have hrr := (hb3.block (n0 + 1) hQB).trans HROW.out
    obtain ⟨z0, z1, z2, z3, z4, z5, z6, z7, zf⟩ := blk8 hrr
    have hsz3 := hb3.size
    have hB3 : Below w.heap.size w w3 := HBQ.out.trans (hb3.mono HBQ.out.size)
    have hend := wk_req_endS (w := w) (S := S) hrr hQB0 hB3 (HV3.out w3 hb3) (V := V) (vc := vc) rfl ⟨v1, v2, v3.more (fun g hg => ⟨Nat.le_trans HBQ.out.size hg.1, hg.2, by have := hg.1; have h9 : Wq.drew.heap.size = Wq.heap.size := rfl; omega⟩)⟩
    have HEND := Lib.hid hend
    clear hend v3
    have hbX : BelX (n0 + 1) Wq (set8 w3 (n0 + 1) (.int .i64 s) (.int .i64 lf) (.slice A l.length c) (.slice (some ⟨bp, 0, none⟩) 1 1) (.int .i64 ((l.length : Int) - 1)) (.slice none 0 0) (.int .i64 0) (.bool false)) := fun g h1 h2 => (set8_other h2 _ _ _ _ _ _ _ _).trans (hb3.block g h1)
    have hs8 : (set8 w3 (n0 + 1) (.int .i64 s) (.int .i64 lf) (.slice A l.length c) (.slice (some ⟨bp, 0, none⟩) 1 1) (.int .i64 ((l.length : Int) - 1)) (.slice none 0 0) (.int .i64 0) (.bool false)).heap.size = w3.heap.size := set8_sz
    have hsa := fun o => set8_alloc (w := w3) (o := o) (b := n0 + 1) (.int .i64 s) (.int .i64 lf) (.slice A l.length c) (.slice (some ⟨bp, 0, none⟩) 1 1) (.int .i64 ((l.length : Int) - 1)) (.slice none 0 0) (.int .i64 0) (.bool false) (by omega)
    refine wpAnyU_two (i := 3) (j := 4) (by kernel_rfl) rfl rfl rfl rfl (fun K hK => ?_) (fun K hK => ?_)
    · have hrr' := (Below.heap_alloc w3 (.cells #[.int .i64 13, .int .i64 0, .int .i64 0, .int .i64 ((l.length : Int) - 1), .int .i64 0, .int .i64 0, .slice V (reqL s lf [(0, 1)]).length vc, .slice none 0 0] 45) (n0 + 1) (by omega)).trans hrr
      go_simp
      refine hK.out _ _ (fun _ => fun g h1 h2 => (Below.heap_alloc _ _ _ (by omega)).trans (hb3.block g h1)) ?_
      clear hK K z0 z1 z2 z3 z4 z5 z6 z7 zf
      obtain ⟨z0, z1, z2, z3, z4, z5, z6, z7, zf⟩ := blk8 hrr'
      refine wpAnyU_op (i := 4) (by kernel_rfl) rfl rfl (fun K hK => ?_)
      go_simp
      refine hK.out _ _ (fun _ => fun g h1 h2 => (set8_other h2 _ _ _ _ _ _ _ _).trans ((Below.heap_alloc _ _ _ (by omega)).trans (hb3.block g h1))) ?_
      clear hK K z0 z1 z2 z3 z4 z5 z6 z7 zf
      change wpAnyU _ _ _ _ _ _ _ _ _ (set8 (w3.alloc (.cells #[.int .i64 13, .int .i64 0, .int .i64 0, .int .i64 ((l.length : Int) - 1), .int .i64 0, .int .i64 0, .slice V (reqL s lf [(0, 1)]).length vc, .slice none 0 0] 45)) (n0 + 1) (.int .i64 s) (.int .i64 lf) (.slice A l.length c) (.slice (some ⟨bp, 0, none⟩) 1 1) (.int .i64 ((l.length : Int) - 1)) (.slice none 0 0) (.int .i64 0) (.bool false))
      rw [hsa]
      clear hsa hrr'
      generalize set8 w3 (n0 + 1) (.int .i64 s) (.int .i64 lf) (.slice A l.length c) (.slice (some ⟨bp, 0, none⟩) 1 1) (.int .i64 ((l.length : Int) - 1)) (.slice none 0 0) (.int .i64 0) (.bool false) = W7 at HEND hs8 hbX ⊢
      refine wpAnyU_op (i := 5) (by kernel_rfl) rfl rfl (fun K hK => ?_)
      go_simp
      refine hK.out _ _ (fun _ => (fun g h1 h2 => (Below.heap_alloc _ _ _ (by omega)).trans (hbX g h1 h2))) ?_
      clear hK K
      try simp only [Act.put, List.setIfInBounds_toArray, List.set_cons_zero, List.set_cons_succ]
      refine wpAnyU_op (i := 6) (by kernel_rfl) rfl rfl (fun K hK => ?_)
      go_simp
      refine hK.out _ _ (fun _ => (fun g h1 h2 => (Below.heap_alloc _ _ _ (by omega)).trans (hbX g h1 h2))) ?_
      clear hK K
      try simp only [Act.put, List.setIfInBounds_toArray, List.set_cons_zero, List.set_cons_succ]
      refine wpAnyU_done (by kernel_rfl) ?_ _
      obtain ⟨hz, hret⟩ := HEND.out
      generalize W7.alloc (.cells #[.int .i64 13, .int .i64 0, .int .i64 0, .int .i64 ((l.length : Int) - 1), .int .i64 0, .int .i64 0, .slice V (reqL s lf [(0, 1)]).length vc, .slice none 0 0] 45) = W9 at hz hret ⊢
      obtain ⟨z0, z1, z2, z3, z4, z5, z6, z7, _⟩ := blk8 hz
      go_wp2_with fail
      refine bodyPost_ret (v := .tuple #[.agg #[.int .i64 s, .int .i64 lf, .slice A l.length c, .slice (some ⟨bp, 0, none⟩) 1 1, .int .i64 ((l.length : Int) - 1), .slice none 0 0, .int .i64 0, .bool false], .slice (some ⟨w3.heap.size, 0, none⟩) 1 1, .int .i64 0]) ?_ rfl ?_
      · simp [results, Try.results15, Try.f15, go_sem, z0, z1, z2, z3, z4, z5, z6, z7]
      rw [HMX.out, HWX.out]; exact hret
    · go_simp
      refine hK.out _ _ (fun _ => hbX) ?_
      clear hK K z0 z1 z2 z3 z4 z5 z6 z7 zf hsa
      change wpAnyU _ _ _ _ _ _ _ _ _ (set8 w3 (n0 + 1) (.int .i64 s) (.int .i64 lf) (.slice A l.length c) (.slice (some ⟨bp, 0, none⟩) 1 1) (.int .i64 ((l.length : Int) - 1)) (.slice none 0 0) (.int .i64 0) (.bool false))
      generalize set8 w3 (n0 + 1) (.int .i64 s) (.int .i64 lf) (.slice A l.length c) (.slice (some ⟨bp, 0, none⟩) 1 1) (.int .i64 ((l.length : Int) - 1)) (.slice none 0 0) (.int .i64 0) (.bool false) = W7 at HEND hs8 hbX ⊢
      refine wpAnyU_op (i := 3) (by kernel_rfl) rfl rfl (fun K hK => ?_)
      go_simp
      refine hK.out _ _ (fun _ => (fun g h1 h2 => (Below.heap_alloc _ _ _ (by omega)).trans (hbX g h1 h2))) ?_
      clear hK K
      try simp only [Act.put, List.setIfInBounds_toArray, List.set_cons_zero, List.set_cons_succ]
      try rw [hs8]
      refine wpAnyU_op (i := 5) (by kernel_rfl) rfl rfl (fun K hK => ?_)
      go_simp
      refine hK.out _ _ (fun _ => (fun g h1 h2 => (Below.heap_alloc _ _ _ (by omega)).trans (hbX g h1 h2))) ?_
      clear hK K
      try simp only [Act.put, List.setIfInBounds_toArray, List.set_cons_zero, List.set_cons_succ]
      refine wpAnyU_op (i := 6) (by kernel_rfl) rfl rfl (fun K hK => ?_)
      go_simp
      refine hK.out _ _ (fun _ => (fun g h1 h2 => (Below.heap_alloc _ _ _ (by omega)).trans (hbX g h1 h2))) ?_
      clear hK K
      try simp only [Act.put, List.setIfInBounds_toArray, List.set_cons_zero, List.set_cons_succ]
      refine wpAnyU_done (by kernel_rfl) ?_ _
      obtain ⟨hz, hret⟩ := HEND.out
      generalize W7.alloc (.cells #[.int .i64 13, .int .i64 0, .int .i64 0, .int .i64 ((l.length : Int) - 1), .int .i64 0, .int .i64 0, .slice V (reqL s lf [(0, 1)]).length vc, .slice none 0 0] 45) = W9 at hz hret ⊢
      obtain ⟨z0, z1, z2, z3, z4, z5, z6, z7, _⟩ := blk8 hz
      go_wp2_with fail
      refine bodyPost_ret (v := .tuple #[.agg #[.int .i64 s, .int .i64 lf, .slice A l.length c, .slice (some ⟨bp, 0, none⟩) 1 1, .int .i64 ((l.length : Int) - 1), .slice none 0 0, .int .i64 0, .bool false], .slice (some ⟨w3.heap.size, 0, none⟩) 1 1, .int .i64 0]) ?_ rfl ?_
      · simp [results, Try.results15, Try.f15, go_sem, z0, z1, z2, z3, z4, z5, z6, z7]
      rw [HMX.out, HWX.out]; exact hret
  · obtain ⟨hz, hm⟩ := HBE.out hr
    have HZ := Lib.hid (And.intro hz hm)
    obtain ⟨z0, z1, z2, z3, z4, z5, z6, z7, zf⟩ := blk8 (HR.out w1 hb1)
    have hrow := Lib.hid (HR.out w1 hb1)
    clear hz hm
    have hBw := HB0.out.trans (hb1.mono (by omega : n0 ≤ n2))
    go_wp2_with fail
    rw [HZ.out.1, HZ.out.2]
    rw [← HN0.out] at hBw
    have hend := wk_endS (w := w) (S := S) (u0 := (.int .i64 0)) (u1 := (.int .i64 0)) (u2 := (.slice none 0 0)) (u3 := (.slice none 0 0)) (u4 := (.int .i64 0)) (u5 := (.slice none 0 0)) (u6 := (.int .i64 0)) (u7 := (.bool false)) hrow.out (by omega) hBw wkVal_zero (B := none) (n := 0) (bc := 0) (rfl : ([] : List Msg).length = 0) ⟨Nat.le_refl 0, Nat.zero_le _, SlAt.nil_⟩ r
    obtain ⟨hz, hret⟩ := hend
    change bodyPost _ _ _ _ _ (set8 w1 (n0 + 1) (.int .i64 0) (.int .i64 0) (.slice none 0 0) (.slice none 0 0) (.int .i64 0) (.slice none 0 0) (.int .i64 0) (.bool false))
    generalize set8 w1 (n0 + 1) (.int .i64 0) (.int .i64 0) (.slice none 0 0) (.slice none 0 0) (.int .i64 0) (.slice none 0 0) (.int .i64 0) (.bool false) = W3 at hz hret ⊢
    obtain ⟨z0, z1, z2, z3, z4, z5, z6, z7, _⟩ := blk8 hz
    refine bodyPost_ret (v := .tuple #[.agg #[(.int .i64 0), (.int .i64 0), (.slice none 0 0), (.slice none 0 0), (.int .i64 0), (.slice none 0 0), (.int .i64 0), (.bool false)], .slice none 0 0, .int .i64 r]) ?_ rfl ?_
    · simp [results, Try.results15, Try.f15, go_sem, z0, z1, z2, z3, z4, z5, z6, z7]
    exact hret
end Go.Proofs.Ytjehedfdikdfpaa
namespace Go.Proofs.Ytjehedfdikdfpaa
open Go.RowKit Go.Shelf
attribute [local go_sem] Oper.semAt_some

set_option maxHeartbeats 4000000 in
set_option maxRecDepth 100000 in
theorem refWk_any (s lf lv sent : Int) (done : Bool) (A P F : Option Addr) (c pc fc n pn fn : Nat) (l : List (List Int)) (p f : List Ext) (r : Int) (w : World) (hn : l.length = n) (hpn : p.length = pn) (hfn : f.length = fn) (hr : wkE ((s, lf, l), p, lv, f, sent, done) = r)
    (h1 : SlAt (encSl encU64) w (Bl w.heap.size) A l) (hP : SlAt encExt w (Bl w.heap.size) P p) (hF : SlAt encExt w (Bl w.heap.size) F f) (hs : n ≤ 100000) (hc : n ≤ c ∧ c ≤ maxLen) (hI : I64 s ∧ I64 lf ∧ I64 lv ∧ I64 sent) (hpl : pn ≤ 9223372036854775807) (hfl : fn ≤ 9223372036854775807) (hlv : ∀ row ∈ l, row.length ≤ 1000000) :
    Calls Try.prog 19 #[.agg #[.int .i64 s, .int .i64 lf, .slice A n c, .slice P pn pc, .int .i64 lv, .slice F fn fc, .int .i64 sent, .bool done]] w fun e w' => e = .returned (.int .i64 r) ∧ Below w.heap.size w w' := by
  subst hn hpn hfn
  have HR := Lib.hid hr; clear hr
  obtain ⟨n0, hn0⟩ : ∃ n0, w.heap.size = n0 := ⟨_, rfl⟩
  obtain ⟨W0, hW0⟩ : ∃ W0, w.alloc (.cells #[.int .i64 s, .int .i64 lf, .slice A l.length c, .slice P p.length pc, .int .i64 lv, .slice F f.length fc, .int .i64 sent, .bool done] 27) = W0 := ⟨_, rfl⟩
  have hB0 : Below n0 w W0 := by rw [← hW0, ← hn0]; exact ext_alloc (Below.refl _ _)
  have hr0 : W0.heap[n0]? = some (.cells #[.int .i64 s, .int .i64 lf, .slice A l.length c, .slice P p.length pc, .int .i64 lv, .slice F f.length fc, .int .i64 sent, .bool done] 27 (0, 0)) := by rw [← hW0, ← hn0]; exact heap_alloc_new _ _
  obtain ⟨n2, hn2⟩ : ∃ n2, W0.heap.size = n2 := ⟨_, rfl⟩
  have hs0 : W0.heap.size = n0 + 1 := by rw [← hW0, ← hn0]; simp
  have hn02 : n0 < n2 := by omega
  have HRW : Hid (∀ W, Below n2 W0 W → W.heap[n0]? = some (.cells #[.int .i64 s, .int .i64 lf, .slice A l.length c, .slice P p.length pc, .int .i64 lv, .slice F f.length fc, .int .i64 sent, .bool done] 27 (0, 0))) := fun W hb => (hb.block n0 hn02).trans hr0
  have up : ∀ {α : Type} {E : Enc α} {A : Option Addr} {l : List α}, SlAt E w (Bl w.heap.size) A l → ∀ W, Below n2 W0 W → SlAt E W (Bl W.heap.size) A l := fun h W hb => by
    rw [hn0] at h
    exact (h.blk (fun g hg => (hb.block g (by have : g < n0 := hg; omega)).trans (hB0.block g hg))).more (fun g hg => by have : g < n0 := hg; have := hb.size; show g < W.heap.size; omega)
  have H1 := Lib.hid (up h1)
  have HP := Lib.hid (up hP)
  have HF := Lib.hid (up hF)
  obtain ⟨x, hx⟩ : ∃ x, checkT (s, lf, l) = x := ⟨_, rfl⟩
  have HCH := Lib.hid (fun W (hb : Below n2 W0 W) => ref11Check_any s lf A c l.length l x W rfl hx (H1.out W hb) hs hc ⟨hI.1, hI.2.1⟩)
  have HXE : Hid (x ≠ 0 → x = r) := fun h => by
    have hr := HR.out
    unfold wkE at hr
    rw [if_pos (by rw [hx]; exact h)] at hr
    exact hx.symm.trans hr
  have HB0 : Hid (Below w.heap.size w W0) := by rw [hn0]; exact hB0
  obtain ⟨_, _, ⟨i1, i2⟩, i3, i4⟩ := hI
  obtain ⟨p0, p1, p2, p3, p4, p5, p6, p7, _⟩ := blk8 hr0
  clear h1 hP hF up hr0 hs0
  go_enter Try.func19, Try.ntmps19
  go_wp2_with fail
  refine (HCH.out W0 (Below.refl _ _)).mono ?_
  rintro e w1 ⟨rfl, hb1⟩
  rw [hn2] at hb1
  clear p0 p1 p2 p3 p4 p5 p6 p7
  by_cases hx0 : x = 0
  · subst hx0
    clear HXE
    obtain ⟨p0, p1, p2, p3, p4, p5, p6, p7, _⟩ := blk8 (HRW.out w1 hb1)
    by_cases g1 : lv < 0
    · have hE : Hid ((2 : Int) = r) := by
        have h := HR.out
        unfold wkE at h
        rw [if_neg (by rw [hx]; simp), if_pos (by simp only; omega)] at h
        exact h
      go_wp2_with fail
      all_goals
        go_ret
        exact ⟨ret_int hE.out, HB0.out.trans (hb1.mono (by omega))⟩
    by_cases g2 : (l.length : Int) ≤ lv
    · have hE : Hid ((2 : Int) = r) := by
        have h := HR.out
        unfold wkE at h
        rw [if_neg (by rw [hx]; simp), if_pos (by simp only; omega)] at h
        exact h
      go_wp2_with fail
      all_goals
        go_ret
        exact ⟨ret_int hE.out, HB0.out.trans (hb1.mono (by omega))⟩
    obtain ⟨k, rfl⟩ : ∃ k : Nat, lv = k := ⟨lv.toNat, by omega⟩
    have hk : k < l.length := by omega
    cases done with
    | true =>
      by_cases g3 : (k : Int) = 0
      · by_cases g4 : sent < 0
        · have hE : Hid ((2 : Int) = r) := by
            have h := HR.out
            unfold wkE at h
            rw [if_neg (by rw [hx]; simp), if_pos (by simp only; omega)] at h
            exact h
          go_wp2_with fail
          all_goals
            go_ret
            exact ⟨ret_int hE.out, HB0.out.trans (hb1.mono (by omega))⟩
        by_cases g5 : 8192 < sent
        · have hE : Hid ((2 : Int) = r) := by
            have h := HR.out
            unfold wkE at h
            rw [if_neg (by rw [hx]; simp), if_pos (by simp only; omega)] at h
            exact h
          go_wp2_with fail
          all_goals
            go_ret
            exact ⟨ret_int hE.out, HB0.out.trans (hb1.mono (by omega))⟩
        · obtain rfl : k = 0 := by omega
          have hE : Hid ((if p = [] ∧ extE f s = 0 then (0 : Int) else 3) = r) := by
            have h := HR.out
            unfold wkE at h
            rw [if_neg (by rw [hx]; simp), if_neg (by simp only; omega), if_pos (by first | trivial | rfl)] at h
            exact h
          have hq := Lib.hid (fun W (hb : Below n2 W0 W) => ref01Check_any F fc f.length f s (extE f s) W rfl rfl (HF.out W hb) hfl)
          obtain ⟨r2, hr2⟩ : ∃ r2, extE f s = r2 := ⟨_, rfl⟩
          rw [hr2] at hq hE
          have hg1 : ¬ (((0 : Nat) : Int) < 0) := by omega
          have hg2 : ¬ (l = []) := fun e => by rw [e] at hk; simp at hk
          by_cases hp0 : p.length = 0
          · have hpn : p = [] := List.eq_nil_of_length_eq_zero hp0
            by_cases h20 : r2 = 0
            · have hE2 : Hid ((0 : Int) = r) := by have h := hE.out; rw [if_pos ⟨hpn, h20⟩] at h; exact h
              subst h20
              clear hr2 hpn hE
              go_wp2_with fail
              all_goals first
                | (exfalso; omega)
                | (refine (hq.out _ hb1).mono ?_
                   rintro e w2 ⟨rfl, hb2⟩
                   go_wp2_with fail
                   go_ret
                   exact ⟨ret_int hE2.out, HB0.out.trans ((hb1.mono (by omega)).trans (hb2.mono (by have := hb1.size; omega)))⟩)
            · have hE2 : Hid ((3 : Int) = r) := by have h := hE.out; rw [if_neg (fun h => h20 h.2)] at h; exact h
              have hb20 : (r2 == 0) = false := by simp [h20]
              clear hr2 hpn hE
              go_wp2_with fail
              all_goals first
                | (exfalso; omega)
                | (refine (hq.out _ hb1).mono ?_
                   rintro e w2 ⟨rfl, hb2⟩
                   go_wp2_with fail
                   go_ret
                   exact ⟨ret_int hE2.out, HB0.out.trans ((hb1.mono (by omega)).trans (hb2.mono (by have := hb1.size; omega)))⟩)
          · have hE2 : Hid ((3 : Int) = r) := by have h := hE.out; rw [if_neg (fun h => hp0 (by rw [h.1]; rfl))] at h; exact h
            clear hr2 hE
            go_wp2_with fail
            all_goals first
              | (exfalso; omega)
              | (go_ret
                 exact ⟨ret_int hE2.out, HB0.out.trans (hb1.mono (by omega))⟩)
      · have hE : Hid ((2 : Int) = r) := by
          have h := HR.out
          unfold wkE at h
          rw [if_neg (by rw [hx]; simp), if_pos (Or.inr (Or.inr (Or.inl ⟨by first | trivial | rfl, g3⟩)))] at h
          exact h
        go_wp2_with fail
        go_ret
        exact ⟨ret_int hE.out, HB0.out.trans (hb1.mono (by omega))⟩
    | false =>
      by_cases g4 : sent < 0
      · have hE : Hid ((2 : Int) = r) := by
          have h := HR.out
          unfold wkE at h
          rw [if_neg (by rw [hx]; simp), if_pos (by simp only; omega)] at h
          exact h
        go_wp2_with fail
        all_goals
          go_ret
          exact ⟨ret_int hE.out, HB0.out.trans (hb1.mono (by omega))⟩
      by_cases g5 : 8192 < sent
      · have hE : Hid ((2 : Int) = r) := by
          have h := HR.out
          unfold wkE at h
          rw [if_neg (by rw [hx]; simp), if_pos (by simp only; omega)] at h
          exact h
        go_wp2_with fail
        all_goals
          go_ret
          exact ⟨ret_int hE.out, HB0.out.trans (hb1.mono (by omega))⟩
      have hE : Hid ((if p ≠ [] ∧ f = [] ∧ extE p (l[k].length : Int) = 0 then (0 : Int) else 3) = r) := by
        have h := HR.out
        unfold wkE at h
        have hlev : levT ((s, lf, l) : Tr) (k : Int) = l[k] := by
          unfold levT
          simp only [Int.toNat_natCast]
          rw [List.getD_eq_getElem?_getD, List.getElem?_eq_getElem hk]; rfl
        rw [if_neg (by rw [hx]; simp), if_neg (by simp only; intro h; rcases h with h | h | ⟨h, _⟩ | h | h <;> first | omega | cases h), if_neg (by simp), hlev] at h
        exact h
      obtain ⟨b2, off, D, d, rfl, hb2, g0, hD, hd1, hd2⟩ := (H1.out w1 hb1).sl hk
      have hq := Lib.hid (fun W (hb : Below n2 W0 W) => ref01Check_any P pc p.length p (l[k].length : Int) (extE p (l[k].length : Int)) W rfl rfl (HP.out W hb) hpl)
      obtain ⟨row, hrow⟩ : ∃ row, l[k] = row := ⟨_, rfl⟩
      rw [hrow] at g0 hE hq
      obtain ⟨r2, hr2⟩ : ∃ r2, extE p (row.length : Int) = r2 := ⟨_, rfl⟩
      rw [hr2] at hq hE
      have hki : (k : Int) < l.length := by omega
      have hnn : (0 : Int) ≤ k := by omega
      have hb2' : b2 < w1.heap.size := hb2
      have hb0' : n0 < w1.heap.size := by have := hb1.size; omega
      clear hD hrow hr2
      by_cases hp0 : p.length = 0
      · have hE2 : Hid ((3 : Int) = r) := by have h := hE.out; rw [if_neg (fun h => h.1 (List.eq_nil_of_length_eq_zero hp0))] at h; exact h
        clear hE hq
        go_upto_region 10 with (fail)
        go_quiet (fail)
        generalize hWq : w1.drewN nq = w2
        have hd2 : Drew w1 w2 := ⟨nq, hWq.symm⟩
        clear hWq p0 p1 p2 p3 p4 p5 p6 p7 g0
        go_wp2_with fail
        go_ret
        exact ⟨ret_int hE2.out, HB0.out.trans ((hb1.mono (by omega)).trans (hd2.below _))⟩
      have hp1 : 0 < p.length := by omega
      have hpb : ((p.length : Int) == 0) = false := by rw [beq_eq_false_iff_ne]; omega
      have HC : Hid (∀ W, Below w1.heap.size w1 W → (W.cell? ⟨n0, 2, none⟩ = some (.slice (some ⟨b2, off, none⟩) l.length c) ∧ W.cell? ⟨n0, 3, none⟩ = some (.slice P p.length pc)) ∧ W.cell? ⟨n0, 4, none⟩ = some (.int .i64 (k : Int)) ∧ W.cell? ⟨n0, 5, none⟩ = some (.slice F f.length fc) ∧ W.cell? ⟨b2, off + k, none⟩ = some (.slice D row.length d)) := fun W hb =>
        ⟨⟨(hb.cell (p := ⟨n0, 2, none⟩) hb0').trans p2, (hb.cell (p := ⟨n0, 3, none⟩) hb0').trans p3⟩, (hb.cell (p := ⟨n0, 4, none⟩) hb0').trans p4, (hb.cell (p := ⟨n0, 5, none⟩) hb0').trans p5, (hb.cell (p := ⟨b2, off + k, none⟩) hb2').trans g0⟩
      have hSw : Below w1.heap.size w1 w1.drew := (Below.refl _ _).drew
      have HQ1 := Lib.hid (hq.out w1.drew hb1.drew)
      have HP1 := Lib.hid hp1
      go_upto_region 10 with (fail)
      clear p0 p1 p2 p3 p4 p5 p6 p7 g0 hq
      obtain ⟨⟨p2, p3⟩, p4, p5, g0⟩ := HC.out _ hSw
      by_cases h20 : r2 = 0
      · subst h20
        by_cases hf0 : f.length = 0
        · have hE2 : Hid ((0 : Int) = r) := by
            have h := hE.out
            rw [if_pos ⟨fun e => hp0 (by rw [e]; rfl), List.eq_nil_of_length_eq_zero hf0, rfl⟩] at h
            exact h
          clear hE
          refine wp_region_U (fun W' => Below w1.heap.size w1 W') 24 (by kernel_rfl) ?_
          refine wpAnyU_op (i := 0) (by kernel_rfl) rfl rfl (fun K hK => ?_)
          go_simp
          refine hK.out _ _ (fun _ => hSw) ?_
          clear hK K
          try simp only [Act.put, List.setIfInBounds_toArray, List.set_cons_zero, List.set_cons_succ]
          refine wpAnyU_op (i := 1) (by kernel_rfl) rfl rfl (fun K hK => ?_)
          go_simp
          refine hK.out _ _ (fun _ => hSw) ?_
          clear hK K
          try simp only [Act.put, List.setIfInBounds_toArray, List.set_cons_zero, List.set_cons_succ]
          refine wpAnyU_op (i := 2) (by kernel_rfl) rfl rfl (fun K hK => ?_)
          go_simp
          refine hK.out _ _ (fun _ => hSw) ?_
          clear hK K
          try simp only [Act.put, List.setIfInBounds_toArray, List.set_cons_zero, List.set_cons_succ]
          refine wpAnyU_op (i := 3) (by kernel_rfl) rfl rfl (fun K hK => ?_)
          go_simp
          refine hK.out _ _ (fun _ => hSw) ?_
          clear hK K
          try simp only [Act.put, List.setIfInBounds_toArray, List.set_cons_zero, List.set_cons_succ]
          refine wpAnyU_op (i := 4) (by kernel_rfl) rfl rfl (fun K hK => ?_)
          go_simp
          refine hK.out _ _ (fun _ => hSw) ?_
          clear hK K
          try simp only [Act.put, List.setIfInBounds_toArray, List.set_cons_zero, List.set_cons_succ]
          refine wpAnyU_takeD (i := 5) (v := ?_) rfl rfl (by kernel_rfl) (by kernel_rfl) (by kernel_rfl) (by kernel_rfl) (fun _ _ _ h => h) (by rfl) ?_ hSw ?_
          rotate_left 1
          · intro W9 hW9
            try dsimp only at hW9
            obtain ⟨⟨p2, p3⟩, p4, p5, g0⟩ := HC.out W9 hW9
            go_simp
            try with_reducible rfl
          try simp only [List.setIfInBounds_toArray, List.set_cons_zero, List.set_cons_succ]
          refine wpAnyU_takeD (i := 6) (v := ?_) rfl rfl (by kernel_rfl) (by kernel_rfl) (by kernel_rfl) (by kernel_rfl) (fun _ _ _ h => h) (by rfl) ?_ hSw ?_
          rotate_left 1
          · intro W9 hW9
            try dsimp only at hW9
            obtain ⟨⟨p2, p3⟩, p4, p5, g0⟩ := HC.out W9 hW9
            go_simp
            try with_reducible rfl
          try simp only [List.setIfInBounds_toArray, List.set_cons_zero, List.set_cons_succ]
          refine wpAnyU_takeD (i := 7) (v := ?_) rfl rfl (by kernel_rfl) (by kernel_rfl) (by kernel_rfl) (by kernel_rfl) (fun _ _ _ h => h) (by rfl) ?_ hSw ?_
          rotate_left 1
          · intro W9 hW9
            try dsimp only at hW9
            obtain ⟨⟨p2, p3⟩, p4, p5, g0⟩ := HC.out W9 hW9
            go_simp
            try with_reducible rfl
          try simp only [List.setIfInBounds_toArray, List.set_cons_zero, List.set_cons_succ]
          refine wpAnyU_takeD (i := 8) (v := ?_) rfl rfl (by kernel_rfl) (by kernel_rfl) (by kernel_rfl) (by kernel_rfl) (fun _ _ _ h => h) (by rfl) ?_ hSw ?_
          rotate_left 1
          · intro W9 hW9
            try dsimp only at hW9
            obtain ⟨⟨p2, p3⟩, p4, p5, g0⟩ := HC.out W9 hW9
            go_simp
            try with_reducible rfl
          try simp only [List.setIfInBounds_toArray, List.set_cons_zero, List.set_cons_succ]
          refine wpAnyU_takeD (i := 9) (v := ?_) rfl rfl (by kernel_rfl) (by kernel_rfl) (by kernel_rfl) (by kernel_rfl) (fun _ _ _ h => h) (by rfl) ?_ hSw ?_
          rotate_left 1
          · intro W9 hW9
            try dsimp only at hW9
            obtain ⟨⟨p2, p3⟩, p4, p5, g0⟩ := HC.out W9 hW9
            go_simp
            try with_reducible rfl
          try simp only [List.setIfInBounds_toArray, List.set_cons_zero, List.set_cons_succ]
          refine wpAnyU_one (i := 10) (by kernel_rfl) rfl (fun K hK => ?_)
          go_simp
          refine hK.out _ _ (fun _ => hSw) ?_
          clear hK K
          try simp only [Act.put, List.setIfInBounds_toArray, List.set_cons_zero, List.set_cons_succ]
          refine wpAnyU_one (i := 11) (by kernel_rfl) rfl (fun K hK => ?_)
          go_simp
          refine hK.out _ _ (fun _ => hSw) ?_
          clear hK K
          try simp only [Act.put, List.setIfInBounds_toArray, List.set_cons_zero, List.set_cons_succ]
          refine wpAnyU_one (i := 12) (by kernel_rfl) rfl (fun K hK => ?_)
          go_simp
          refine hK.out _ _ (fun _ => hSw) ?_
          clear hK K
          try simp only [Act.put, List.setIfInBounds_toArray, List.set_cons_zero, List.set_cons_succ]
          refine wpAnyU_one (i := 13) (by kernel_rfl) rfl (fun K hK => ?_)
          go_simp
          refine hK.out _ _ (fun _ => hSw) ?_
          clear hK K
          try simp only [Act.put, List.setIfInBounds_toArray, List.set_cons_zero, List.set_cons_succ]
          refine wpAnyU_one (i := 14) (by kernel_rfl) rfl (fun K hK => ?_)
          go_simp
          refine hK.out _ _ (fun _ => hSw) ?_
          clear hK K
          try simp only [Act.put, List.setIfInBounds_toArray, List.set_cons_zero, List.set_cons_succ]
          clear p2 p3 p4 p5 g0
          refine wpAnyU_one (i := 15) (by kernel_rfl) rfl (fun K hK => ?_)
          go_wp2_with fail
          refine HQ1.out.mono ?_
          rintro e w2 ⟨rfl, hb2''⟩
          have hx2 : Below w1.heap.size w1 w2 := bUn hb2''
          refine hK.out _ _ (fun _ => hx2) ?_
          clear hK K
          try simp only [Act.put, List.setIfInBounds_toArray, List.set_cons_zero, List.set_cons_succ]
          obtain ⟨⟨p2, p3⟩, p4, p5, g0⟩ := HC.out _ hx2
          refine wpAnyU_one (i := 16) (by kernel_rfl) rfl (fun K hK => ?_)
          go_simp
          refine hK.out _ _ (fun _ => hx2) ?_
          clear hK K
          try simp only [Act.put, List.setIfInBounds_toArray, List.set_cons_zero, List.set_cons_succ]
          refine wpAnyU_one (i := 17) (by kernel_rfl) rfl (fun K hK => ?_)
          go_simp
          refine hK.out _ _ (fun _ => hx2) ?_
          clear hK K
          try simp only [Act.put, List.setIfInBounds_toArray, List.set_cons_zero, List.set_cons_succ]
          refine wpAnyU_one (i := 18) (by kernel_rfl) rfl (fun K hK => ?_)
          go_simp
          refine hK.out _ _ (fun _ => hx2) ?_
          clear hK K
          try simp only [Act.put, List.setIfInBounds_toArray, List.set_cons_zero, List.set_cons_succ]
          refine wpAnyU_one (i := 19) (by kernel_rfl) rfl (fun K hK => ?_)
          go_simp
          refine hK.out _ _ (fun _ => hx2) ?_
          clear hK K
          try simp only [Act.put, List.setIfInBounds_toArray, List.set_cons_zero, List.set_cons_succ]
          refine wpAnyU_one (i := 20) (by kernel_rfl) rfl (fun K hK => ?_)
          go_simp
          refine hK.out _ _ (fun _ => hx2) ?_
          clear hK K
          try simp only [Act.put, List.setIfInBounds_toArray, List.set_cons_zero, List.set_cons_succ]
          refine wpAnyU_one (i := 21) (by kernel_rfl) rfl (fun K hK => ?_)
          go_simp
          refine hK.out _ _ (fun _ => hx2) ?_
          clear hK K
          try simp only [Act.put, List.setIfInBounds_toArray, List.set_cons_zero, List.set_cons_succ]
          refine wpAnyU_one (i := 22) (by kernel_rfl) rfl (fun K hK => ?_)
          go_simp
          refine hK.out _ _ (fun _ => hx2) ?_
          clear hK K
          try simp only [Act.put, List.setIfInBounds_toArray, List.set_cons_zero, List.set_cons_succ]
          refine wpAnyU_one (i := 23) (by kernel_rfl) rfl (fun K hK => ?_)
          go_simp
          refine hK.out _ _ (fun _ => hx2) ?_
          clear hK K
          try simp only [Act.put, List.setIfInBounds_toArray, List.set_cons_zero, List.set_cons_succ]
          refine wpAnyU_done (by kernel_rfl) ?_ _
          go_wp2_with fail
          go_ret
          exact ⟨ret_int hE2.out, HB0.out.trans ((hb1.mono (by omega)).trans (hx2.mono (by have := hb1.size; omega)))⟩
        · have hE2 : Hid ((3 : Int) = r) := by
            have h := hE.out
            rw [if_neg (fun h => hf0 (by rw [h.2.1]; rfl))] at h
            exact h
          have hf1 : 0 < f.length := by omega
          clear hE
          refine wp_region_U (fun W' => Below w1.heap.size w1 W') 24 (by kernel_rfl) ?_
          refine wpAnyU_op (i := 0) (by kernel_rfl) rfl rfl (fun K hK => ?_)
          go_simp
          refine hK.out _ _ (fun _ => hSw) ?_
          clear hK K
          try simp only [Act.put, List.setIfInBounds_toArray, List.set_cons_zero, List.set_cons_succ]
          refine wpAnyU_op (i := 1) (by kernel_rfl) rfl rfl (fun K hK => ?_)
          go_simp
          refine hK.out _ _ (fun _ => hSw) ?_
          clear hK K
          try simp only [Act.put, List.setIfInBounds_toArray, List.set_cons_zero, List.set_cons_succ]
          refine wpAnyU_op (i := 2) (by kernel_rfl) rfl rfl (fun K hK => ?_)
          go_simp
          refine hK.out _ _ (fun _ => hSw) ?_
          clear hK K
          try simp only [Act.put, List.setIfInBounds_toArray, List.set_cons_zero, List.set_cons_succ]
          refine wpAnyU_op (i := 3) (by kernel_rfl) rfl rfl (fun K hK => ?_)
          go_simp
          refine hK.out _ _ (fun _ => hSw) ?_
          clear hK K
          try simp only [Act.put, List.setIfInBounds_toArray, List.set_cons_zero, List.set_cons_succ]
          refine wpAnyU_op (i := 4) (by kernel_rfl) rfl rfl (fun K hK => ?_)
          go_simp
          refine hK.out _ _ (fun _ => hSw) ?_
          clear hK K
          try simp only [Act.put, List.setIfInBounds_toArray, List.set_cons_zero, List.set_cons_succ]
          refine wpAnyU_takeD (i := 5) (v := ?_) rfl rfl (by kernel_rfl) (by kernel_rfl) (by kernel_rfl) (by kernel_rfl) (fun _ _ _ h => h) (by rfl) ?_ hSw ?_
          rotate_left 1
          · intro W9 hW9
            try dsimp only at hW9
            obtain ⟨⟨p2, p3⟩, p4, p5, g0⟩ := HC.out W9 hW9
            go_simp
            try with_reducible rfl
          try simp only [List.setIfInBounds_toArray, List.set_cons_zero, List.set_cons_succ]
          refine wpAnyU_takeD (i := 6) (v := ?_) rfl rfl (by kernel_rfl) (by kernel_rfl) (by kernel_rfl) (by kernel_rfl) (fun _ _ _ h => h) (by rfl) ?_ hSw ?_
          rotate_left 1
          · intro W9 hW9
            try dsimp only at hW9
            obtain ⟨⟨p2, p3⟩, p4, p5, g0⟩ := HC.out W9 hW9
            go_simp
            try with_reducible rfl
          try simp only [List.setIfInBounds_toArray, List.set_cons_zero, List.set_cons_succ]
          refine wpAnyU_takeD (i := 7) (v := ?_) rfl rfl (by kernel_rfl) (by kernel_rfl) (by kernel_rfl) (by kernel_rfl) (fun _ _ _ h => h) (by rfl) ?_ hSw ?_
          rotate_left 1
          · intro W9 hW9
            try dsimp only at hW9
            obtain ⟨⟨p2, p3⟩, p4, p5, g0⟩ := HC.out W9 hW9
            go_simp
            try with_reducible rfl
          try simp only [List.setIfInBounds_toArray, List.set_cons_zero, List.set_cons_succ]
          refine wpAnyU_takeD (i := 8) (v := ?_) rfl rfl (by kernel_rfl) (by kernel_rfl) (by kernel_rfl) (by kernel_rfl) (fun _ _ _ h => h) (by rfl) ?_ hSw ?_
          rotate_left 1
          · intro W9 hW9
            try dsimp only at hW9
            obtain ⟨⟨p2, p3⟩, p4, p5, g0⟩ := HC.out W9 hW9
            go_simp
            try with_reducible rfl
          try simp only [List.setIfInBounds_toArray, List.set_cons_zero, List.set_cons_succ]
          refine wpAnyU_takeD (i := 9) (v := ?_) rfl rfl (by kernel_rfl) (by kernel_rfl) (by kernel_rfl) (by kernel_rfl) (fun _ _ _ h => h) (by rfl) ?_ hSw ?_
          rotate_left 1
          · intro W9 hW9
            try dsimp only at hW9
            obtain ⟨⟨p2, p3⟩, p4, p5, g0⟩ := HC.out W9 hW9
            go_simp
            try with_reducible rfl
          try simp only [List.setIfInBounds_toArray, List.set_cons_zero, List.set_cons_succ]
          refine wpAnyU_one (i := 10) (by kernel_rfl) rfl (fun K hK => ?_)
          go_simp
          refine hK.out _ _ (fun _ => hSw) ?_
          clear hK K
          try simp only [Act.put, List.setIfInBounds_toArray, List.set_cons_zero, List.set_cons_succ]
          refine wpAnyU_one (i := 11) (by kernel_rfl) rfl (fun K hK => ?_)
          go_simp
          refine hK.out _ _ (fun _ => hSw) ?_
          clear hK K
          try simp only [Act.put, List.setIfInBounds_toArray, List.set_cons_zero, List.set_cons_succ]
          refine wpAnyU_one (i := 12) (by kernel_rfl) rfl (fun K hK => ?_)
          go_simp
          refine hK.out _ _ (fun _ => hSw) ?_
          clear hK K
          try simp only [Act.put, List.setIfInBounds_toArray, List.set_cons_zero, List.set_cons_succ]
          refine wpAnyU_one (i := 13) (by kernel_rfl) rfl (fun K hK => ?_)
          go_simp
          refine hK.out _ _ (fun _ => hSw) ?_
          clear hK K
          try simp only [Act.put, List.setIfInBounds_toArray, List.set_cons_zero, List.set_cons_succ]
          refine wpAnyU_one (i := 14) (by kernel_rfl) rfl (fun K hK => ?_)
          go_simp
          refine hK.out _ _ (fun _ => hSw) ?_
          clear hK K
          try simp only [Act.put, List.setIfInBounds_toArray, List.set_cons_zero, List.set_cons_succ]
          clear p2 p3 p4 p5 g0
          refine wpAnyU_one (i := 15) (by kernel_rfl) rfl (fun K hK => ?_)
          go_wp2_with fail
          refine HQ1.out.mono ?_
          rintro e w2 ⟨rfl, hb2''⟩
          have hx2 : Below w1.heap.size w1 w2 := bUn hb2''
          refine hK.out _ _ (fun _ => hx2) ?_
          clear hK K
          try simp only [Act.put, List.setIfInBounds_toArray, List.set_cons_zero, List.set_cons_succ]
          obtain ⟨⟨p2, p3⟩, p4, p5, g0⟩ := HC.out _ hx2
          refine wpAnyU_one (i := 16) (by kernel_rfl) rfl (fun K hK => ?_)
          go_simp
          refine hK.out _ _ (fun _ => hx2) ?_
          clear hK K
          try simp only [Act.put, List.setIfInBounds_toArray, List.set_cons_zero, List.set_cons_succ]
          refine wpAnyU_one (i := 17) (by kernel_rfl) rfl (fun K hK => ?_)
          go_simp
          refine hK.out _ _ (fun _ => hx2) ?_
          clear hK K
          try simp only [Act.put, List.setIfInBounds_toArray, List.set_cons_zero, List.set_cons_succ]
          refine wpAnyU_one (i := 18) (by kernel_rfl) rfl (fun K hK => ?_)
          go_simp
          refine hK.out _ _ (fun _ => hx2) ?_
          clear hK K
          try simp only [Act.put, List.setIfInBounds_toArray, List.set_cons_zero, List.set_cons_succ]
          refine wpAnyU_one (i := 19) (by kernel_rfl) rfl (fun K hK => ?_)
          go_simp
          refine hK.out _ _ (fun _ => hx2) ?_
          clear hK K
          try simp only [Act.put, List.setIfInBounds_toArray, List.set_cons_zero, List.set_cons_succ]
          refine wpAnyU_one (i := 20) (by kernel_rfl) rfl (fun K hK => ?_)
          go_simp
          refine hK.out _ _ (fun _ => hx2) ?_
          clear hK K
          try simp only [Act.put, List.setIfInBounds_toArray, List.set_cons_zero, List.set_cons_succ]
          refine wpAnyU_one (i := 21) (by kernel_rfl) rfl (fun K hK => ?_)
          go_simp
          refine hK.out _ _ (fun _ => hx2) ?_
          clear hK K
          try simp only [Act.put, List.setIfInBounds_toArray, List.set_cons_zero, List.set_cons_succ]
          refine wpAnyU_one (i := 22) (by kernel_rfl) rfl (fun K hK => ?_)
          go_simp
          refine hK.out _ _ (fun _ => hx2) ?_
          clear hK K
          try simp only [Act.put, List.setIfInBounds_toArray, List.set_cons_zero, List.set_cons_succ]
          refine wpAnyU_one (i := 23) (by kernel_rfl) rfl (fun K hK => ?_)
          go_simp
          refine hK.out _ _ (fun _ => hx2) ?_
          clear hK K
          try simp only [Act.put, List.setIfInBounds_toArray, List.set_cons_zero, List.set_cons_succ]
          refine wpAnyU_done (by kernel_rfl) ?_ _
          go_wp2_with fail
          go_ret
          exact ⟨ret_int hE2.out, HB0.out.trans ((hb1.mono (by omega)).trans (hx2.mono (by have := hb1.size; omega)))⟩
      · have hE2 : Hid ((3 : Int) = r) := by
          have h := hE.out
          rw [if_neg (fun h => h20 h.2.2)] at h
          exact h
        have hb20 : (r2 != 0) = true := by simp [h20]
        clear hE
        refine wp_region_U (fun W' => Below w1.heap.size w1 W') 24 (by kernel_rfl) ?_
        refine wpAnyU_op (i := 0) (by kernel_rfl) rfl rfl (fun K hK => ?_)
        go_simp
        refine hK.out _ _ (fun _ => hSw) ?_
        clear hK K
        try simp only [Act.put, List.setIfInBounds_toArray, List.set_cons_zero, List.set_cons_succ]
        refine wpAnyU_op (i := 1) (by kernel_rfl) rfl rfl (fun K hK => ?_)
        go_simp
        refine hK.out _ _ (fun _ => hSw) ?_
        clear hK K
        try simp only [Act.put, List.setIfInBounds_toArray, List.set_cons_zero, List.set_cons_succ]
        refine wpAnyU_op (i := 2) (by kernel_rfl) rfl rfl (fun K hK => ?_)
        go_simp
        refine hK.out _ _ (fun _ => hSw) ?_
        clear hK K
        try simp only [Act.put, List.setIfInBounds_toArray, List.set_cons_zero, List.set_cons_succ]
        refine wpAnyU_op (i := 3) (by kernel_rfl) rfl rfl (fun K hK => ?_)
        go_simp
        refine hK.out _ _ (fun _ => hSw) ?_
        clear hK K
        try simp only [Act.put, List.setIfInBounds_toArray, List.set_cons_zero, List.set_cons_succ]
        refine wpAnyU_op (i := 4) (by kernel_rfl) rfl rfl (fun K hK => ?_)
        go_simp
        refine hK.out _ _ (fun _ => hSw) ?_
        clear hK K
        try simp only [Act.put, List.setIfInBounds_toArray, List.set_cons_zero, List.set_cons_succ]
        refine wpAnyU_takeD (i := 5) (v := ?_) rfl rfl (by kernel_rfl) (by kernel_rfl) (by kernel_rfl) (by kernel_rfl) (fun _ _ _ h => h) (by rfl) ?_ hSw ?_
        rotate_left 1
        · intro W9 hW9
          try dsimp only at hW9
          obtain ⟨⟨p2, p3⟩, p4, p5, g0⟩ := HC.out W9 hW9
          go_simp
          try with_reducible rfl
        try simp only [List.setIfInBounds_toArray, List.set_cons_zero, List.set_cons_succ]
        refine wpAnyU_takeD (i := 6) (v := ?_) rfl rfl (by kernel_rfl) (by kernel_rfl) (by kernel_rfl) (by kernel_rfl) (fun _ _ _ h => h) (by rfl) ?_ hSw ?_
        rotate_left 1
        · intro W9 hW9
          try dsimp only at hW9
          obtain ⟨⟨p2, p3⟩, p4, p5, g0⟩ := HC.out W9 hW9
          go_simp
          try with_reducible rfl
        try simp only [List.setIfInBounds_toArray, List.set_cons_zero, List.set_cons_succ]
        refine wpAnyU_takeD (i := 7) (v := ?_) rfl rfl (by kernel_rfl) (by kernel_rfl) (by kernel_rfl) (by kernel_rfl) (fun _ _ _ h => h) (by rfl) ?_ hSw ?_
        rotate_left 1
        · intro W9 hW9
          try dsimp only at hW9
          obtain ⟨⟨p2, p3⟩, p4, p5, g0⟩ := HC.out W9 hW9
          go_simp
          try with_reducible rfl
        try simp only [List.setIfInBounds_toArray, List.set_cons_zero, List.set_cons_succ]
        refine wpAnyU_takeD (i := 8) (v := ?_) rfl rfl (by kernel_rfl) (by kernel_rfl) (by kernel_rfl) (by kernel_rfl) (fun _ _ _ h => h) (by rfl) ?_ hSw ?_
        rotate_left 1
        · intro W9 hW9
          try dsimp only at hW9
          obtain ⟨⟨p2, p3⟩, p4, p5, g0⟩ := HC.out W9 hW9
          go_simp
          try with_reducible rfl
        try simp only [List.setIfInBounds_toArray, List.set_cons_zero, List.set_cons_succ]
        refine wpAnyU_takeD (i := 9) (v := ?_) rfl rfl (by kernel_rfl) (by kernel_rfl) (by kernel_rfl) (by kernel_rfl) (fun _ _ _ h => h) (by rfl) ?_ hSw ?_
        rotate_left 1
        · intro W9 hW9
          try dsimp only at hW9
          obtain ⟨⟨p2, p3⟩, p4, p5, g0⟩ := HC.out W9 hW9
          go_simp
          try with_reducible rfl
        try simp only [List.setIfInBounds_toArray, List.set_cons_zero, List.set_cons_succ]
        refine wpAnyU_one (i := 10) (by kernel_rfl) rfl (fun K hK => ?_)
        go_simp
        refine hK.out _ _ (fun _ => hSw) ?_
        clear hK K
        try simp only [Act.put, List.setIfInBounds_toArray, List.set_cons_zero, List.set_cons_succ]
        refine wpAnyU_one (i := 11) (by kernel_rfl) rfl (fun K hK => ?_)
        go_simp
        refine hK.out _ _ (fun _ => hSw) ?_
        clear hK K
        try simp only [Act.put, List.setIfInBounds_toArray, List.set_cons_zero, List.set_cons_succ]
        refine wpAnyU_one (i := 12) (by kernel_rfl) rfl (fun K hK => ?_)
        go_simp
        refine hK.out _ _ (fun _ => hSw) ?_
        clear hK K
        try simp only [Act.put, List.setIfInBounds_toArray, List.set_cons_zero, List.set_cons_succ]
        refine wpAnyU_one (i := 13) (by kernel_rfl) rfl (fun K hK => ?_)
        go_simp
        refine hK.out _ _ (fun _ => hSw) ?_
        clear hK K
        try simp only [Act.put, List.setIfInBounds_toArray, List.set_cons_zero, List.set_cons_succ]
        refine wpAnyU_one (i := 14) (by kernel_rfl) rfl (fun K hK => ?_)
        go_simp
        refine hK.out _ _ (fun _ => hSw) ?_
        clear hK K
        try simp only [Act.put, List.setIfInBounds_toArray, List.set_cons_zero, List.set_cons_succ]
        clear p2 p3 p4 p5 g0
        refine wpAnyU_one (i := 15) (by kernel_rfl) rfl (fun K hK => ?_)
        go_wp2_with fail
        refine HQ1.out.mono ?_
        rintro e w2 ⟨rfl, hb2''⟩
        have hx2 : Below w1.heap.size w1 w2 := bUn hb2''
        refine hK.out _ _ (fun _ => hx2) ?_
        clear hK K
        try simp only [Act.put, List.setIfInBounds_toArray, List.set_cons_zero, List.set_cons_succ]
        obtain ⟨⟨p2, p3⟩, p4, p5, g0⟩ := HC.out _ hx2
        refine wpAnyU_one (i := 16) (by kernel_rfl) rfl (fun K hK => ?_)
        go_simp
        refine hK.out _ _ (fun _ => hx2) ?_
        clear hK K
        try simp only [Act.put, List.setIfInBounds_toArray, List.set_cons_zero, List.set_cons_succ]
        refine wpAnyU_one (i := 17) (by kernel_rfl) rfl (fun K hK => ?_)
        go_simp
        refine hK.out _ _ (fun _ => hx2) ?_
        clear hK K
        try simp only [Act.put, List.setIfInBounds_toArray, List.set_cons_zero, List.set_cons_succ]
        refine wpAnyU_one (i := 18) (by kernel_rfl) rfl (fun K hK => ?_)
        go_simp
        refine hK.out _ _ (fun _ => hx2) ?_
        clear hK K
        try simp only [Act.put, List.setIfInBounds_toArray, List.set_cons_zero, List.set_cons_succ]
        refine wpAnyU_one (i := 19) (by kernel_rfl) rfl (fun K hK => ?_)
        go_simp
        refine hK.out _ _ (fun _ => hx2) ?_
        clear hK K
        try simp only [Act.put, List.setIfInBounds_toArray, List.set_cons_zero, List.set_cons_succ]
        refine wpAnyU_one (i := 20) (by kernel_rfl) rfl (fun K hK => ?_)
        go_simp
        refine hK.out _ _ (fun _ => hx2) ?_
        clear hK K
        try simp only [Act.put, List.setIfInBounds_toArray, List.set_cons_zero, List.set_cons_succ]
        refine wpAnyU_one (i := 21) (by kernel_rfl) rfl (fun K hK => ?_)
        go_simp
        refine hK.out _ _ (fun _ => hx2) ?_
        clear hK K
        try simp only [Act.put, List.setIfInBounds_toArray, List.set_cons_zero, List.set_cons_succ]
        refine wpAnyU_one (i := 22) (by kernel_rfl) rfl (fun K hK => ?_)
        go_simp
        refine hK.out _ _ (fun _ => hx2) ?_
        clear hK K
        try simp only [Act.put, List.setIfInBounds_toArray, List.set_cons_zero, List.set_cons_succ]
        refine wpAnyU_one (i := 23) (by kernel_rfl) rfl (fun K hK => ?_)
        go_simp
        refine hK.out _ _ (fun _ => hx2) ?_
        clear hK K
        try simp only [Act.put, List.setIfInBounds_toArray, List.set_cons_zero, List.set_cons_succ]
        refine wpAnyU_done (by kernel_rfl) ?_ _
        go_wp2_with fail
        go_ret
        exact ⟨ret_int hE2.out, HB0.out.trans ((hb1.mono (by omega)).trans (hx2.mono (by have := hb1.size; omega)))⟩
  · have hE : Hid (x = r) := HXE.out hx0
    go_wp2_with fail
    go_ret
    exact ⟨ret_int hE.out, HB0.out.trans (hb1.mono (by omega))⟩
end Go.Proofs.Ytjehedfdikdfpaa
namespace Go.Proofs.Ytjehedfdikdfpaa
open Go.RowKit Go.Shelf
attribute [local go_sem] Oper.semAt_some

/-- a digest of a body, as far as its first k bytes -/
def digP (b : List Int) (o : Nat) : Nat → Int
  | 0 => 0
  | k + 1 => digP b o k + b.getD (o + k) 0 * 2 ^ (8 * k)
theorem digP_range {b : List Int} (hb : ∀ x ∈ b, 0 ≤ x ∧ x < 256) (o : Nat) : ∀ k, 0 ≤ digP b o k ∧ digP b o k < 2 ^ (8 * k)
  | 0 => by simp [digP]
  | k + 1 => by
    obtain ⟨h1, h2⟩ := digP_range hb o k
    have h3 : 0 ≤ b.getD (o + k) 0 ∧ b.getD (o + k) 0 < 256 := by
      rw [List.getD_eq_getElem?_getD]
      cases hq : b[o + k]? with
      | none => simp
      | some x => exact hb x (List.mem_of_getElem? hq)
    have hp : (2 : Int) ^ (8 * (k + 1)) = 256 * 2 ^ (8 * k) := by rw [show 8 * (k + 1) = 8 * k + 8 by omega, Int.pow_add]; omega
    unfold digP
    rw [hp]
    generalize (2 : Int) ^ (8 * k) = q at h1 h2 ⊢
    generalize b.getD (o + k) 0 = y at h3 ⊢
    have hq : 0 < q := by omega
    have h4 : 0 ≤ y * q := Int.mul_nonneg h3.1 (by omega)
    have h5 : y * q ≤ 255 * q := Int.mul_le_mul_of_nonneg_right (by omega) (by omega)
    omega
theorem digP_byte {b : List Int} (hb : ∀ x ∈ b, 0 ≤ x ∧ x < 256) (o : Nat) (k : Nat) (hk : k < 8) : byteOf (digP b o 8) k = b.getD (o + k) 0 := by
  have h3 : ∀ k, 0 ≤ b.getD (o + k) 0 ∧ b.getD (o + k) 0 < 256 := fun k => by
    rw [List.getD_eq_getElem?_getD]
    cases hq : b[o + k]? with
    | none => simp
    | some x => exact hb x (List.mem_of_getElem? hq)
  have e : digP b o 8 = b.getD (o + 0) 0 + 256 * (b.getD (o + 1) 0 + 256 * (b.getD (o + 2) 0 + 256 * (b.getD (o + 3) 0 + 256 * (b.getD (o + 4) 0 + 256 * (b.getD (o + 5) 0 + 256 * (b.getD (o + 6) 0 + 256 * b.getD (o + 7) 0)))))) := by
    simp only [digP]
    omega
  rw [e]
  have h0 := h3 0
  have h1 := h3 1
  have h2 := h3 2
  have h4 := h3 4
  have h5 := h3 5
  have h6 := h3 6
  have h7 := h3 7
  have h3 := h3 3
  obtain rfl | rfl | rfl | rfl | rfl | rfl | rfl | rfl : k = 0 ∨ k = 1 ∨ k = 2 ∨ k = 3 ∨ k = 4 ∨ k = 5 ∨ k = 6 ∨ k = 7 := by omega
  all_goals
    unfold byteOf
    simp only [Nat.mul_zero, Nat.mul_one, Nat.reduceMul]
    generalize b.getD (o + 0) 0 = x0 at *
    generalize b.getD (o + 1) 0 = x1 at *
    generalize b.getD (o + 2) 0 = x2 at *
    generalize b.getD (o + 3) 0 = x3 at *
    generalize b.getD (o + 4) 0 = x4 at *
    generalize b.getD (o + 5) 0 = x5 at *
    generalize b.getD (o + 6) 0 = x6 at *
    generalize b.getD (o + 7) 0 = x7 at *
    omega
theorem digP_eq {b : List Int} (hb : ∀ x ∈ b, 0 ≤ x ∧ x < 256) {o : Nat} (ho : o + 8 ≤ b.length) {d : Int} (hd : 0 ≤ d ∧ d < 18446744073709551616) : digP b o 8 = d ↔ (b.drop o).take 8 = le8 d := by
  have hl : le8 (digP b o 8) = (b.drop o).take 8 := by
    refine List.ext_getElem (by simp [le8]; omega) (fun k h1 h2 => ?_)
    have hk : k < 8 := by simpa [le8] using h1
    have h := digP_byte hb o k hk
    have h0 : (le8 (digP b o 8))[k] = byteOf (digP b o 8) k := by simp [le8]
    have h4 : ((b.drop o).take 8)[k]'h2 = b[o + k]'(by omega) := by rw [List.getElem_take, List.getElem_drop]
    have h5 : b.getD (o + k) 0 = b[o + k]'(by omega) := by rw [List.getD_eq_getElem?_getD, List.getElem?_eq_getElem (by omega)]; rfl
    exact h0.trans (h.trans (h5.trans h4.symm))
  constructor
  · rintro rfl
    exact hl.symm
  · intro h
    have hr := digP_range hb o 8
    exact le8_inj ⟨hr.1, by have := hr.2; simpa using this⟩ hd (hl.trans h)
set_option maxHeartbeats 4000000 in
theorem digest44_any (B : Option Addr) (bc n i : Nat) (b : List Int) (w : World) (S : Nat → Prop) (hn : b.length = n) (h1 : SlAt encU8 w S B b) (hi : 8 * i + 8 ≤ n) (hl : n ≤ 100000000) :
    Calls Try.prog 56 #[.slice B n bc, .int .i64 i] w fun e w' => e = .returned (.int .u64 (digP b (8 * i) 8)) ∧ Drew w w' := by
  subst hn
  have hb8 : ∀ x ∈ b, 0 ≤ x ∧ x < 256 := fun x hx => by
    obtain ⟨k, hk, rfl⟩ := List.mem_iff_getElem.1 hx
    obtain ⟨_, _, _, _, _, h0, h1⟩ := h1.u8 hk
    exact ⟨h0, h1⟩
  have HB8 := Lib.hid hb8
  clear hb8
  obtain ⟨o, ho⟩ : ∃ o, 8 * i = o := ⟨_, rfl⟩
  rw [ho] at hi ⊢
  have hoi : (8 : Int) * i = o := by omega
  go_enter Try.func56, Try.ntmps56
  go_wp2
  go_loopw [5, 6] (fun d k wr => ∃ (j : Nat) (x : Int), j ≤ 8 ∧ k = .int .i64 j ∧ d = .int .u64 x ∧ Hid (x = digP b o j) ∧ Drew w wr) (fun _ k _ => 8 - (intOf k).toNat)
  case atStart => exact ⟨0, 0, by omega, rfl, rfl, rfl, Drew.refl _⟩
  case round =>
    obtain ⟨j, x, hj, rfl, rfl, hx, hd⟩ := hrel
    by_cases hlt : j < 8
    · have hoj : o + j < b.length := by omega
      obtain ⟨g, off, rfl, hb, hc, y0, y1⟩ := (h1.drew hd).u8 hoj
      have hgd : b.getD (o + j) 0 = b[o + j] := by rw [List.getD_eq_getElem?_getD, List.getElem?_eq_getElem hoj]; rfl
      obtain ⟨y, hy⟩ : ∃ y, b[o + j] = y := ⟨_, rfl⟩
      rw [hy] at hc y0 y1 hgd
      have hr := digP_range HB8.out o j
      have hr1 := digP_range HB8.out o (j + 1)
      have hst : digP b o (j + 1) = digP b o j + y * 2 ^ (8 * j) := by rw [digP, hgd]
      rw [hst] at hr1
      rw [← hx.out] at hr hr1 hst
      have HST := Lib.hid hst
      have hpl : (2 : Int) ^ (8 * j) ≤ 72057594037927936 := by
        obtain rfl | rfl | rfl | rfl | rfl | rfl | rfl | rfl : j = 0 ∨ j = 1 ∨ j = 2 ∨ j = 3 ∨ j = 4 ∨ j = 5 ∨ j = 6 ∨ j = 7 := by omega
        all_goals decide
      have hji : (j : Int) < 8 := by omega
      have hnn : (0 : Int) ≤ j := by omega
      have hcj : (o : Int) + (j : Int) < b.length := by omega
      have hy0 : 0 ≤ y * 2 ^ (8 * j) := Int.mul_nonneg y0 (by omega)
      have hq8 : (2 : Int) ^ (8 * (j + 1)) ≤ 18446744073709551616 := by
        obtain rfl | rfl | rfl | rfl | rfl | rfl | rfl | rfl : j = 0 ∨ j = 1 ∨ j = 2 ∨ j = 3 ∨ j = 4 ∨ j = 5 ∨ j = 6 ∨ j = 7 := by omega
        all_goals decide
      have hw1 : IntKind.u64.wrap (y * 2 ^ (8 * j)) = y * 2 ^ (8 * j) := IntWalk.u64_in _ (by omega)
      have hw2 : IntKind.u64.wrap (x + y * 2 ^ (8 * j)) = x + y * 2 ^ (8 * j) := IntWalk.u64_in _ (by omega)
      clear hy hgd hst
      go_wp2_with fail
      go_roundw
      case rel => exact ⟨j + 1, _, hlt, by go_num, rfl, HST.out.symm, hd⟩
      case measure => simp [intOf]; omega
    · have hjj : j = 8 := by omega
      subst hjj
      have hji : ¬ (((8 : Nat) : Int) < 8) := by omega
      go_wp2
      go_ret
      exact ⟨by rw [hx.out]; rfl, hd⟩
end Go.Proofs.Ytjehedfdikdfpaa

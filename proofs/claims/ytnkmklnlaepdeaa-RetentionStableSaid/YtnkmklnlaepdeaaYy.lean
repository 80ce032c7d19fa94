/-
  The law of pruning step by step: the walk.
-/
import Derived.Test.YtnkmklnlaepdeaaYw
import Derived.Test.YtnkmklnlaepdeaaOw
set_option linter.unusedVariables false
set_option linter.unusedSimpArgs false
set_option linter.unusedSectionVars false
set_option linter.unnecessarySimpa false
namespace Go.Proofs.Ytnkmklnlaepdeaa
open Go.RowKit Go.Shelf
attribute [local go_sem] Oper.semAt_some

def encU16 : Enc Int where
  size := 1
  rd _ _ cs x := cs = [.int .u16 x] ∧ 0 ≤ x ∧ x < 65536
  len h := by simp [h.1]
  one h := by simp [h.1, Value.oneCell']
  keep h _ _ := h
theorem SlAt.u16 {w : World} {S : Nat → Prop} {A : Option Addr} {l : List Int} {k : Nat} (h : SlAt encU16 w S A l) (hk : k < l.length) : ∃ b off, A = some ⟨b, off, none⟩ ∧ S b ∧ w.cell? ⟨b, off + k, none⟩ = some (.int .u16 l[k]) ∧ 0 ≤ l[k] ∧ l[k] < 65536 := by
  obtain ⟨b, off, cs, e, hb, hs, rfl, h1⟩ := h.at_ hk
  exact ⟨b, off, e, hb, by simpa [encU16] using hs 0 _ rfl, h1⟩
theorem ints_getD (r : List Nat) (l : List Int) : (intsN r).map (fun v => l.getD v.toNat 0) = r.map (fun i => l.getD i 0) := by
  unfold intsN; rw [List.map_map]; rfl
/-- the indices lie within -/
theorem keepL_in {p : Pol} {l : List Int} {now : Int} : ∀ v ∈ intsN (keepL p l now), ∃ j : Nat, v = j ∧ j < l.length := by
  intro v hv
  unfold intsN at hv
  obtain ⟨j, hj, rfl⟩ := List.mem_map.1 hv
  exact ⟨j, rfl, keepL_lt hj⟩
theorem Own.ints {w : World} {lo : Nat} {e : TypeId} {S S' : Nat → Prop} {v : Value} {l : List Int} (h : Own encInt w lo e S v l) (hn : ∀ g, v.ownBlock = some g → ¬ S' g) : Own encInt w lo e S' v l := by
  obtain ⟨css, h0, h2, h3⟩ := h
  exact ⟨css, h0, by first | exact h2 | exact hn, by first | exact h3 | exact hn⟩
theorem own2_join {w : World} {lo nI : Nat} {e : TypeId} {S : Nat → Prop} {v1 v2 : Value} {l1 l2 : List Int} (h1 : Own encInt w lo e S v1 l1) (hb : ∀ g, v1.ownBlock = some g → g < nI) (h2 : OwnX (fun _ => False) encInt w nI e v2 l2) (hlo : lo ≤ nI) : Own2 encInt w lo e v1 v2 l1 l2 :=
  ⟨h1.ints (fun g hg hS => hS.2.1 hg), (h2.low hlo).1.ints (fun g hg hS => hS.2.2 hg), fun g hg hg' => by have := hb g hg; have := (h2.lt g hg').1; omega⟩
set_option maxHeartbeats 8000000 in
set_option maxRecDepth 100000 in
theorem rstable_any (A As : Option Addr) (c cs n m : Nat) (nw last : Int) (l : List Rule) (ds : List Int) (w : World) (hn : l.length = n) (hm : ds.length = m) (h1 : SlAt encExt w (Bl w.heap.size) A l) (h2 : SlAt encU16 w (Bl w.heap.size) As ds) (hl : n ≤ 9223372036854775807) (hl2 : m ≤ 9223372036854775807) (hla : 0 ≤ last ∧ last < 65536) :
    Calls Try.prog 7 #[.agg #[.int .i64 nw, .slice A n c], .slice As m cs, .int .u16 last] w (LawRet w) := by
  subst hn hm
  have H1 := Lib.hid h1; have H2 := Lib.hid h2; clear h1 h2
  obtain ⟨hla0, hla1⟩ := hla
  obtain ⟨n0, hn0⟩ : ∃ n0, w.heap.size = n0 := ⟨_, rfl⟩
  obtain ⟨W0, hW0⟩ : ∃ W0, w.alloc (.cells #[.int .i64 nw, .slice A l.length c] 24) = W0 := ⟨_, rfl⟩
  have hB0 : Below w.heap.size w W0 := by rw [← hW0]; exact ext_alloc (Below.refl _ _)
  have hr0 : W0.heap[n0]? = some (.cells #[.int .i64 nw, .slice A l.length c] 24 (0, 0)) := by rw [← hW0, ← hn0]; exact heap_alloc_new _ _
  have hs0 : n0 < W0.heap.size := (Array.getElem?_eq_some_iff.1 hr0).1
  have HC : Hid (∀ W, Below W0.heap.size W0 W → W.cell? ⟨n0, 0, none⟩ = some (.int .i64 nw) ∧ W.cell? ⟨n0, 1, none⟩ = some (.slice A l.length c)) := fun W hb => by
    obtain ⟨a, b, _⟩ := blk2 ((hb.block _ hs0).trans hr0)
    exact ⟨a, b⟩
  obtain ⟨c0, c1, _⟩ := blk2 hr0
  clear hr0
  go_enter Try.func7, Try.ntmps7
  by_cases h40 : 8 < l.length
  · have h40' : (8 : Int) < l.length := by omega
    go_wp2_with fail
    refine (awake38_any _).mono ?_
    rintro e wz ⟨rfl, hbz⟩
    go_wp2
    go_ret
    exact ⟨rfl, ext_trans hB0 hbz⟩
  have h40' : ¬ (8 : Int) < l.length := by omega
  by_cases h60 : 40 < ds.length
  · have h60' : (40 : Int) < ds.length := by omega
    go_wp2_with fail
    refine (awake38_any _).mono ?_
    rintro e wz ⟨rfl, hbz⟩
    go_wp2
    go_ret
    exact ⟨rfl, ext_trans hB0 hbz⟩
  have h60' : ¬ (40 : Int) < ds.length := by omega
  obtain ⟨pe, hpe⟩ : ∃ q, Hid (polE (nw, l) = q) := ⟨_, Lib.hid rfl⟩
  have K1 := Lib.hid (polCheck_any A c l.length nw l pe W0 rfl hpe.out (H1.out.fwd hB0) hl)
  go_wp2_with fail
  refine K1.out.mono ?_
  rintro e w1 ⟨rfl, hb1⟩
  have hB1 : Below w.heap.size w w1 := ext_trans hB0 hb1
  clear c0 c1 K1 hW0
  by_cases hx0 : pe = 0
  case neg =>
    have hx0' : (pe != 0) = true := by simp [hx0]
    clear hx0
    go_wp2_with fail
    refine (awake38_any _).mono ?_
    rintro e wz ⟨rfl, hbz⟩
    go_wp2
    go_ret
    exact ⟨rfl, ext_trans hB1 hbz⟩
  have hx0' : (pe != 0) = false := by simp [hx0]
  have HPE : Hid (polE (nw, l) = 0) := hpe.out.trans hx0
  clear hx0 hpe
  have HD : Hid (∀ x ∈ ds, 0 ≤ x ∧ x < 65536) := fun x hx => by
    obtain ⟨k, hk, rfl⟩ := List.getElem_of_mem hx
    obtain ⟨_, _, _, _, _, h1, h2⟩ := H2.out.u16 hk
    exact ⟨h1, h2⟩
  obtain ⟨n1, hn1⟩ : ∃ n1, w1.heap.size = n1 := ⟨_, rfl⟩
  have hz1 := hB1.size
  have HCW : Hid (∀ W, Below n1 w1 W → W.cell? ⟨n0, 0, none⟩ = some (.int .i64 nw) ∧ W.cell? ⟨n0, 1, none⟩ = some (.slice A l.length c)) := fun W hb => HC.out W (ext_trans hb1 (by rw [hn1]; exact hb))
  have HRU : Hid (∀ W, Below n1 w1 W → SlAt encExt W (Bl W.heap.size) A l) := fun W hb => H1.out.fwd (ext_trans hB1 (by rw [hn1]; exact hb))
  have HST : Hid (∀ W, Below n1 w1 W → SlAt encU16 W (Bl W.heap.size) As ds) := fun W hb => H2.out.fwd (ext_trans hB1 (by rw [hn1]; exact hb))
  have HBW : Hid (∀ W, Below n1 w1 W → Below w.heap.size w W) := fun W hb => ext_trans hB1 (by rw [hn1]; exact hb)
  go_wp2_with fail
  go_loopw [7, 8, 9, 38] (fun va vl vn i wr => ∃ (k : Nat) (D1 D2 : Option Addr) (d1 d2 : Nat) (al le : List Int) (nv : Int), k ≤ ds.length ∧ i = .int .i64 k ∧ va = .slice D1 al.length d1 ∧ vl = .slice D2 le.length d2 ∧ vn = .int .i64 nv ∧ Below n1 w1 wr ∧ Hid (nowT ds k = nv ∧ allT ds k = al ∧ leftT (nw, l) ds k = le) ∧ Hid (Own2 encInt wr n1 3 (.slice D1 al.length d1) (.slice D2 le.length d2) al le)) (fun _ _ _ i _ => ds.length - (intOf i).toNat)
  case atStart => exact ⟨0, none, none, 0, 0, [], [], 0, by omega, rfl, rfl, rfl, rfl, Below.refl _ _, ⟨nowT_zero ds, rfl, rfl⟩, Own2.nil_⟩
  case round =>
    obtain ⟨wo, rfl⟩ : ∃ wo : World, wo = wr := ⟨_, rfl⟩
    obtain ⟨k, D1, D2, d1, d2, al, le, nv, hk, rfl, rfl, rfl, rfl, hB, hT, hown⟩ := hrel
    have hnb := nowT_bound HD.out k hk
    rw [hT.out.1] at hnb
    have hkk40 : k ≤ 40 := by omega
    have hall : al.length = k := by rw [← hT.out.2.1]; exact allT_len ds k
    have hlel : le.length ≤ k := by rw [← hT.out.2.2]; exact (leftT_ok HD.out k hk).2.2
    have hal60 : al.length ≤ 40 := by omega
    have hle60 : le.length ≤ 40 := by omega
    have HAL := Lib.hid hall
    clear hall
    by_cases hlt : k < ds.length
    · obtain ⟨b, off, hAs, hb, g0, gd0, gd1⟩ := (HST.out wo hB).u16 hlt
      have hns := nowT_succ hlt
      rw [hT.out.1] at hns
      obtain ⟨d, hd⟩ : ∃ d, ds[k] = d := ⟨_, rfl⟩
      rw [hd] at g0 gd0 gd1 hns
      obtain ⟨nu, hnu⟩ : ∃ nu, nv + d = nu := ⟨_, rfl⟩
      have hnu0 : 0 ≤ nu ∧ nu ≤ 2700000 := by omega
      have hiu : I64 nu := by unfold I64; omega
      rw [hnu] at hns
      have HNS := Lib.hid hns
      have hki : (k : Int) < ds.length := by omega
      have hnn : (0 : Int) ≤ k := by omega
      have HL2 : Hid (allT ds (k + 1) = al ++ [nu] ∧ leftT (nw, l) ds (k + 1) = keepV (nw, l) (le ++ [nu]) nu) := by
        refine ⟨by rw [allT_succ, hT.out.2.1, HNS.out], ?_⟩
        show keepV (nw, l) (leftT (nw, l) ds k ++ [nowT ds (k + 1)]) (nowT ds (k + 1)) = _
        rw [hT.out.2.2, HNS.out]
      have hszo := hB.size
      have HB0 := Lib.hid hB
      have hltA := hown.out.1.lt
      have hltL := hown.out.2.1.lt
      obtain ⟨V, hV⟩ : ∃ V, wo.alloc (.cells #[.int .i64 nu] 3) = V := ⟨_, rfl⟩
      have hbV : Below wo.heap.size wo V := by rw [← hV]; exact ext_alloc (Below.refl _ _)
      have hVs := hbV.size
      have hrV : V.heap[wo.heap.size]? = some (.cells #[.int .i64 nu] 3 (0, 0)) := by rw [← hV]; exact heap_alloc_new _ _
      have hO5 := Lib.hid (hown.out.below hbV)
      have hO5o := Lib.hid hO5.out.1
      have HRD : Hid (encInt.rd V (fun b => Nw n1 V.heap.size b ∧ (Value.slice D1 al.length d1).ownBlock ≠ some b ∧ (Value.slice D2 le.length d2).ownBlock ≠ some b) [.int .i64 nu] nu) := ⟨rfl, hiu⟩
      clear hd hns hnb
      go_upto_region 9 with (fail)
      go_wp2_with (at_builtin; refine Hid.out ?_)
      change wpList _ _ _ _ _ _
      refine wpList_app1 (E := encInt) tyInts38 rfl _ _ rfl rfl hO5o.out nu [.int .i64 nu] rfl HRD.out hrV (fun _ h => h.1.2) (by first | omega | (simp; omega)) (by unfold maxLen; omega) (by omega) ?_
      intro A7 c7 w7 hown7 hg7 hat7
      have hO7 := Lib.hid (Own2.app hO5.out hown7 hg7 hat7).swap
      have hB7 : Hid (Below n1 w1 w7) := (HB0.out.trans (hbV.mono (by omega))).grown hg7 (by have := hbV.size; omega) (fun g h => (hltA g h).1)
      have hz7 : wo.heap.size ≤ w7.heap.size := by have := hbV.size; have := hg7.size; omega
      clear hown7 hg7 hat7 hV
      have hltL7 := hO7.out.1.lt
      have hO8 := Lib.hid (hO7.out.below (ext_alloc (o := .cells #[.int .i64 nu] 3) (Below.refl w7.heap.size w7)))
      have hO8o := Lib.hid hO8.out.1
      have HRD2 : Hid (encInt.rd (w7.alloc (.cells #[.int .i64 nu] 3)) (fun b => Nw n1 (w7.alloc (.cells #[.int .i64 nu] 3)).heap.size b ∧ (Value.slice D2 le.length d2).ownBlock ≠ some b ∧ (Value.slice A7 (al.length + 1) c7).ownBlock ≠ some b) [.int .i64 nu] nu) := ⟨rfl, hiu⟩
      go_wp2_with (at_builtin; refine Hid.out ?_)
      change wpList _ _ _ _ _ _
      refine wpList_app1 (E := encInt) tyInts38 rfl _ _ rfl rfl hO8o.out nu [.int .i64 nu] rfl HRD2.out (heap_alloc_new _ _) (fun _ h => h.1.2) (by simp; omega) (by unfold maxLen; omega) (by omega) ?_
      intro A9 c9 w9 hown9 hg9 hat9
      have hO9 := Lib.hid (Own2.app hO8.out hown9 hg9 hat9).swap
      have hB9 : Hid (Below n1 w1 w9) := (hB7.out.alloc (by omega) (.cells #[.int .i64 nu] 3)).grown hg9 (by simp; omega) (fun g h => (hltL7 g h).1)
      have hz9 : n1 ≤ w9.heap.size := by have := hg9.size; simp at this; omega
      clear hown9 hg9 hat9 hltL7
      obtain ⟨lf, hlf⟩ : ∃ lf, Hid (le ++ [nu] = lf) := ⟨_, Lib.hid rfl⟩
      have hlfl : le.length + 1 = lf.length := by rw [← hlf.out]; simp
      have hO9' := hO9.out
      rw [hlf.out, hlfl] at hO9'
      have HO9 := Lib.hid hO9'
      obtain ⟨_, _, _, hs9⟩ := Own2.parts1 HO9.out.swap
      obtain ⟨r, hr⟩ : ∃ r, Hid (keepL (nw, l) lf nu = r) := ⟨_, Lib.hid rfl⟩
      have HKP := Lib.hid (keep_any A A9 c c9 lf.length l.length nw nu l lf r w9 rfl rfl hr.out (HRU.out w9 hB9.out) hs9 hl (by omega))
      obtain ⟨q0, q1⟩ := HCW.out w9 hB9.out
      have HS9 := Lib.hid hs9
      clear hO9 hO9' hs9 hO8 hO8o HRD2 HRD hO7 hO5 hO5o
      try rw [hlfl]
      go_wp2_with fail
      refine HKP.out.mono ?_
      rintro e w10 ⟨RA, rc, rfl, _, _, hs10, hb10⟩
      obtain ⟨rl, hrl⟩ : ∃ rl, Hid (intsN r = rl) := ⟨_, Lib.hid rfl⟩
      rw [hrl.out] at hs10 ⊢
      obtain ⟨nI, hnI⟩ : ∃ n, w10.heap.size = n := ⟨_, rfl⟩
      have hz10 := hb10.size
      have hlrl : rl.length ≤ 41 := by
        have h := keepL_len (nw, l) lf nu
        rw [hr.out] at h
        rw [← hrl.out]; simp only [intsN, List.length_map]; omega
      have HT10 : Hid (∀ W', Below nI w10 W' → SlAt encInt W' (Bl nI) A9 lf) := fun W' hb => by
        have h := (HS9.out.fwd hb10).below (w' := W') (by rw [hnI]; exact hb)
        rw [hnI] at h; exact h
      have HR10 : Hid (∀ W', Below nI w10 W' → SlAt encInt W' (Bl nI) RA rl) := fun W' hb => by
        have h := (hs10.more (S' := Bl w10.heap.size) (fun g hg => hg.2)).below (w' := W') (by rw [hnI]; exact hb)
        rw [hnI] at h; exact h
      have HIN : Hid (∀ v ∈ rl, ∃ j : Nat, v = j ∧ j < lf.length) := by
        rw [← hrl.out, ← hr.out]; exact keepL_in
      have hB10 : Hid (Below n1 w1 w10) := hB9.out.trans (hb10.mono hz9)
      clear hs10 q0 q1 HKP
      go_wp2_with fail
      go_loopw [12, 59] (fun v i wr => ∃ (k : Nat) (D : Option Addr) (dc : Nat) (out : List Int), k ≤ rl.length ∧ i = .int .i64 k ∧ v = .slice D out.length dc ∧ Below nI w10 wr ∧ Hid (out = (rl.take k).map fun v => lf.getD v.toNat 0) ∧ Hid (OwnX (fun _ => False) encInt wr nI 3 (.slice D out.length dc) out)) (fun _ i _ => rl.length - (intOf i).toNat)
      case atStart => exact ⟨0, none, 0, [], by omega, rfl, rfl, Below.refl _ _, by simp [Hid], OwnX.nil_⟩
      case round =>
        obtain ⟨wqa, rfl⟩ : ∃ wqa : World, wqa = wr := ⟨_, rfl⟩
        obtain ⟨kqa, Dqa, dqa, outa, hkqa, rfl, rfl, hBqa, houta, howna⟩ := hrel
        by_cases hlqa : kqa < rl.length
        · obtain ⟨b, off, hRA, hb, g0, _⟩ := (HR10.out wqa hBqa).int hlqa
          obtain ⟨j, hj, hjl⟩ := HIN.out rl[kqa] (List.getElem_mem hlqa)
          obtain ⟨b2, off2, hTA, hb2, g1, gi⟩ := (HT10.out wqa hBqa).int hjl
          have eL : lf.getD j 0 = lf[j]'hjl := by rw [List.getD_eq_getElem?_getD, List.getElem?_eq_getElem hjl]; rfl
          obtain ⟨t, ht⟩ : ∃ t, lf[j]'hjl = t := ⟨_, rfl⟩
          have hst : Hid ((rl.take (kqa + 1)).map (fun v => lf.getD v.toNat 0) = (rl.take kqa).map (fun v => lf.getD v.toNat 0) ++ [t]) := by
            rw [Hid, List.take_succ_eq_append_getElem hlqa, List.map_append, hj]
            show _ ++ [lf.getD (j : Int).toNat 0] = _
            rw [Int.toNat_natCast, eL, ht]
          rw [ht] at g1 gi
          rw [hj] at g0
          have hjI : (j : Int) < lf.length := by omega
          have hj0 : (0 : Int) ≤ j := by omega
          have hjn : ¬ (j : Int) < 0 := by omega
          have hjg : ¬ (lf.length : Int) ≤ j := by omega
          have hki : (kqa : Int) < rl.length := by omega
          have hnn : (0 : Int) ≤ kqa := by omega
          have hol : outa.length ≤ kqa := by rw [houta.out]; simp; omega
          have hszo := hBqa.size
          have HB0 := Lib.hid hBqa
          have hlt5 := howna.out.lt
          have hO5 := Lib.hid (howna.out.alloc (.cells #[.int .i64 t] 3))
          have hO5o := Lib.hid hO5.out.1
          have HRD : Hid (encInt.rd (wqa.alloc (.cells #[.int .i64 t] 3)) (fun g => Nw nI (wqa.alloc (.cells #[.int .i64 t] 3)).heap.size g ∧ ¬ (fun _ => False) g ∧ (Value.slice Dqa outa.length dqa).ownBlock ≠ some g) [.int .i64 t] t) := ⟨rfl, gi⟩
          subst hRA hTA
          clear hj eL ht gi
          go_wp2_with (at_builtin; refine Hid.out ?_)
          change wpList _ _ _ _ _ _
          refine wpList_app1 (E := encInt) tyInts38 rfl _ _ rfl rfl hO5o.out t [.int .i64 t] rfl HRD.out (heap_alloc_new _ _) (fun _ h => h.1.2) (by simp; omega) (by unfold maxLen; omega) (by omega) ?_
          intro A7 c7 wm7 hownm7 hg7 hat7
          have hO7 := Lib.hid (hO5.out.app hownm7 hg7 hat7 (fun g h => h.elim))
          have hB7 : Hid (Below nI w10 wm7) := (HB0.out.alloc (by omega) (.cells #[.int .i64 t] 3)).grown hg7 (by simp; omega) (fun g h => (hlt5 g h).1)
          clear hownm7 hg7 hat7 hlt5
          go_wp2
          go_roundw
          case rel =>
            refine ⟨kqa + 1, A7, c7, outa ++ [t], hlqa, by go_num, by simp, hB7.out, by rw [Hid, hst.out, houta.out], ?_⟩
            have := hO7.out; simpa [Hid] using this
          case measure => simp [intOf]; omega
        · have hkka : Hid (outa = rl.map fun v => lf.getD v.toNat 0) := by rw [Hid, houta.out, List.take_of_length_le (by omega)]
          have hkIa : ¬ (kqa : Int) < rl.length := by omega
          clear hlqa houta
          have hB11 : Below n1 w1 wqa := hB10.out.trans (hBqa.mono (by omega))
          have hall9 := (HO9.out.1.below hb10 (fun _ h => h.1.2)).below (w' := wqa) (by rw [hnI]; exact hBqa) (fun _ h => by have := h.1.2; omega)
          have hJ : Hid (Own2 encInt wqa n1 3 (.slice A7 (al.length + 1) c7) (.slice Dqa outa.length dqa) (al ++ [nu]) outa) := own2_join hall9 (fun g hg => by have := (HO9.out.1.lt g hg).2; omega) howna.out (by omega)
          have hle1 : Hid (leftT (nw, l) ds (k + 1) = outa) := by
            have h3 := leftT_ok (p := (nw, l)) HD.out k hk
            rw [hT.out.1, hT.out.2.2] at h3
            have k1 : ∀ t ∈ lf, 0 ≤ t ∧ t ≤ nu := by
              intro t ht
              rw [← hlf.out] at ht
              rcases List.mem_append.1 ht with ht | ht
              · have := h3.1 t ht; omega
              · rw [List.mem_singleton] at ht; omega
            have k2 : lf.Pairwise (· ≤ ·) := by
              rw [← hlf.out]
              exact sorted_snoc h3.2.1 (fun x hx => by have := h3.1 x hx; omega)
            have hV := keepL_V HPE.out k1 k2 (by omega) (show 0 ≤ nu ∧ nu ≤ 1073741824 by omega)
            rw [HL2.out.2, hlf.out, hkka.out, ← hrl.out, ints_getD, ← hr.out]
            exact hV.symm
          go_wp2_with fail
          go_roundw
          case rel =>
            iterate 8 apply Exists.intro
            refine And.intro ?ql ?qr
            case qr => exact ⟨rfl, rfl, rfl, rfl, rfl, rfl, rfl, rfl⟩
            case ql =>
              refine ⟨k + 1, hlt, by go_num, A7, Dqa, c7, dqa, al ++ [nu], by simp, outa, rfl, nu, rfl, ⟨HNS.out, HL2.out.1, hle1.out⟩, ?_⟩
              have := hJ.out; simpa [Hid] using this
          case measure => simp [intOf]; omega
    · have hkd : ds.length = k := by omega
      have hkI : ¬ (k : Int) < ds.length := by omega
      obtain ⟨nf, hnf⟩ : ∃ nf, nv + last = nf := ⟨_, rfl⟩
      have hnf0 : 0 ≤ nf ∧ nf ≤ 2800000 := by omega
      have HEND : Hid ((keepL (nw, l) al nf).map (fun i => al.getD i 0) = (keepL (nw, l) le nf).map (fun i => le.getD i 0)) := by
        have h := stable_end HPE.out HD.out (by omega) (n := nf) (by rw [hkd, hT.out.1]; omega) (by omega)
        rw [hkd, hT.out.2.1, hT.out.2.2] at h
        exact h
      have HNF := Lib.hid hnf
      have HKD := Lib.hid hkd
      clear hkd hlt
      obtain ⟨_, _, _, hsa⟩ := Own2.parts1 hown.out
      obtain ⟨_, _, _, hsl⟩ := Own2.parts1 hown.out.swap
      obtain ⟨ra, hra⟩ : ∃ r, Hid (keepL (nw, l) al nf = r) := ⟨_, Lib.hid rfl⟩
      obtain ⟨rb, hrb⟩ : ∃ r, Hid (keepL (nw, l) le nf = r) := ⟨_, Lib.hid rfl⟩
      have HKP := Lib.hid (keep_any A D1 c d1 al.length l.length nw nf l al ra wo rfl rfl hra.out (HRU.out wo hB) hsa hl (by omega))
      obtain ⟨q0, q1⟩ := HCW.out wo hB
      have HSA := Lib.hid hsa
      have HSL := Lib.hid hsl
      have hszo := hB.size
      have HB0 := Lib.hid hB
      clear hsa hsl
      go_wp2_with fail
      refine HKP.out.mono ?_
      rintro e w5 ⟨RA, rc, rfl, _, _, hs5, hb5⟩
      obtain ⟨rl, hrl⟩ : ∃ rl, Hid (intsN ra = rl) := ⟨_, Lib.hid rfl⟩
      rw [hrl.out] at hs5 ⊢
      obtain ⟨n5, hn5⟩ : ∃ n, w5.heap.size = n := ⟨_, rfl⟩
      have hz5 := hb5.size
      have hlrl : rl.length ≤ 41 := by
        have h := keepL_len (nw, l) al nf
        rw [hra.out] at h
        rw [← hrl.out]; simp only [intsN, List.length_map]; omega
      have HT5 : Hid (∀ W', Below n5 w5 W' → SlAt encInt W' (Bl n5) D1 al) := fun W' hb => by
        have h := (HSA.out.fwd hb5).below (w' := W') (by rw [hn5]; exact hb)
        rw [hn5] at h; exact h
      have HR5 : Hid (∀ W', Below n5 w5 W' → SlAt encInt W' (Bl n5) RA rl) := fun W' hb => by
        have h := (hs5.more (S' := Bl w5.heap.size) (fun g hg => hg.2)).below (w' := W') (by rw [hn5]; exact hb)
        rw [hn5] at h; exact h
      have HIN5 : Hid (∀ v ∈ rl, ∃ j : Nat, v = j ∧ j < al.length) := by
        rw [← hrl.out, ← hra.out]; exact keepL_in
      have hB5 : Hid (Below n1 w1 w5) := HB0.out.trans (hb5.mono (by omega))
      clear hs5 q0 q1 HKP
      go_wp2_with fail
      go_loopw [15, 90] (fun v i wr => ∃ (k : Nat) (D : Option Addr) (dc : Nat) (out : List Int), k ≤ rl.length ∧ i = .int .i64 k ∧ v = .slice D out.length dc ∧ Below n5 w5 wr ∧ Hid (out = (rl.take k).map fun v => al.getD v.toNat 0) ∧ Hid (OwnX (fun _ => False) encInt wr n5 3 (.slice D out.length dc) out)) (fun _ i _ => rl.length - (intOf i).toNat)
      case atStart => exact ⟨0, none, 0, [], by omega, rfl, rfl, Below.refl _ _, by simp [Hid], OwnX.nil_⟩
      case round =>
        obtain ⟨wqb, rfl⟩ : ∃ wqb : World, wqb = wr := ⟨_, rfl⟩
        obtain ⟨kqb, Dqb, dqb, outb, hkqb, rfl, rfl, hBqb, houtb, hownb⟩ := hrel
        by_cases hlqb : kqb < rl.length
        · obtain ⟨b, off, hRA, hb, g0, _⟩ := (HR5.out wqb hBqb).int hlqb
          obtain ⟨j, hj, hjl⟩ := HIN5.out rl[kqb] (List.getElem_mem hlqb)
          obtain ⟨b2, off2, hTA, hb2, g1, gi⟩ := (HT5.out wqb hBqb).int hjl
          have eL : al.getD j 0 = al[j]'hjl := by rw [List.getD_eq_getElem?_getD, List.getElem?_eq_getElem hjl]; rfl
          obtain ⟨t, ht⟩ : ∃ t, al[j]'hjl = t := ⟨_, rfl⟩
          have hst : Hid ((rl.take (kqb + 1)).map (fun v => al.getD v.toNat 0) = (rl.take kqb).map (fun v => al.getD v.toNat 0) ++ [t]) := by
            rw [Hid, List.take_succ_eq_append_getElem hlqb, List.map_append, hj]
            show _ ++ [al.getD (j : Int).toNat 0] = _
            rw [Int.toNat_natCast, eL, ht]
          rw [ht] at g1 gi
          rw [hj] at g0
          have hjI : (j : Int) < al.length := by omega
          have hj0 : (0 : Int) ≤ j := by omega
          have hjn : ¬ (j : Int) < 0 := by omega
          have hjg : ¬ (al.length : Int) ≤ j := by omega
          have hki : (kqb : Int) < rl.length := by omega
          have hnn : (0 : Int) ≤ kqb := by omega
          have hol : outb.length ≤ kqb := by rw [houtb.out]; simp; omega
          have hszo := hBqb.size
          have HB0 := Lib.hid hBqb
          have hlt5 := hownb.out.lt
          have hO5 := Lib.hid (hownb.out.alloc (.cells #[.int .i64 t] 3))
          have hO5o := Lib.hid hO5.out.1
          have HRD : Hid (encInt.rd (wqb.alloc (.cells #[.int .i64 t] 3)) (fun g => Nw n5 (wqb.alloc (.cells #[.int .i64 t] 3)).heap.size g ∧ ¬ (fun _ => False) g ∧ (Value.slice Dqb outb.length dqb).ownBlock ≠ some g) [.int .i64 t] t) := ⟨rfl, gi⟩
          subst hRA hTA
          clear hj eL ht gi
          go_wp2_with (at_builtin; refine Hid.out ?_)
          change wpList _ _ _ _ _ _
          refine wpList_app1 (E := encInt) tyInts38 rfl _ _ rfl rfl hO5o.out t [.int .i64 t] rfl HRD.out (heap_alloc_new _ _) (fun _ h => h.1.2) (by simp; omega) (by unfold maxLen; omega) (by omega) ?_
          intro A7 c7 wm7 hownm7 hg7 hat7
          have hO7 := Lib.hid (hO5.out.app hownm7 hg7 hat7 (fun g h => h.elim))
          have hB7 : Hid (Below n5 w5 wm7) := (HB0.out.alloc (by omega) (.cells #[.int .i64 t] 3)).grown hg7 (by simp; omega) (fun g h => (hlt5 g h).1)
          clear hownm7 hg7 hat7 hlt5
          go_wp2
          go_roundw
          case rel =>
            refine ⟨kqb + 1, A7, c7, outb ++ [t], hlqb, by go_num, by simp, hB7.out, by rw [Hid, hst.out, houtb.out], ?_⟩
            have := hO7.out; simpa [Hid] using this
          case measure => simp [intOf]; omega
        · have hkkb : Hid (outb = rl.map fun v => al.getD v.toNat 0) := by rw [Hid, houtb.out, List.take_of_length_le (by omega)]
          have hkIb : ¬ (kqb : Int) < rl.length := by omega
          clear hlqb houtb
          have hB6 : Below n1 w1 wqb := hB5.out.trans (hBqb.mono (by omega))
          obtain ⟨_, _, _, hsB⟩ := hownb.out.parts
          have hsl6 : SlAt encInt wqb (Bl wqb.heap.size) D2 le := (HSL.out.fwd hb5).fwd (by rw [hn5]; exact hBqb)
          have HSL6 := Lib.hid hsl6
          have HSB := Lib.hid (show SlAt encInt wqb (Bl wqb.heap.size) Dqb outb from hsB.more (fun g hg => hg.1.2))
          have HKP := Lib.hid (keep_any A D2 c d2 le.length l.length nw nf l le rb wqb rfl rfl hrb.out (HRU.out wqb hB6) hsl6 hl (by omega))
          obtain ⟨q0, q1⟩ := HCW.out wqb hB6
          have hz6 := hB6.size
          have HB6 := Lib.hid hB6
          clear hsl6 hsB
          go_wp2_with fail
          refine HKP.out.mono ?_
          rintro e w7 ⟨RB, rcb, rfl, _, _, hs7, hb7⟩
          obtain ⟨rm, hrm⟩ : ∃ rm, Hid (intsN rb = rm) := ⟨_, Lib.hid rfl⟩
          rw [hrm.out] at hs7 ⊢
          obtain ⟨n7, hn7⟩ : ∃ n, w7.heap.size = n := ⟨_, rfl⟩
          have hz7 := hb7.size
          have hlrm : rm.length ≤ 41 := by
            have h := keepL_len (nw, l) le nf
            rw [hrb.out] at h
            rw [← hrm.out]; simp only [intsN, List.length_map]; omega
          have HT7 : Hid (∀ W', Below n7 w7 W' → SlAt encInt W' (Bl n7) D2 le) := fun W' hb => by
            have h := (HSL6.out.fwd hb7).below (w' := W') (by rw [hn7]; exact hb)
            rw [hn7] at h; exact h
          have HR7 : Hid (∀ W', Below n7 w7 W' → SlAt encInt W' (Bl n7) RB rm) := fun W' hb => by
            have h := (hs7.more (S' := Bl w7.heap.size) (fun g hg => hg.2)).below (w' := W') (by rw [hn7]; exact hb)
            rw [hn7] at h; exact h
          have HIN7 : Hid (∀ v ∈ rm, ∃ j : Nat, v = j ∧ j < le.length) := by
            rw [← hrm.out, ← hrb.out]; exact keepL_in
          have hB7 : Hid (Below n1 w1 w7) := HB6.out.trans (hb7.mono (by omega))
          have HSB7 := Lib.hid (HSB.out.fwd hb7)
          have hoBl : outb.length ≤ 41 := by rw [hkkb.out]; simpa using hlrl
          clear hs7 q0 q1 HKP
          go_wp2_with fail
          go_loopw [16, 115] (fun v i wr => ∃ (k : Nat) (D : Option Addr) (dc : Nat) (out : List Int), k ≤ rm.length ∧ i = .int .i64 k ∧ v = .slice D out.length dc ∧ Below n7 w7 wr ∧ Hid (out = (rm.take k).map fun v => le.getD v.toNat 0) ∧ Hid (OwnX (fun _ => False) encInt wr n7 3 (.slice D out.length dc) out)) (fun _ i _ => rm.length - (intOf i).toNat)
          case atStart => exact ⟨0, none, 0, [], by omega, rfl, rfl, Below.refl _ _, by simp [Hid], OwnX.nil_⟩
          case round =>
            obtain ⟨wqc, rfl⟩ : ∃ wqc : World, wqc = wr := ⟨_, rfl⟩
            obtain ⟨kqc, Dqc, dqc, outc, hkqc, rfl, rfl, hBqc, houtc, hownc⟩ := hrel
            by_cases hlqc : kqc < rm.length
            · obtain ⟨b, off, hRA, hb, g0, _⟩ := (HR7.out wqc hBqc).int hlqc
              obtain ⟨j, hj, hjl⟩ := HIN7.out rm[kqc] (List.getElem_mem hlqc)
              obtain ⟨b2, off2, hTA, hb2, g1, gi⟩ := (HT7.out wqc hBqc).int hjl
              have eL : le.getD j 0 = le[j]'hjl := by rw [List.getD_eq_getElem?_getD, List.getElem?_eq_getElem hjl]; rfl
              obtain ⟨t, ht⟩ : ∃ t, le[j]'hjl = t := ⟨_, rfl⟩
              have hst : Hid ((rm.take (kqc + 1)).map (fun v => le.getD v.toNat 0) = (rm.take kqc).map (fun v => le.getD v.toNat 0) ++ [t]) := by
                rw [Hid, List.take_succ_eq_append_getElem hlqc, List.map_append, hj]
                show _ ++ [le.getD (j : Int).toNat 0] = _
                rw [Int.toNat_natCast, eL, ht]
              rw [ht] at g1 gi
              rw [hj] at g0
              have hjI : (j : Int) < le.length := by omega
              have hj0 : (0 : Int) ≤ j := by omega
              have hjn : ¬ (j : Int) < 0 := by omega
              have hjg : ¬ (le.length : Int) ≤ j := by omega
              have hki : (kqc : Int) < rm.length := by omega
              have hnn : (0 : Int) ≤ kqc := by omega
              have hol : outc.length ≤ kqc := by rw [houtc.out]; simp; omega
              have hszo := hBqc.size
              have HB0 := Lib.hid hBqc
              have hlt5 := hownc.out.lt
              have hO5 := Lib.hid (hownc.out.alloc (.cells #[.int .i64 t] 3))
              have hO5o := Lib.hid hO5.out.1
              have HRD : Hid (encInt.rd (wqc.alloc (.cells #[.int .i64 t] 3)) (fun g => Nw n7 (wqc.alloc (.cells #[.int .i64 t] 3)).heap.size g ∧ ¬ (fun _ => False) g ∧ (Value.slice Dqc outc.length dqc).ownBlock ≠ some g) [.int .i64 t] t) := ⟨rfl, gi⟩
              subst hRA hTA
              clear hj eL ht gi
              go_wp2_with (at_builtin; refine Hid.out ?_)
              change wpList _ _ _ _ _ _
              refine wpList_app1 (E := encInt) tyInts38 rfl _ _ rfl rfl hO5o.out t [.int .i64 t] rfl HRD.out (heap_alloc_new _ _) (fun _ h => h.1.2) (by simp; omega) (by unfold maxLen; omega) (by omega) ?_
              intro A7 c7 wm7 hownm7 hg7 hat7
              have hO7 := Lib.hid (hO5.out.app hownm7 hg7 hat7 (fun g h => h.elim))
              have hB7 : Hid (Below n7 w7 wm7) := (HB0.out.alloc (by omega) (.cells #[.int .i64 t] 3)).grown hg7 (by simp; omega) (fun g h => (hlt5 g h).1)
              clear hownm7 hg7 hat7 hlt5
              go_wp2
              go_roundw
              case rel =>
                refine ⟨kqc + 1, A7, c7, outc ++ [t], hlqc, by go_num, by simp, hB7.out, by rw [Hid, hst.out, houtc.out], ?_⟩
                have := hO7.out; simpa [Hid] using this
              case measure => simp [intOf]; omega
            · have hkkc : Hid (outc = rm.map fun v => le.getD v.toNat 0) := by rw [Hid, houtc.out, List.take_of_length_le (by omega)]
              have hkIc : ¬ (kqc : Int) < rm.length := by omega
              clear hlqc houtc
              have hB8 : Below n1 w1 wqc := hB7.out.trans (hBqc.mono (by omega))
              obtain ⟨_, _, _, hsC⟩ := hownc.out.parts
              have hoCl : outc.length ≤ 41 := by rw [hkkc.out]; simpa using hlrm
              have hEQ : outb = outc := by
                rw [hkkb.out, hkkc.out, ← hrl.out, ← hrm.out, ints_getD, ints_getD, ← hra.out, ← hrb.out]
                exact HEND.out
              have HEQ := Lib.hid (eqInts_any Dqb Dqc dqb dqc outb.length outc.length _ _ outb outc true wqc rfl rfl (by rw [decide_eq_true hEQ]) (HSB7.out.fwd (by rw [hn7]; exact hBqc)) hsC (by omega) (by omega))
              have HB8 := Lib.hid (HBW.out wqc hB8)
              clear hEQ hsC
              go_wp2_with fail
              refine HEQ.out.mono ?_
              rintro e w9 ⟨rfl, hd9⟩
              have hB9 : Below w.heap.size w w9 := ext_trans HB8.out (hd9.below _)
              go_wp2_with fail
              refine (awake38_any _).mono ?_
              rintro e wz ⟨rfl, hbz⟩
              go_wp2
              go_ret
              exact ⟨rfl, ext_trans hB9 hbz⟩
end Go.Proofs.Ytnkmklnlaepdeaa

/-
  The walk of canonical.
-/
import Derived.Test.YtgmeghandjkkcaaGreatQa
import Derived.Deep.RegionLaw
set_option linter.unusedVariables false
set_option linter.unusedSimpArgs false
set_option linter.unusedSectionVars false
set_option linter.unnecessarySimpa false
namespace Go.Proofs.YtgmeghandjkkcaaGreat
open Go.RowKit Go.ChangeMaps

def getM (M : Eff) (p : Pl) : Sec := ((M.find? fun x => x.1 == p).map (·.2)).getD zsec
def sortedM (M : Eff) : Eff := (sortP (M.map (·.1))).map fun p => (p, getM M p)
theorem getM_mem {M : Eff} (hn : (M.map (·.1)).Nodup) {p : Pl} (hp : p ∈ M.map (·.1)) : (p, getM M p) ∈ M := by
  obtain ⟨x, hx, rfl⟩ := List.mem_map.1 hp
  have : ∃ y, M.find? (fun y => y.1 == x.1) = some y := by
    cases h : M.find? (fun y => y.1 == x.1) with
    | some y => exact ⟨y, rfl⟩
    | none => have := List.find?_eq_none.1 h x hx; simp at this
  obtain ⟨y, hy⟩ := this
  have hy1 := List.mem_of_find?_eq_some hy
  have hy2 : y.1 = x.1 := by simpa using List.find?_some hy
  have : (x.1, getM M x.1) = y := by
    unfold getM; rw [hy]; exact Prod.ext hy2.symm rfl
  rw [this]; exact hy1
theorem sortP_perm {a b : List Pl} (h : a.Perm b) : sortP a = sortP b := by
  have ht : ∀ x y z : Pl, (!(Go.Proofs.ltOf befI) y x) = true → (!(Go.Proofs.ltOf befI) z y) = true → (!(Go.Proofs.ltOf befI) z x) = true := by
    intro x y z h1 h2
    rw [befI_lt] at *; simp at *; omega
  have hc : ∀ x y : Pl, ((!(Go.Proofs.ltOf befI) y x) || (!(Go.Proofs.ltOf befI) x y)) = true := by
    intro x y
    rw [befI_lt, befI_lt]; simp; omega
  refine List.Perm.eq_of_pairwise (le := fun x y => (!(Go.Proofs.ltOf befI) y x) = true) ?_ (List.pairwise_mergeSort ht hc a) (List.pairwise_mergeSort ht hc b) ?_
  · intro x y _ _ h1 h2
    exact totPl x y (by simpa using h2) (by simpa using h1)
  · exact (List.mergeSort_perm a _).trans (h.trans (List.mergeSort_perm b _).symm)

theorem run_eqIn_pl (w : World) (a b c d : Int) : (Op.equalIn 10000 171 (.agg #[.int .i64 a, .int .i64 b]) (.agg #[.int .i64 c, .int .i64 d])).run Tryz.prog w = .ok ((a, b) == (c, d)) w := run_eq_pl w (a, b) (c, d)
theorem nextOf_snoc (L : List Wr) (v s : Int) (d : List Sec) : nextOf (L ++ [(v, s, d)]) = (v, s + d.length) := by
  unfold nextOf; rw [List.getLast?_concat]
theorem sortP_len (ps : List Pl) : (sortP ps).length = ps.length := List.length_mergeSort ..
theorem sortP_mem {ps : List Pl} {p : Pl} : p ∈ sortP ps ↔ p ∈ ps := (List.mergeSort_perm ps _).mem_iff
theorem PMap.sec {w : World} {b : Nat} {M : Eff} (h : PMap w b M) {p : Pl} (hp : p ∈ M.map (·.1)) : OkSec (getM M p) ∧ ∀ w', PMap w' b M → (Instr.lookup 151 (.map (some b)) (plV p) false).run Tryz.prog w' = .ok (secVal (getM M p)) w' := by
  have hm := getM_mem h.keys hp
  refine ⟨?_, fun w' h' => h'.lookup hm⟩
  obtain ⟨_, _, _, _, _, hok⟩ := h
  exact hok _ hm
theorem PRange.ne_row {w : World} {b r base : Nat} {M todo : Eff} {T : TypeId} {α : Type} {E : Enc α} {S : Nat → Prop} {v : Value} {l : List α} (h : PRange w b r M todo) (ho : Own E w base T S v l) : v.ownBlock ≠ some r ∧ v.ownBlock ≠ some b := by
  obtain ⟨es, clock, since, seen, c0, hb, _, _, _, hr, _⟩ := h
  obtain ⟨css, hrow, _⟩ := ho
  rcases hrow.2 with ⟨rfl, _⟩ | ⟨g, cap, cur, rfl, _, hh, _⟩
  · simp [Value.ownBlock]
  · constructor
    · intro e
      have : g = r := by simpa [Value.ownBlock] using e
      subst this
      rw [hr] at hh; cases hh
    · intro e
      have : g = b := by simpa [Value.ownBlock] using e
      subst this
      rw [hb] at hh; cases hh
theorem PRange.below {w w' : World} {b r : Nat} {M todo : Eff} (h : PRange w b r M todo) (hb : Below w.heap.size w w') : PRange w' b r M todo := h.kept (hb.block _ h.map.lt) (hb.block _ h.lt)
set_option maxHeartbeats 8000000 in
theorem canonical_any (b : Nat) (M : Eff) (w : World) (h : PMap w b M) (hM : M.length ≤ 100000) (hok : ∀ x ∈ M, 0 ≤ x.1.1 ∧ x.1.1 < 8 ∧ 0 ≤ x.1.2 ∧ x.1.2 < 4096) :
    Calls Tryz.prog 99 #[.map (some b)] w (RetSl encWr (canonL (sortedM M)) w) := by
  have hblt := h.lt
  have hkeys := Lib.hid h.keys
  have H := Lib.hid h; clear h
  have HOK := Lib.hid hok; clear hok
  obtain ⟨cur, hcs, hmk⟩ := makePls M.length hM w
  have HCS := Lib.hid hcs; clear hcs
  go_enter Tryz.func99, Tryz.ntmps99
  go_wp2_with (at_len; refine Hid.out ?_)
  change wpList _ _ _ _ _ _
  refine wpList_len_pl _ rfl _ rfl b M rfl H.out ?_
  go_wp2_with (at_range; refine Hid.out ?_)
  change wpList _ _ _ _ _ _
  refine wpList_range_pl _ rfl _ rfl b M rfl (H.out.alloc _) ?_
  intro w1 hR hg1 hs1
  have hsz1 : w1.heap.size = w.heap.size + 2 := by rw [hs1]; simp
  have HR := Lib.hid hR; clear hR
  have hB1 : Below w.heap.size w w1 := (((Below.refl w.heap.size w).alloc (Nat.le_refl _) (.cells cur 171)).grown hg1 (by simp) (by simp))
  have hO1 : Hid (Own encExt w1 w.heap.size 171 (fun _ => False) (.slice (some ⟨w.heap.size, 0, none⟩) 0 M.length) []) := by
    refine Own.blk (Own.made (cur := cur) (Nat.le_refl _) (by simp [maxLen]; omega) HCS.out (fun h => h)) (fun g hg => ?_)
    rcases hg with hg | hg
    · exact hg.elim
    · have : w.heap.size = g := by simpa [Value.ownBlock] using hg
      exact hg1.block g (by simp; omega) (by simp)
  have HS1 := Lib.hid hsz1; clear hsz1 hs1 hmk
  simp only [World.size_alloc] at HR ⊢
  go_frame
  go_wp2
  go_loopw [3] (fun v wr => ∃ (A : Option Addr) (c : Nat) (ps : List Pl) (todo : Eff), v = .slice A ps.length c ∧ Hid (PRange wr b (w.heap.size + 1) M todo) ∧ Below w.heap.size w wr ∧ Hid (Own encExt wr w.heap.size 171 (fun _ => False) (.slice A ps.length c) ps) ∧ Hid ((M.map (·.1)).Perm (ps ++ todo.map (·.1)))) (fun _ wr => wr.rangeLeft b (w.heap.size + 1))
  case atStart => exact ⟨some ⟨w.heap.size, 0, none⟩, M.length, [], M, rfl, HR.out, hB1, hO1, by simp [Hid]⟩
  case round =>
    obtain ⟨A, c, ps, todo, rfl, hR, hB, hO, hP⟩ := hrel
    have hlen : ps.length + todo.length ≤ 100000 := by have := hP.out.length_eq; simp at this; omega
    go_wp2_with (at_next; refine Hid.out ?_)
    change wpList _ _ _ _ _ _
    refine wpList_next_pl _ rfl _ rfl b (w.heap.size + 1) M todo rfl hR.out ?done ?more
    case more =>
      rintro ⟨⟨p1, p2⟩, sc⟩ todo' w2 hperm hR2 hg2 hs2 hen
      simp only [plV] at hen ⊢
      have hne := hR.out.ne_row hO.out
      have hO2 : Own encExt w2 w.heap.size 171 (fun _ => False) (.slice A ps.length c) ps := hO.out.blk (fun g hg => hg2.block g (by
        rcases hg with hg | hg
        · exact hg.elim
        · exact (hO.out.lt g hg).2) (by
        rcases hg with hg | hg
        · exact hg.elim
        · intro e; exact hne.1 (by rw [hg]; exact e)))
      have hkey : (p1, p2) ∈ M.map (·.1) := hP.out.mem_iff.2 (List.mem_append_right _ (List.mem_map.2 ⟨_, hperm.mem_iff.2 (List.mem_cons_self ..), rfl⟩))
      obtain ⟨y, hy1, hy2⟩ := List.mem_map.1 hkey
      have hyb := HOK.out y hy1
      rw [hy2] at hyb
      simp only at hyb
      obtain ⟨k1, k2, k3, k4⟩ := hyb
      have hsz := hB.size
      have hR2' := Lib.hid hR2; clear hR2
      have hs2' := Lib.hid hs2; clear hs2
      have hsz2 : wr.heap.size = w2.heap.size := hs2'.out.symm
      have HS2 := Lib.hid hsz2
      have hszl : wr.heap.size ≤ w2.heap.size := by omega
      have hO3 := Lib.hid ((hO2.alloc (fun _ h => h.elim) (.cells #[.int .i64 p1, .int .i64 p2] 171)).alloc (fun _ h => h.elim) (.cells #[.int .i64 p1, .int .i64 p2] 171))
      have hlen' : ps.length ≤ 100000 := by omega
      clear hsz2 hy1 hy2 hkey hO2
      go_wp2_with (at_builtin; refine Hid.out ?_)
      change wpList _ _ _ _ _ _
      refine wpList_app1 (E := encExt) tyPls rfl _ _ rfl rfl hO3.out (p1, p2) [.int .i64 p1, .int .i64 p2] rfl (ext_mk (x := (p1, p2)) (by unfold I64; simp only; omega) (by unfold I64; simp only; omega)) (heap_new2 _ _ _) (fun _ h => h.elim) (by simp; omega) (by simp [maxLen]; omega) (by omega) ?_
      intro A' c' w5 hO5 hg5 hat5
      have hne2 := hR2'.out.ne_row (Own.blk hO.out (w' := w2) (fun g hg => hg2.block g (by
        rcases hg with hg | hg
        · exact hg.elim
        · exact (hO.out.lt g hg).2) (by
        rcases hg with hg | hg
        · exact hg.elim
        · intro e; exact hne.1 (by rw [hg]; exact e))))
      have hR5 := Lib.hid (((hR2'.out.below ((Below.refl _ _).alloc (Nat.le_refl _) (.cells #[.int .i64 p1, .int .i64 p2] 171))).below ((Below.refl _ _).alloc (Nat.le_refl _) (.cells #[.int .i64 p1, .int .i64 p2] 171))).kept (w' := w5) (hg5.block _ (by have := hR2'.out.map.lt; simp; omega) (fun e => hne2.2 e.symm)) (hg5.block _ (by have := hR2'.out.lt; simp; omega) (fun e => hne2.1 e.symm)))
      have hB2 : Below w.heap.size w w2 := hB.grown hg2 hB.size (fun k e => by injection e with e; omega)
      have hB5 := Lib.hid (((hB2.alloc (by omega) (.cells #[.int .i64 p1, .int .i64 p2] 171)).alloc (by simp; omega) (.cells #[.int .i64 p1, .int .i64 p2] 171)).grown hg5 (by simp; omega) (fun g h => (hO.out.lt g h).1))
      have hpl := hR.out.left
      go_frame
      go_wp2
      go_roundw
      case rel =>
        refine ⟨A', c', ps ++ [(p1, p2)], todo', by simp, hR5.out, hB5.out, by simpa [Hid] using hO5, ?_⟩
        refine hP.out.trans ?_
        have h2 := hperm.map (·.1)
        simp only [List.map_cons] at h2
        rw [List.append_assoc]
        exact List.Perm.append_left ps h2
      case measure =>
        rw [hpl, hR5.out.left, hperm.length_eq]; simp
    case done =>
      intro ht
      subst ht
      have hP2 : Hid (sortP ps = sortP (M.map (·.1))) := sortP_perm (by have := hP.out; simpa using this.symm)
      have hpsl : ps.length ≤ 100000 := by omega
      have hpok : Hid (∀ p ∈ ps, 0 ≤ p.1 ∧ p.1 < 8 ∧ 0 ≤ p.2 ∧ p.2 < 4096) := fun p hp => by
        have : p ∈ M.map (·.1) := hP.out.mem_iff.2 (List.mem_append_left _ hp)
        obtain ⟨y, hy1, rfl⟩ := List.mem_map.1 this
        exact HOK.out y hy1
      go_frame
      go_wp2_with fail
      refine (sortPl_any A w.heap.size c 171 _ ps wr hO.out (by omega) (fun p hp => by have := hpok.out p hp; unfold I64; omega)).mono ?_
      rintro e ws ⟨⟨vr, rfl⟩, hSl, hgs⟩
      have hglt : ∀ g, (Value.slice A ps.length c).ownBlock = some g → w.heap.size ≤ g ∧ g < wr.heap.size := hO.out.lt
      have hszs := hgs.size
      have hBs : Below w.heap.size w ws := hB.grown hgs hB.size (fun g hg => (hglt g hg).1)
      have hMs := hR.out.map.kept (w' := ws) (hgs.block _ hR.out.map.lt (fun e => (hR.out.ne_row hO.out).2 e.symm))
      have hSl2 : SlAt encExt ws (Bl ws.heap.size) A (sortP ps) := hSl.more (fun g hg => by
        have : (Value.slice A ps.length c).ownBlock = some g := by rw [hg]; rfl
        have := (hglt g this).2
        exact Nat.lt_of_lt_of_le this hszs)
      have HSL : Hid (∀ w', Below ws.heap.size ws w' → SlAt encExt w' (Bl ws.heap.size) A (sortP ps)) := fun w' hb => hSl2.below hb
      have HMS : Hid (∀ w', Below ws.heap.size ws w' → PMap w' b M) := fun w' hb => hMs.kept (hb.block _ hMs.lt)
      have hbs : b < ws.heap.size := hMs.lt
      have hszb := hB.size
      obtain ⟨sp, hsp⟩ : ∃ sp, Hid (sp = sortP ps) := ⟨_, Lib.hid rfl⟩
      rw [← hsp.out] at HSL hP2
      have hspl : sp.length = ps.length := by rw [hsp.out]; exact sortP_len ps
      have hspok : Hid (∀ p ∈ sp, (p ∈ M.map (·.1)) ∧ 0 ≤ p.1 ∧ p.1 < 8 ∧ 0 ≤ p.2 ∧ p.2 < 4096) := fun p hp => by
        have hp' : p ∈ ps := by rw [hsp.out] at hp; exact sortP_mem.1 hp
        exact ⟨hP.out.mem_iff.2 (List.mem_append_left _ hp'), hpok.out p hp'⟩
      have hfin : Hid (canonL (sortedM M) = canonL (sp.map fun p => (p, getM M p))) := by rw [sortedM, ← hP2.out]; exact rfl
      have HSPL := Lib.hid hspl
      have hsl1 : (ps.length : Int) = sp.length := by omega
      rw [← hspl]
      have hspb : sp.length ≤ 100000 := by omega
      clear hsl1 hspl hSl hSl2 hMs hglt hlen hP hpok hR hO hP2 hg1 hB1 hO1 HS1 HR HCS hgs
      go_wp2
      go_loopw [5, 28] (fun v i wr2 => ∃ (k : Nat) (L : List Wr) (A2 : Option Addr) (c2 : Nat), k ≤ sp.length ∧ i = .int .i64 k ∧ v = .slice A2 L.length c2 ∧ Below ws.heap.size ws wr2 ∧ Hid (L = canonL ((sp.take k).map fun p => (p, getM M p))) ∧ Hid (CanOwn wr2 (ws.heap.size + 1) (.slice A2 L.length c2) L) ∧ Hid (wr2.heap[ws.heap.size]? = some (.cells #[.int .i64 (nextOf L).1, .int .i64 (nextOf L).2] 171 (0, 0)))) (fun _ i _ => sp.length - (intOf i).toNat)
      case atStart => exact ⟨0, [], none, 0, by omega, rfl, rfl, (Below.refl _ _).alloc (Nat.le_refl _) _, rfl, Or.inl ⟨rfl, rfl⟩, heap_alloc_new _ _⟩
      case round =>
        obtain ⟨k, L, A2, c2, hk, rfl, rfl, hB2, hL, hCan, hbox⟩ := hrel
        by_cases hlt : k < sp.length
        · obtain ⟨gb, off, hA, hgb, g0, g1, i1, i2⟩ := (HSL.out wr hB2).ext hlt
          have hgbl : gb < ws.heap.size := hgb
          subst hA
          have hki : (k : Int) < sp.length := by omega
          have hnn : (0 : Int) ≤ k := by omega
          have hsz2 := hB2.size
          obtain ⟨hkm, hp1, hp2, hp3, hp4⟩ := hspok.out _ (List.getElem_mem hlt)
          have hLl := canonL_len ((sp.take k).map fun p => (p, getM M p))
          rw [← hL.out, List.length_map, List.length_take, Nat.min_eq_left (Nat.le_of_lt hlt)] at hLl
          obtain ⟨hL1, hL2⟩ := hLl
          have HL2 := Lib.hid hL2; clear hL2
          have hst : Hid (canonL ((sp.take (k + 1)).map fun p => (p, getM M p)) = canonStep L (sp[k], getM M sp[k])) := by
            rw [List.take_succ_eq_append_getElem hlt, List.map_append, List.map_singleton, canonL_snoc, ← hL.out]; exact rfl
          obtain ⟨hsec, hlook⟩ := (HMS.out wr hB2).sec hkm
          obtain ⟨⟨p1, p2⟩, hpe⟩ : ∃ p, p = sp[k] := ⟨_, rfl⟩
          rw [← hpe] at g0 g1 hp1 hp2 hp3 hp4 hst hsec hlook
          simp only at g0 g1 hp1 hp2 hp3 hp4
          have HPE := Lib.hid hpe; clear hpe hkm
          obtain ⟨x0, x1, x2, x3, x4, x5, x6, x7, hx⟩ := sec8 hsec
          rw [hx] at hst hsec
          have HLK : Hid (∀ w', PMap w' b M → (Instr.lookup 151 (.map (some b)) (.agg #[.int .i64 p1, .int .i64 p2]) false).run Tryz.prog w' = .ok (.agg #[.int .u8 x0, .int .u8 x1, .int .u8 x2, .int .u8 x3, .int .u8 x4, .int .u8 x5, .int .u8 x6, .int .u8 x7]) w') := fun w' h' => by
            have := hlook w' h'
            rw [hx] at this
            exact this
          clear hlook hx i1 i2
          obtain ⟨n1, n2, hn⟩ : ∃ n1 n2, Hid (nextOf L = (n1, n2)) := ⟨_, _, Lib.hid rfl⟩
          have hbox' := hbox.out
          rw [hn.out] at hbox'
          simp only at hbox'
          obtain ⟨q0, q1, qf⟩ := blk2 hbox'
          have HBX := Lib.hid hbox'; clear hbox' hbox
          have hq := fun W => run_eqIn_pl W p1 p2 n1 n2
          have hbxl : ws.heap.size < wr.heap.size := (Array.getElem?_eq_some_iff.1 HBX.out).1
          generalize hqq : ((p1, p2) == (n1, n2)) = q at hq
          have HQ := Lib.hid hqq; clear hqq
          cases q with
          | false =>
            have hCan2 := Lib.hid ((hCan.out.below ((Below.refl _ _).alloc (Nat.le_refl _) (.cells #[.int .i64 p1, .int .i64 p2] 171))).below ((Below.refl _ _).alloc (Nat.le_refl _) (.cells #[.int .i64 p1, .int .i64 p2, .slice none 0 0] 70)))
            go_wp2_with (at_builtin; refine Hid.out ?_)
            change wpList _ _ _ _ _ _
            refine wpList_push _ rfl _ _ rfl rfl hCan2.out p1 p2 rfl (heap_new2 _ _ _) (by unfold I64; omega) (by unfold I64; omega) (by simp; omega) (by omega) ?_
            intro g c' w3 hC3 hg3 hgb3 hgl3
            obtain ⟨init, vol, st, d, D, dc, css, g', hLe, hge, _, v1, v2, hrow, hall, hownd, hcell, hfz, hgb4, hgl4, hneD⟩ := hC3.last (by simp)
            have hge' : g = g' := by injection hge with hge; injection hge
            subst hge'
            obtain ⟨ea, eb⟩ := List.append_inj' hLe rfl
            injection eb with eb
            injection eb with ec ed
            injection ed with ed ef
            subst ea ec ed
            have HDE := Lib.hid ef; clear ef
            have hbx3 : w3.heap[wr.heap.size]? = some (.cells #[.int .i64 p1, .int .i64 p2] 171 (0, 0)) := (hg3.block _ (by simp; omega) (fun e => by have := (hCan.out.blockLt _ e.symm).2; omega)).trans ((Below.heap_alloc _ _ _ (by simp)).trans (heap_alloc_new _ _))
            have hnb3 : w3.heap[ws.heap.size]? = some (.cells #[.int .i64 n1, .int .i64 n2] 171 (0, 0)) := (hg3.block _ (by simp; omega) (fun e => by have := (hCan.out.blockLt _ e.symm).1; omega)).trans ((Below.heap_alloc _ _ _ (by simp; omega)).trans ((Below.heap_alloc _ _ _ hbxl).trans HBX.out))
            have hB3 : Below ws.heap.size ws w3 := ((hB2.alloc (by omega) _).alloc (by simp; omega) _).grown hg3 (by simp; omega) (fun g hg => by have := (hCan.out.blockLt g hg).1; omega)
            have hsz3 := hg3.size
            simp only [World.size_alloc] at hsz3
            obtain ⟨b0, b1, bf⟩ := blk2 hbx3
            obtain ⟨m0, m1, mf⟩ := blk2 hnb3
            have HROW := Lib.hid hrow; have HALL := Lib.hid hall; have HOWND := Lib.hid hownd; have HBX3 := Lib.hid hbx3; have HNB3 := Lib.hid hnb3
            have HND := Lib.hid hneD
            clear hrow hall hownd hbx3 hnb3 hneD hq g0 g1 q0 q1 qf hge hCan2
            have hdl : d.length ≤ 100000 := by rw [← HDE.out]; simp
            have hwrl : wr.heap.size < w3.heap.size := by omega
            have hstep : Hid (L ++ [(p1, p2, d ++ [[x0, x1, x2, x3, x4, x5, x6, x7]])] = canonStep L ((p1, p2), [x0, x1, x2, x3, x4, x5, x6, x7])) := by
              rw [canonStep_new (fun e => by have h1 := HQ.out; rw [e, hn.out] at h1; simp at h1), ← HDE.out]; exact rfl
            have hnext : Hid ((p1, p2 + (((d ++ [[x0, x1, x2, x3, x4, x5, x6, x7]]) : List Sec).length : Int)) = (p1, p2 + 1)) := by rw [← HDE.out]; exact rfl
            have hM3 : PMap w3 b M := HMS.out w3 hB3
            have hlk3 := HLK.out (w3).drew (hM3.kept rfl)
            have hown4 := Lib.hid ((HOWND.out.alloc (fun _ h => h.elim) (.cells #[.int .u8 x0, .int .u8 x1, .int .u8 x2, .int .u8 x3, .int .u8 x4, .int .u8 x5, .int .u8 x6, .int .u8 x7] 65)).blk (w' := ((w3).alloc (.cells #[.int .u8 x0, .int .u8 x1, .int .u8 x2, .int .u8 x3, .int .u8 x4, .int .u8 x5, .int .u8 x6, .int .u8 x7] 65)).drew) (fun _ _ => rfl))
            have hfz2 := hfz (L.length * 3 + 2)
            have HFZ := Lib.hid hfz; clear hfz
            have hb1s : ws.heap.size + 1 ≤ (w3).heap.size := by omega
            have hgnb : Hid (g ≠ wr.heap.size) := fun e => row_ne_blk HROW.out HBX3.out (by decide) (by rw [← e]; rfl)
            have hDnb : Hid ((Value.slice D d.length dc).ownBlock ≠ some wr.heap.size) := HOWND.out.ne_blk HBX3.out (by decide)
            go_wp2
            go_region_law (first | (refine step_app1 (E := encSec) tySecs rfl _ _ rfl rfl hown4.out [x0, x1, x2, x3, x4, x5, x6, x7] [.int .u8 x0, .int .u8 x1, .int .u8 x2, .int .u8 x3, .int .u8 x4, .int .u8 x5, .int .u8 x6, .int .u8 x7] rfl ⟨rfl, hsec⟩ (heap_alloc_new _ _) (fun _ h => h.elim) (by simp; omega) (by simp [maxLen]; omega) (by omega) ?_; intro A' c5 w5 hown5 hg5 hat5; have hw5 := Lib.hid ((hg5.block g (by simp; omega) (fun e => HND.out e.symm)).trans (Below.heap_alloc _ _ _ hgl4)); have t5 := (World.cell?_of_block (a := ⟨g, L.length * 3 + 2, none⟩) hw5.out).trans hcell; have f5 := (World.frozen?_of_block (a := ⟨g, L.length * 3 + 2, none⟩) hw5.out).trans hfz2))
            all_goals
              have hgc := Lib.hid (CanOwn.grow2 (w0 := w3) (w' := w5) (((Below.refl (w3).heap.size (w3)).alloc (Nat.le_refl _) (.cells #[.int .u8 x0, .int .u8 x1, .int .u8 x2, .int .u8 x3, .int .u8 x4, .int .u8 x5, .int .u8 x6, .int .u8 x7] 65)).drew) v1 v2 HROW.out HALL.out HOWND.out hg5 hown5 hat5)
              have hsz5 := hg5.size
              simp only [World.size_alloc, World.drew] at hsz5
              have hbx6 : (w5.setCell ⟨g, L.length * 3 + 2, none⟩ (.slice A' (d.length + 1) c5)).heap[wr.heap.size]? = some (.cells #[.int .i64 p1, .int .i64 p2] 171 (0, 0)) := (Below.heap_setCell _ _ _ _ (fun e => hgnb.out e.symm)).trans ((hg5.block _ (by simp; omega) (fun e => hDnb.out e.symm)).trans ((Below.heap_alloc _ _ _ hwrl).trans HBX3.out))
              have hnb6 : (w5.setCell ⟨g, L.length * 3 + 2, none⟩ (.slice A' (d.length + 1) c5)).heap[ws.heap.size]? = some (.cells #[.int .i64 n1, .int .i64 n2] 171 (0, 0)) := (Below.heap_setCell _ _ _ _ (by simp only; omega)).trans ((hg5.block _ (by simp; omega) (fun e => by have := (HOWND.out.lt _ e.symm).1; omega)).trans ((Below.heap_alloc _ _ _ (by omega)).trans HNB3.out))
              have hB6 : Below ws.heap.size ws (w5.setCell ⟨g, L.length * 3 + 2, none⟩ (.slice A' (d.length + 1) c5)) := ((((hB3.alloc (by omega) _).drew).grown hg5 (by simp [World.drew]; omega) (fun g hg => by have := (HOWND.out.lt g hg).1; omega)).setCell (p := ⟨g, L.length * 3 + 2, none⟩) (by simp only; omega) _)
              have hsz6 : ws.heap.size + 1 < w5.heap.size := by omega
              clear hfz2 hcell b0 b1 bf m0 m1 mf t5 f5 hlk3 hM3
              obtain ⟨w6, hw6⟩ : ∃ w6, w6 = w5.setCell ⟨g, L.length * 3 + 2, none⟩ (.slice A' (d.length + 1) c5) := ⟨_, rfl⟩
              have hs6 : w6.heap.size = w5.heap.size := by rw [hw6]; simp [World.setCell]
              rw [← hw6] at hgc hbx6 hnb6 hB6 ⊢
              have HW6 := Lib.hid hw6; clear hw6
              have hs6' : ws.heap.size + 1 < w6.heap.size := by omega
              have HS6 := Lib.hid hs6; clear hs6
              obtain ⟨b0, b1, bf⟩ := blk2 hbx6
              have HBX6 := Lib.hid hbx6; have HNB6 := Lib.hid hnb6
              clear hbx6 hnb6
              go_wp2_with fail
              refine (behind_any p1 p2 w6 (by omega) (by omega)).mono ?_
              rintro e w7 ⟨rfl, hb7⟩
              have hnb7 : w7.heap[ws.heap.size]? = some (.cells #[.int .i64 n1, .int .i64 n2] 171 (0, 0)) := (hb7.block _ (by omega)).trans HNB6.out
              obtain ⟨m0, m1, mf⟩ := blk2 hnb7
              have hset := Lib.hid (blk2_set hnb7 (.int .i64 p1) (.int .i64 (p2 + 1)))
              clear hnb7 b0 b1 bf
              go_wp2
              go_roundw
              case rel =>
                refine ⟨k + 1, L ++ [(p1, p2, d ++ [[x0, x1, x2, x3, x4, x5, x6, x7]])], some ⟨g, 0, none⟩, c', hlt, by go_num, by simp, ?_, ?_, ?_, ?_⟩
                · exact ((hB6.trans (hb7.mono (by omega))).setCell (p := ⟨ws.heap.size, 0, none⟩) (by simp) _).setCell (p := ⟨ws.heap.size, 1, none⟩) (by simp) _
                · rw [hst.out]; exact hstep.out
                · have h7 := hgc.out.below hb7
                  have h8 := h7.keep (w' := (w7.setCell ⟨ws.heap.size, 0, none⟩ (.int .i64 p1)).setCell ⟨ws.heap.size, 1, none⟩ (.int .i64 (p2 + 1))) (fun b hb _ => (Below.heap_setCell _ _ _ _ (by simp only; omega)).trans (Below.heap_setCell _ _ _ _ (by simp only; omega))) (by simp [World.setCell])
                  simpa [Hid] using h8
                · have := hset.out
                  rw [nextOf_snoc, hnext.out]
                  exact this
              case measure => simp [intOf]; omega
          | true =>
            have hpn : (p1, p2) = nextOf L := by rw [hn.out]; exact eq_of_beq HQ.out
            have hLne : L ≠ [] := by
              intro e
              rw [e] at hpn
              have : p1 = -1 := congrArg Prod.fst hpn
              omega
            obtain ⟨w3, hw3⟩ : ∃ w3, w3 = wr.alloc (.cells #[.int .i64 p1, .int .i64 p2] 171) := ⟨_, rfl⟩
            have hb3 : Below wr.heap.size wr w3 := by rw [hw3]; exact (Below.refl _ _).alloc (Nat.le_refl _) _
            have hs3 : w3.heap.size = wr.heap.size + 1 := by rw [hw3]; simp
            have hbx3 : w3.heap[wr.heap.size]? = some (.cells #[.int .i64 p1, .int .i64 p2] 171 (0, 0)) := by rw [hw3]; exact heap_alloc_new _ _
            obtain ⟨init, vol, st, d, D, dc, css, g, hLe, hge, _, v1, v2, hrow, hall, hownd, hcell, hfz, hgb4, hgl4, hneD⟩ := (hCan.out.below hb3).last hLne
            have hnb3 : w3.heap[ws.heap.size]? = some (.cells #[.int .i64 n1, .int .i64 n2] 171 (0, 0)) := (hb3.block _ hbxl).trans HBX.out
            have hB3 : Below ws.heap.size ws w3 := hB2.trans (hb3.mono hsz2)
            have hdl : d.length ≤ 100000 := by
              have := HL2.out (vol, st, d) (by rw [hLe]; simp)
              simp only at this
              omega
            have hpe2 : (p1, p2) = (vol, st + (d.length : Int)) := by rw [hpn, hLe, nextOf_snoc]
            have hstep : Hid (init ++ [(vol, st, d ++ [[x0, x1, x2, x3, x4, x5, x6, x7]])] = canonStep L ((p1, p2), [x0, x1, x2, x3, x4, x5, x6, x7])) := by
              rw [hLe] at hpn ⊢
              exact (canonStep_more hpn).symm
            have hnext : Hid ((vol, st + (((d ++ [[x0, x1, x2, x3, x4, x5, x6, x7]]) : List Sec).length : Int)) = (p1, p2 + 1)) := by
              injection hpe2 with e1 e2
              rw [e1, e2, List.length_append, List.length_singleton]
              refine Prod.ext rfl ?_
              simp only
              omega
            have hil : init.length ≤ 100000 := by rw [hLe] at hL1; simp at hL1; omega
            have hwrl : wr.heap.size < w3.heap.size := by omega
            obtain ⟨b0, b1, bf⟩ := blk2 hbx3
            obtain ⟨m0, m1, mf⟩ := blk2 hnb3
            have HROW := Lib.hid hrow; have HALL := Lib.hid hall; have HOWND := Lib.hid hownd; have HBX3 := Lib.hid hbx3; have HNB3 := Lib.hid hnb3
            have HND := Lib.hid hneD
            have hLl : Hid (L.length = init.length + 1) := by rw [hLe]; simp [Hid]
            have HLE := Lib.hid hLe
            subst hge
            clear hrow hall hownd hbx3 hnb3 hneD hLe hpn hpe2 hL1
            go_upto_region 14 with (fail)
            rw [← hw3, hLl.out]
            have HW3 := Lib.hid hw3; clear hw3
            have HS3 := Lib.hid hs3; clear hs3
            clear hq g0 g1 q0 q1 qf
            have hM3 : PMap w3 b M := HMS.out w3 hB3
            have hlk3 := HLK.out (w3).drew (hM3.kept rfl)
            have hown4 := Lib.hid ((HOWND.out.alloc (fun _ h => h.elim) (.cells #[.int .u8 x0, .int .u8 x1, .int .u8 x2, .int .u8 x3, .int .u8 x4, .int .u8 x5, .int .u8 x6, .int .u8 x7] 65)).blk (w' := ((w3).alloc (.cells #[.int .u8 x0, .int .u8 x1, .int .u8 x2, .int .u8 x3, .int .u8 x4, .int .u8 x5, .int .u8 x6, .int .u8 x7] 65)).drew) (fun _ _ => rfl))
            have hfz2 := hfz (init.length * 3 + 2)
            have HFZ := Lib.hid hfz; clear hfz
            have hb1s : ws.heap.size + 1 ≤ (w3).heap.size := by omega
            have hgnb : Hid (g ≠ wr.heap.size) := fun e => row_ne_blk HROW.out HBX3.out (by decide) (by rw [← e]; rfl)
            have hDnb : Hid ((Value.slice D d.length dc).ownBlock ≠ some wr.heap.size) := HOWND.out.ne_blk HBX3.out (by decide)
            go_wp2
            go_region_law (first | (refine step_app1 (E := encSec) tySecs rfl _ _ rfl rfl hown4.out [x0, x1, x2, x3, x4, x5, x6, x7] [.int .u8 x0, .int .u8 x1, .int .u8 x2, .int .u8 x3, .int .u8 x4, .int .u8 x5, .int .u8 x6, .int .u8 x7] rfl ⟨rfl, hsec⟩ (heap_alloc_new _ _) (fun _ h => h.elim) (by simp; omega) (by simp [maxLen]; omega) (by omega) ?_; intro A' c5 w5 hown5 hg5 hat5; have hw5 := Lib.hid ((hg5.block g (by simp; omega) (fun e => HND.out e.symm)).trans (Below.heap_alloc _ _ _ hgl4)); have t5 := (World.cell?_of_block (a := ⟨g, init.length * 3 + 2, none⟩) hw5.out).trans hcell; have f5 := (World.frozen?_of_block (a := ⟨g, init.length * 3 + 2, none⟩) hw5.out).trans hfz2))
            all_goals
              have hgc := Lib.hid (CanOwn.grow2 (w0 := w3) (w' := w5) (((Below.refl (w3).heap.size (w3)).alloc (Nat.le_refl _) (.cells #[.int .u8 x0, .int .u8 x1, .int .u8 x2, .int .u8 x3, .int .u8 x4, .int .u8 x5, .int .u8 x6, .int .u8 x7] 65)).drew) v1 v2 HROW.out HALL.out HOWND.out hg5 hown5 hat5)
              have hsz5 := hg5.size
              simp only [World.size_alloc, World.drew] at hsz5
              have hbx6 : (w5.setCell ⟨g, init.length * 3 + 2, none⟩ (.slice A' (d.length + 1) c5)).heap[wr.heap.size]? = some (.cells #[.int .i64 p1, .int .i64 p2] 171 (0, 0)) := (Below.heap_setCell _ _ _ _ (fun e => hgnb.out e.symm)).trans ((hg5.block _ (by simp; omega) (fun e => hDnb.out e.symm)).trans ((Below.heap_alloc _ _ _ hwrl).trans HBX3.out))
              have hnb6 : (w5.setCell ⟨g, init.length * 3 + 2, none⟩ (.slice A' (d.length + 1) c5)).heap[ws.heap.size]? = some (.cells #[.int .i64 n1, .int .i64 n2] 171 (0, 0)) := (Below.heap_setCell _ _ _ _ (by simp only; omega)).trans ((hg5.block _ (by simp; omega) (fun e => by have := (HOWND.out.lt _ e.symm).1; omega)).trans ((Below.heap_alloc _ _ _ (by omega)).trans HNB3.out))
              have hB6 : Below ws.heap.size ws (w5.setCell ⟨g, init.length * 3 + 2, none⟩ (.slice A' (d.length + 1) c5)) := ((((hB3.alloc (by omega) _).drew).grown hg5 (by simp [World.drew]; omega) (fun g hg => by have := (HOWND.out.lt g hg).1; omega)).setCell (p := ⟨g, init.length * 3 + 2, none⟩) (by simp only; omega) _)
              have hsz6 : ws.heap.size + 1 < w5.heap.size := by omega
              clear hfz2 hcell b0 b1 bf m0 m1 mf t5 f5 hlk3 hM3
              obtain ⟨w6, hw6⟩ : ∃ w6, w6 = w5.setCell ⟨g, init.length * 3 + 2, none⟩ (.slice A' (d.length + 1) c5) := ⟨_, rfl⟩
              have hs6 : w6.heap.size = w5.heap.size := by rw [hw6]; simp [World.setCell]
              rw [← hw6] at hgc hbx6 hnb6 hB6 ⊢
              have HW6 := Lib.hid hw6; clear hw6
              have hs6' : ws.heap.size + 1 < w6.heap.size := by omega
              have HS6 := Lib.hid hs6; clear hs6
              obtain ⟨b0, b1, bf⟩ := blk2 hbx6
              have HBX6 := Lib.hid hbx6; have HNB6 := Lib.hid hnb6
              clear hbx6 hnb6
              go_wp2_with fail
              refine (behind_any p1 p2 w6 (by omega) (by omega)).mono ?_
              rintro e w7 ⟨rfl, hb7⟩
              have hnb7 : w7.heap[ws.heap.size]? = some (.cells #[.int .i64 n1, .int .i64 n2] 171 (0, 0)) := (hb7.block _ (by omega)).trans HNB6.out
              obtain ⟨m0, m1, mf⟩ := blk2 hnb7
              have hset := Lib.hid (blk2_set hnb7 (.int .i64 p1) (.int .i64 (p2 + 1)))
              clear hnb7 b0 b1 bf
              go_wp2
              go_roundw
              case rel =>
                refine ⟨k + 1, init ++ [(vol, st, d ++ [[x0, x1, x2, x3, x4, x5, x6, x7]])], some ⟨g, 0, none⟩, c2, hlt, by go_num, by simp, ?_, ?_, ?_, ?_⟩
                · exact ((hB6.trans (hb7.mono (by omega))).setCell (p := ⟨ws.heap.size, 0, none⟩) (by simp) _).setCell (p := ⟨ws.heap.size, 1, none⟩) (by simp) _
                · rw [hst.out]; exact hstep.out
                · have h7 := hgc.out.below hb7
                  have h8 := h7.keep (w' := (w7.setCell ⟨ws.heap.size, 0, none⟩ (.int .i64 p1)).setCell ⟨ws.heap.size, 1, none⟩ (.int .i64 (p2 + 1))) (fun b hb _ => (Below.heap_setCell _ _ _ _ (by simp only; omega)).trans (Below.heap_setCell _ _ _ _ (by simp only; omega))) (by simp [World.setCell])
                  simpa [Hid] using h8
                · have := hset.out
                  rw [nextOf_snoc, hnext.out]
                  exact this
              case measure => simp [intOf]; omega
        · have hkk : k = sp.length := by omega
          subst hkk
          go_wp2
          go_ret
          have e := hL.out
          rw [List.take_length] at e
          rw [hfin.out, ← e]
          obtain ⟨_, r1, r2, r3⟩ := hCan.out.own.parts
          exact ⟨A2, c2, rfl, r1, r2, r3.more (fun g h => h.mono (by omega) (Nat.le_refl _)), hBs.trans (hB2.mono (by omega))⟩
end Go.Proofs.YtgmeghandjkkcaaGreat

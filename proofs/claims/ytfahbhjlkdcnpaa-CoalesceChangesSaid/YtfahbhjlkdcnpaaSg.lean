/-
  The walk of Restrict (the program).
-/
import Derived.Test.YtfahbhjlkdcnpaaSc
set_option linter.unusedVariables false
set_option linter.unusedSimpArgs false
set_option linter.unusedSectionVars false
set_option linter.unnecessarySimpa false
namespace Go.Proofs.Ytfahbhjlkdcnpaa
open Go.RowKit Go.ChangeMaps

def selB (v : Int) (keep : List Ext) (p : Pl) : Bool := p.1 == v && keep.any (inExt p.2)
def resM (M : Eff) (v : Int) (keep : List Ext) : Eff := M.filter fun x => selB v keep x.1
def restrictL (l : List Wr) (v : Int) (keep : List Ext) : List Wr := if chkN placedN l = 0 then canonL (sortedM (resM (effM l) v keep)) else []
theorem optM_of_mem {M : Eff} (hn : (M.map (·.1)).Nodup) {x : Pl × Sec} (hx : x ∈ M) : optM M x.1 = some x.2 := by
  have h := getM_mem hn (List.mem_map.2 ⟨x, hx, rfl⟩)
  have hs : (optM M x.1).isSome := (optM_mem M x.1).2 (List.mem_map.2 ⟨x, hx, rfl⟩)
  obtain ⟨s, hs⟩ := Option.isSome_iff_exists.1 hs
  unfold optM at hs ⊢
  cases hf : M.find? (fun y => y.1 == x.1) with
  | none => rw [hf] at hs; simp at hs
  | some y =>
    have hy1 := List.mem_of_find?_eq_some hf
    have hy2 : y.1 = x.1 := by simpa using List.find?_some hf
    have : y = x := by
      rw [List.nodup_iff_pairwise_ne, List.pairwise_map] at hn
      rcases Decidable.em (y = x) with e | e
      · exact e
      · exfalso
        obtain ⟨i, hi, hyi⟩ := List.mem_iff_getElem.1 hy1
        obtain ⟨j, hj, hxj⟩ := List.mem_iff_getElem.1 hx
        rcases Nat.lt_trichotomy i j with h1 | h1 | h1
        · exact List.pairwise_iff_getElem.1 hn i j hi hj h1 (by rw [hyi, hxj]; exact hy2)
        · subst h1; exact e (hyi.symm.trans hxj)
        · exact List.pairwise_iff_getElem.1 hn j i hj hi h1 (by rw [hyi, hxj]; exact hy2.symm)
    rw [this]; rfl
theorem resM_nodup {M : Eff} (hn : (M.map (·.1)).Nodup) (v : Int) (keep : List Ext) : ((resM M v keep).map (·.1)).Nodup := (List.filter_sublist.map _).nodup hn
theorem optM_res {M : Eff} (hn : (M.map (·.1)).Nodup) (v : Int) (keep : List Ext) (p : Pl) : optM (resM M v keep) p = if selB v keep p = true then optM M p else none := by
  by_cases h : (optM (resM M v keep) p).isSome
  · obtain ⟨x, hx, rfl⟩ := List.mem_map.1 ((optM_mem _ _).1 h)
    have hx2 := List.mem_filter.1 hx
    rw [optM_of_mem (resM_nodup hn v keep) hx, if_pos hx2.2, optM_of_mem hn hx2.1]
  · have h0 : optM (resM M v keep) p = none := by simpa using h
    rw [h0]
    split
    · rename_i hs
      rcases hm : optM M p with _ | s
      · rfl
      · exfalso
        obtain ⟨x, hx, rfl⟩ := List.mem_map.1 ((optM_mem M p).1 (by rw [hm]; rfl))
        exact h ((optM_mem _ _).2 (List.mem_map.2 ⟨x, List.mem_filter.2 ⟨hx, hs⟩, rfl⟩))
    · rfl
theorem sortedM_ext {M N : Eff} (hm : (M.map (·.1)).Nodup) (hn : (N.map (·.1)).Nodup) (h : ∀ p, optM M p = optM N p) : sortedM M = sortedM N := by
  have hp : (M.map (·.1)).Perm (N.map (·.1)) := (List.perm_ext_iff_of_nodup hm hn).2 (fun p => by rw [← optM_mem, ← optM_mem, h])
  rw [sortedM, sortedM, sortP_perm hp]
  exact List.map_congr_left fun p _ => by rw [getM_opt, getM_opt, h]
theorem entries_ok {w : World} {b : Nat} {M : Eff} (h : PMap w b M) : ∀ x ∈ M, OkSec x.2 := by
  obtain ⟨_, _, _, _, _, hok⟩ := h
  exact hok

theorem optStep {M todo todo' M2 done : Eff} {x : Pl × Sec} {v : Int} {keep : List Ext} (hn : (M.map (·.1)).Nodup) (hperm : M.Perm (done ++ todo)) (hpm : todo.Perm (x :: todo')) (hopt : ∀ p, optM M2 p = if p ∈ todo.map (·.1) then none else optM (resM M v keep) p) :
    x ∈ M ∧ (∃ done', M.Perm (done' ++ todo')) ∧ (selB v keep x.1 = false → ∀ p, optM M2 p = if p ∈ todo'.map (·.1) then none else optM (resM M v keep) p) ∧
      (selB v keep x.1 = true → ∀ p, optM (putE M2 x.1 x.2) p = if p ∈ todo'.map (·.1) then none else optM (resM M v keep) p) := by
  have hp2 : M.Perm (done ++ (x :: todo')) := hperm.trans (List.Perm.append_left done hpm)
  have hx : x ∈ M := hp2.mem_iff.2 (by simp)
  have hnd : ((done ++ (x :: todo')).map (·.1)).Nodup := (hp2.map (·.1)).nodup_iff.1 hn
  have hxt : x.1 ∉ todo'.map (·.1) := by
    rw [List.map_append, List.nodup_append] at hnd
    exact (List.nodup_cons.1 hnd.2.1).1
  have hmem : ∀ p, p ∈ todo.map (·.1) ↔ p = x.1 ∨ p ∈ todo'.map (·.1) := fun p => by
    rw [(hpm.map (·.1)).mem_iff]; simp
  have hr : optM (resM M v keep) x.1 = if selB v keep x.1 = true then some x.2 else none := by rw [optM_res hn, optM_of_mem hn hx]
  refine ⟨hx, ⟨done ++ [x], by simpa using hp2⟩, fun hs p => ?_, fun hs p => ?_⟩
  · rw [hopt p]
    by_cases h1 : p = x.1
    · subst h1
      rw [if_pos ((hmem _).2 (Or.inl rfl)), if_neg hxt, hr, hs]; simp
    · by_cases h2 : p ∈ todo'.map (·.1)
      · rw [if_pos ((hmem _).2 (Or.inr h2)), if_pos h2]
      · rw [if_neg (fun h => by rcases (hmem p).1 h with h | h; exact h1 h; exact h2 h), if_neg h2]
  · rw [optM_put]
    by_cases h1 : p = x.1
    · subst h1
      rw [if_pos rfl, if_neg hxt, hr, hs]; simp
    · rw [if_neg h1, hopt p]
      by_cases h2 : p ∈ todo'.map (·.1)
      · rw [if_pos ((hmem _).2 (Or.inr h2)), if_pos h2]
      · rw [if_neg (fun h => by rcases (hmem p).1 h with h | h; exact h1 h; exact h2 h), if_neg h2]
set_option maxHeartbeats 4000000 in
theorem restrict_any (A A2 : Option Addr) (c c2 : Nat) (l : List Wr) (v : Int) (keep : List Ext) (w : World) (h1 : SlAt encWr w (Bl w.heap.size) A l) (hs : l.length ≤ 9223372036854775807) (h2 : SlAt encExt w (Bl w.heap.size) A2 keep) (hk : keep.length ≤ 9223372036854775807) :
    Calls Try.prog 22 #[.slice A l.length c, .int .i64 v, .slice A2 keep.length c2] w (RetSlN encWr (restrictL l v keep) (chkN placedN l) w) := by
  have H1 : Hid (∀ w', Below w.heap.size w w' → SlAt encWr w' (Bl w'.heap.size) A l) := fun w' hb => h1.belowUp hb hb.size
  have H2 : Hid (∀ w', Below w.heap.size w w' → SlAt encExt w' (Bl w'.heap.size) A2 keep) := fun w' hb => h2.belowUp hb hb.size
  clear h1 h2
  obtain ⟨ea, hea⟩ : ∃ ea, Hid (chkN placedN l = ea) := ⟨_, Lib.hid rfl⟩
  have hca := Lib.hid (checkP_any A c l w (H1.out w (Below.refl _ _)) (by omega))
  rw [hea.out] at hca
  have hmm := @run_makeMap Try.prog
  by_cases he : ea = 0
  · have he1 : (ea != 0) = false := by simp [he]
    have HE := Lib.hid he; clear he
    have HALL : Hid (∀ x ∈ l, placedN x = 0) := chk_all (by rw [hea.out, HE.out])
    go_enter Try.func22, Try.ntmps22
    go_wp2_with fail
    refine hca.out.mono ?_
    rintro e w1 ⟨rfl, hb1⟩
    have hsz1 := hb1.size
    go_wp2_with fail
    have hB1 : Below w.heap.size w (w1.alloc (.map #[] 0)) := hb1.alloc hsz1 _
    refine (effect_any A c l (w1.alloc (.map #[] 0)) (H1.out _ hB1) hs HALL.out).mono ?_
    rintro e w2 ⟨b, rfl, hM, hbb, hb2⟩
    have hsz2 := hb2.size
    simp only [World.size_alloc] at hsz2 hbb
    have hB2 : Below w.heap.size w w2 := hB1.trans (hb2.mono (by simp; omega))
    have hN := Lib.hid ((emptyMap w1).kept (hb2.block _ (by simp)))
    have hkeys := Lib.hid hM.keys
    have hsecs := Lib.hid (entries_ok hM)
    obtain ⟨M, hMe⟩ : ∃ M, Hid (M = effM l) := ⟨_, Lib.hid rfl⟩
    rw [← hMe.out] at hM hkeys hsecs
    have HM := Lib.hid hM; clear hM hmm
    go_wp2_with (at_range; refine Hid.out ?_)
    change wpList _ _ _ _ _ _
    refine wpList_range_pl _ rfl _ rfl b M rfl HM.out ?_
    intro w3 hR hg3 hs3
    have HR := Lib.hid hR; clear hR
    have hB3 : Below w.heap.size w w3 := hB2.grown hg3 hB2.size (by simp)
    have hN3 := Lib.hid (hN.out.kept (hg3.block _ hN.out.lt (by simp)))
    have HS3 := Lib.hid hs3; clear hs3
    go_frame
    go_wp2
    go_loopw [10] (fun _ wr => ∃ todo M2 : Eff, Hid (PRange wr b w2.heap.size M todo) ∧ Hid (PMap wr w1.heap.size M2) ∧ Below w.heap.size w wr ∧ Hid (∃ done, M.Perm (done ++ todo)) ∧ Hid (∀ p, optM M2 p = if p ∈ todo.map (·.1) then none else optM (resM M v keep) p)) (fun _ wr => wr.rangeLeft b w2.heap.size)
    case atStart =>
      refine ⟨M, [], HR.out, hN3.out, hB3, ⟨[], List.Perm.refl _⟩, fun p => ?_⟩
      split
      · rfl
      · rename_i hp
        rw [optM_res hkeys.out]
        split
        · have : ¬ (optM M p).isSome := fun h => hp ((optM_mem M p).1 h)
          have h0 : optM M p = none := by simpa using this
          rw [h0]; rfl
        · rfl
    case round =>
      obtain ⟨todo, M2, hR, hN2, hB, hperm, hopt⟩ := hrel
      go_wp2_with (at_next; refine Hid.out ?_)
      change wpList _ _ _ _ _ _
      refine wpList_next_pl _ rfl _ rfl b w2.heap.size M todo rfl hR.out ?done ?more
      case more =>
        rintro ⟨⟨p1, p2⟩, sc⟩ todo' w4 hpm hR4 hg4 hs4 hen
        obtain ⟨done, hpd⟩ := hperm.out
        obtain ⟨hxM, hd', hno, hyes⟩ := optStep hkeys.out hpd hpm hopt.out
        have hok := hsecs.out _ hxM
        simp only at hok
        obtain ⟨x0, x1, x2, x3, x4, x5, x6, x7, rfl⟩ := sec8 hok
        have hne : Hid (w1.heap.size < w2.heap.size) := by show w1.heap.size < w2.heap.size; omega
        have hN4 := Lib.hid (hN2.out.kept (hg4.block _ hN2.out.lt (fun e => by injection e with e; have := hne.out; omega)))
        have hsz := hB.size
        have hs4' : wr.heap.size = w4.heap.size := hs4.symm
        have hszl : w.heap.size ≤ w4.heap.size := by omega
        have hB4 : Below w.heap.size w w4 := hB.grown hg4 hsz (fun k e => by injection e with e; omega)
        have HPM := Lib.hid hpm; have HNO := Lib.hid hno; have HYES := Lib.hid hyes; have HD' := Lib.hid hd'; have HR4 := Lib.hid hR4; have HXM := Lib.hid hxM
        have hpl := Lib.hid hR.out.left
        have hM4lt := hN4.out.lt
        have hR4lt := hR4.lt
        have hb4lt := hR4.map.lt
        simp only [plV, secVal, secV, List.map_cons, List.map_nil] at hen
        clear hpm hno hyes hd' hR4 hxM hpd hs4 hs4'
        by_cases hv : p1 = v
        · have hv1 : (p1 == v) = true := by simp [hv]
          have HV := Lib.hid hv; clear hv
          obtain ⟨q, hq⟩ : ∃ q, Hid (keep.any (inExt p2) = q) := ⟨_, Lib.hid rfl⟩
          have hsel : Hid (selB v keep (p1, p2) = q) := by
            have h1 : (p1 == v) = true := hv1
            simp only [Hid, selB, h1, hq.out, Bool.true_and]
          go_wp2_with fail
          have hB5 : Below w.heap.size w ((w4.alloc (.cells #[.int .i64 p1, .int .i64 p2] 85)).alloc (.cells #[.int .u8 x0, .int .u8 x1, .int .u8 x2, .int .u8 x3, .int .u8 x4, .int .u8 x5, .int .u8 x6, .int .u8 x7] 53)) := (hB4.alloc hszl _).alloc (by simp; omega) _
          refine (contains_any A2 c2 keep p2 _ (H2.out _ hB5) hk q hq.out).mono ?_
          rintro e w5 ⟨rfl, hb5⟩
          have hsz5 := hb5.size
          simp only [World.size_alloc] at hsz5
          have hB6 := Lib.hid (hB5.trans (hb5.mono (by simp; omega)))
          have hbA : Below w4.heap.size w4 w5 := (((Below.refl _ _).alloc (Nat.le_refl _) _).alloc (by simp) _).trans (hb5.mono (by simp; omega))
          have hN5 := Lib.hid (hN4.out.kept (hbA.block _ hM4lt))
          have hR5 := Lib.hid (HR4.out.below hbA)
          have hpb : w5.heap[w4.heap.size]? = some (.cells #[.int .i64 p1, .int .i64 p2] 85 (0, 0)) := (hb5.block _ (by simp; omega)).trans ((Below.heap_alloc _ _ _ (by simp)).trans (heap_alloc_new _ _))
          have hsb : w5.heap[w4.heap.size + 1]? = some (.cells #[.int .u8 x0, .int .u8 x1, .int .u8 x2, .int .u8 x3, .int .u8 x4, .int .u8 x5, .int .u8 x6, .int .u8 x7] 53 (0, 0)) := (hb5.block _ (by simp)).trans (heap_new2 _ _ _)
          obtain ⟨t0, t1, tf⟩ := blk2 hpb
          obtain ⟨u0, u1, u2, u3, u4, u5, u6, u7, uf⟩ := blk8 hsb
          clear hpb hsb hen hB5 hb5 hbA
          cases q with
          | false =>
            go_wp2
            go_roundw
            case rel => exact ⟨todo', M2, hR5.out, hN5.out, hB6.out, HD'.out, HNO.out hsel.out⟩
            case measure => rw [hpl.out, hR5.out.left, HPM.out.length_eq]; simp
          | true =>
            go_wp2_with (at_mapUpdate; refine Hid.out ?_)
            change wpList _ _ _ _ _ _
            refine wpList_mapUpdate_pl _ rfl _ _ _ rfl w1.heap.size _ (p1, p2) [x0, x1, x2, x3, x4, x5, x6, x7] rfl rfl rfl hN5.out hok ?_
            intro w6 hM6 hg6 hs6
            have hR6 := Lib.hid (hR5.out.kept (hg6.block _ hR5.out.map.lt (fun e => by injection e with e; omega)) (hg6.block _ hR5.out.lt (fun e => by injection e with e; have := hne.out; omega)))
            have HM6 := Lib.hid hM6
            have hB7 := Lib.hid (hB6.out.grown hg6 (by omega) (fun k e => by injection e with e; omega))
            clear hM6 hs6 t0 t1 tf u0 u1 u2 u3 u4 u5 u6 u7 uf
            go_frame
            go_wp2
            go_roundw
            case rel => exact ⟨todo', _, hR6.out, HM6.out, hB7.out, HD'.out, HYES.out hsel.out⟩
            case measure => rw [hpl.out, hR6.out.left, HPM.out.length_eq]; simp
        · have hv1 : (p1 == v) = false := by simp [hv]
          have HV := Lib.hid hv; clear hv
          have hsel : Hid (selB v keep (p1, p2) = false) := by
            have h1 : (p1 == v) = false := hv1
            simp only [Hid, selB, h1, Bool.false_and]
          have hbA : Below w4.heap.size w4 ((w4.alloc (.cells #[.int .i64 p1, .int .i64 p2] 85)).alloc (.cells #[.int .u8 x0, .int .u8 x1, .int .u8 x2, .int .u8 x3, .int .u8 x4, .int .u8 x5, .int .u8 x6, .int .u8 x7] 53)) := ((Below.refl _ _).alloc (Nat.le_refl _) _).alloc (by simp) _
          have HBA := Lib.hid hbA; clear hbA
          go_wp2
          go_roundw
          case rel => exact ⟨todo', M2, HR4.out.below HBA.out, hN4.out.kept (HBA.out.block _ hM4lt), hB4.trans (HBA.out.mono hszl), HD'.out, HNO.out hsel.out⟩
          case measure => rw [hpl.out, (HR4.out.below HBA.out).left, HPM.out.length_eq]; simp
      case done =>
        intro ht
        subst ht
        have hfin : Hid (∀ p, optM M2 p = optM (resM M v keep) p) := fun p => by have := hopt.out p; simpa using this
        have hk2 := hN2.out.keys
        have hok2 : ∀ y ∈ M2, 0 ≤ y.1.1 ∧ y.1.1 < 8 ∧ 0 ≤ y.1.2 ∧ y.1.2 < 4096 := fun y hy => by
          have h1 : (optM M2 y.1).isSome := (optM_mem M2 y.1).2 (List.mem_map.2 ⟨y, hy, rfl⟩)
          rw [hfin.out] at h1
          obtain ⟨z, hz, e⟩ := List.mem_map.1 ((optM_mem _ _).1 h1)
          have hz2 := (List.mem_filter.1 hz).1
          rw [hMe.out] at hz2
          rw [← e]
          exact eff_ok l HALL.out z hz2
        have hcan := Lib.hid (canonical_any w1.heap.size M2 wr hN2.out (Nat.le_trans (keys_len _ hk2 hok2) (by omega)) hok2)
        have HK2 := Lib.hid hk2
        clear hk2 hok2
        go_frame
        go_wp2_with fail
        refine hcan.out.mono ?_
        rintro e w5 ⟨A5, c5, rfl, r1, r2, r3, hb5⟩
        have HRR := Lib.hid (And.intro r1 (And.intro r2 r3))
        clear r1 r2 r3
        go_wp2
        go_ret2
        obtain ⟨r1, r2, r3⟩ := HRR.out
        have hse : sortedM M2 = sortedM (resM (effM l) v keep) := by
          rw [← hMe.out]; exact sortedM_ext HK2.out (resM_nodup hkeys.out v keep) hfin.out
        rw [restrictL, hea.out, HE.out, if_pos rfl]
        rw [hse] at r1 r3 ⊢
        have := hB.size
        exact ⟨A5, c5, rfl, r1, r2, r3.more (fun g h => h.mono (by omega) (Nat.le_refl _)), hB.trans (hb5.mono (by omega))⟩
  · have he1 : (ea != 0) = true := by simp [he]
    have HE := Lib.hid he; clear he
    go_enter Try.func22, Try.ntmps22
    go_wp2_with fail
    refine hca.out.mono ?_
    rintro e w1 ⟨rfl, hb1⟩
    go_wp2
    go_ret2
    rw [restrictL, hea.out, if_neg HE.out]
    exact ⟨none, 0, rfl, by simp, by simp, SlAt.nil_, hb1⟩
end Go.Proofs.Ytfahbhjlkdcnpaa

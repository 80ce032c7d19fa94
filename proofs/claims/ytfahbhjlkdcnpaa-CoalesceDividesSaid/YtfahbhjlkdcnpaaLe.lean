/-
  Two slices that a call owns side by side; the walk of the law CoalesceDivides.
-/
import Derived.Test.YtfahbhjlkdcnpaaLa
import Derived.Test.YtfahbhjlkdcnpaaUd
import Derived.Test.YtfahbhjlkdcnpaaVb
import Derived.Test.YtfahbhjlkdcnpaaLd
set_option linter.unusedVariables false
set_option linter.unusedSimpArgs false
set_option linter.unusedSectionVars false
set_option linter.unnecessarySimpa false
namespace Go.Proofs.Ytfahbhjlkdcnpaa
open Go.RowKit Go.ChangeMaps

/-- two owned slices, apart, whose elements' memory is neither's row -/
def Own2 {α : Type} (E : Enc α) (w : World) (lo : Nat) (e : TypeId) (v1 v2 : Value) (l1 l2 : List α) : Prop :=
  Own E w lo e (fun b => Nw lo w.heap.size b ∧ v1.ownBlock ≠ some b ∧ v2.ownBlock ≠ some b) v1 l1 ∧ Own E w lo e (fun b => Nw lo w.heap.size b ∧ v1.ownBlock ≠ some b ∧ v2.ownBlock ≠ some b) v2 l2 ∧ ∀ g, v1.ownBlock = some g → v2.ownBlock ≠ some g
section
variable {α : Type} {E : Enc α} {w w' : World} {lo : Nat} {e : TypeId} {v1 v2 v' : Value} {l1 l2 l' : List α}
theorem Own2.nil_ : Own2 E w lo e (.slice none 0 0) (.slice none 0 0) [] [] := ⟨Own.nil_, Own.nil_, fun _ h => by simp [Value.ownBlock] at h⟩
theorem Own2.swap (h : Own2 E w lo e v1 v2 l1 l2) : Own2 E w lo e v2 v1 l2 l1 := by
  obtain ⟨h1, h2, h3⟩ := h
  have hS : ∀ b, (Nw lo w.heap.size b ∧ v1.ownBlock ≠ some b ∧ v2.ownBlock ≠ some b) → (Nw lo w.heap.size b ∧ v2.ownBlock ≠ some b ∧ v1.ownBlock ≠ some b) := fun b h => ⟨h.1, h.2.2, h.2.1⟩
  exact ⟨h2.more hS (fun g hg h => h.2.1 hg), h1.more hS (fun g hg h => h.2.2 hg), fun g hg hg' => h3 g hg' hg⟩
theorem Own2.below (h : Own2 E w lo e v1 v2 l1 l2) (hb : Below w.heap.size w w') : Own2 E w' lo e v1 v2 l1 l2 := by
  obtain ⟨h1, h2, h3⟩ := h
  have hS : ∀ b, (Nw lo w.heap.size b ∧ v1.ownBlock ≠ some b ∧ v2.ownBlock ≠ some b) → (Nw lo w'.heap.size b ∧ v1.ownBlock ≠ some b ∧ v2.ownBlock ≠ some b) := fun b h => ⟨h.1.mono (Nat.le_refl _) hb.size, h.2⟩
  exact ⟨(Own.below h1 hb (fun _ h => h.1.2)).more hS (fun g hg h => h.2.1 hg), (Own.below h2 hb (fun _ h => h.1.2)).more hS (fun g hg h => h.2.2 hg), h3⟩
/-- behind an append to the first -/
theorem Own2.app (h : Own2 E w lo e v1 v2 l1 l2) (hn : Own E w' lo e (fun b => Nw lo w.heap.size b ∧ v1.ownBlock ≠ some b ∧ v2.ownBlock ≠ some b) v' l') (hg : w.grownBy w' v1.ownBlock) (hat : v'.ownBlock = v1.ownBlock ∨ v'.ownBlock = some w.heap.size) : Own2 E w' lo e v' v2 l' l2 := by
  obtain ⟨h1, h2, h3⟩ := h
  have h2lt := h2.lt
  have hne : ∀ b, (Nw lo w.heap.size b ∧ v1.ownBlock ≠ some b) → v'.ownBlock ≠ some b := fun b hb e => by
    rcases hat with hat | hat
    · exact hb.2 (by rw [← hat]; exact e)
    · rw [hat] at e
      injection e with e
      have := hb.1.2
      omega
  have hS : ∀ b, (Nw lo w.heap.size b ∧ v1.ownBlock ≠ some b ∧ v2.ownBlock ≠ some b) → (Nw lo w'.heap.size b ∧ v'.ownBlock ≠ some b ∧ v2.ownBlock ≠ some b) := fun b h => ⟨h.1.mono (Nat.le_refl _) hg.size, hne b ⟨h.1, h.2.1⟩, h.2.2⟩
  refine ⟨hn.more hS (fun g hg h => h.2.1 hg), (h2.blk (w' := w') (fun b hb => ?_)).more hS (fun g hg h => h.2.2 hg), fun g hg hg' => ?_⟩
  · rcases hb with hb | hb
    · exact hg.block b hb.1.2 (fun e => hb.2.1 e.symm)
    · exact hg.block b (h2lt b hb).2 (fun e => h3 b e.symm hb)
  · rcases hat with hat | hat
    · exact h3 g (by rw [← hat]; exact hg) hg'
    · rw [hat] at hg
      injection hg with hg
      have := (h2lt g hg').2
      omega
theorem Own2.parts1 {A : Option Addr} {n c : Nat} (h : Own2 E w lo e (.slice A n c) v2 l1 l2) : n = l1.length ∧ l1.length ≤ c ∧ c ≤ maxLen ∧ SlAt E w (Bl w.heap.size) A l1 := by
  obtain ⟨A', c', he, h1, h2, h3⟩ := Own.rd0 h.1 (fun _ h => h.1.2)
  simp only [List.cons.injEq, Value.slice.injEq, and_true] at he
  obtain ⟨rfl, rfl, rfl⟩ := he
  exact ⟨rfl, h1, h2, h3⟩
/-- what was made since B is in the set -/
theorem Own2.since {β : Type} {F : Enc β} {A : Option Addr} {m : List β} {B : Nat} (h : SlAt F w (Nw B w.heap.size) A m) (hlo : lo ≤ B) (h1 : ∀ g, v1.ownBlock = some g → g < B) (h2 : ∀ g, v2.ownBlock = some g → g < B) : SlAt F w (fun b => Nw lo w.heap.size b ∧ v1.ownBlock ≠ some b ∧ v2.ownBlock ≠ some b) A m :=
  h.more fun b hb => ⟨hb.mono hlo (Nat.le_refl _), fun e => by have := h1 b e; have := hb.1; omega, fun e => by have := h2 b e; have := hb.1; omega⟩
end
theorem complementX (A : Option Addr) (c n : Nat) (l r : List Ext) (hn : l.length = n) (hr : othersL l = r) (w : World) (h1 : SlAt encExt w (Bl w.heap.size) A l) (hla : n ≤ 100000) (hca : n ≤ c ∧ c ≤ maxLen) :
    Calls Try.prog 21 #[.slice A n c, .int .i64 4096] w fun e w' => ∃ A c, e = .returned (.slice A r.length c) ∧ (r.length ≤ c ∧ c ≤ maxLen ∧ SlAt encExt w' (Bl w'.heap.size) A r) ∧ Below w.heap.size w w' :=
  (complement_any A c n l r hn hr w h1 hla hca).mono fun _ _ ⟨A, c, h1, h2, h3, h4, h5⟩ => ⟨A, c, h1, ⟨h2, h3, h4.more (fun _ h => h.2)⟩, h5⟩
theorem interNo (A A' : Option Addr) (c c' n m : Nat) (a b : List Ext) (hn : a.length = n) (hm : b.length = m) (hr : opL and a b = []) (w : World) (h1 : SlAt encExt w (Bl w.heap.size) A a) (h2 : SlAt encExt w (Bl w.heap.size) A' b) (hla : n ≤ 100000) (hlb : m ≤ 100000) (hca : n ≤ c ∧ c ≤ maxLen) (hcb : m ≤ c' ∧ c' ≤ maxLen) :
    Calls Try.prog 23 #[.slice A n c, .slice A' m c'] w fun e w' => ∃ A c, e = .returned (.slice A 0 c) ∧ Below w.heap.size w w' :=
  (inter_any A A' c c' n m a b [] hn hm hr w h1 h2 hla hlb hca hcb).mono fun _ _ ⟨A, c, h1, _, _, _, h5⟩ => ⟨A, c, h1, h5⟩
theorem secs_len (l : List Wr) (v : Int) : (runsL (secsOf l v)).length ≤ 4096 := Nat.le_trans (runsL_bound 4096 (secsOf l v) (secsOf_mem l v)).2 (secsOf_len l v)
theorem sects_fold {l : List Wr} : sectsL (foldS l) ≤ 32768 := by
  have h2 : sectsL (foldS l) = (assoc l).length := canonL_sects _
  rw [h2, show (assoc l).length = (plOf l).length from by rw [← assoc_places, List.length_map]]
  exact plOf_len l
set_option maxHeartbeats 8000000 in
set_option maxRecDepth 100000 in
theorem divides_any (A A2 : Option Addr) (c c2 : Nat) (l : List Wr) (keep : List Ext) (w : World) (h1 : SlAt encWr w (Bl w.heap.size) A l) (k1 : l.length ≤ c) (k1' : c ≤ maxLen) (h2 : SlAt encExt w (Bl w.heap.size) A2 keep) (k2 : keep.length ≤ c2) (k2' : c2 ≤ maxLen) :
    Calls Try.prog 8 #[.slice A l.length c, .slice A2 keep.length c2] w (LawRet w) := by
  have H1 := Lib.hid h1; clear h1
  have H2 := Lib.hid h2; clear h2
  obtain ⟨q1, HQ1⟩ : ∃ q, Hid (fewL l = q) := ⟨_, Lib.hid rfl⟩
  have hl1 := max_len k1 k1'
  have hl2 := max_len k2 k2'
  go_enter Try.func8, Try.ntmps8
  go_wp2_with fail
  refine (fewX _ _ _ _ q1 HQ1.out H1.out hl1).mono ?_
  rintro e w' ⟨rfl, rfl⟩
  cases q1 with
  | false =>
    go_wp2_with fail
    refine (awake_any _).mono ?_
    rintro e w99 ⟨rfl, hb99⟩
    have hend : Below (w').heap.size w' w99 := (by repeat (first | exact Below.refl _ _ | assumption | refine ext_alloc ?_ | refine ext_drew ?_ | refine ext_trans ?_ (by assumption)))
    go_wp2
    go_ret
    exact ⟨rfl, hend⟩
  | true =>
    by_cases ck : 20 < keep.length
    · have ck' : decide ((20 : Int) < keep.length) = true := decide_eq_true (by omega)
      go_wp2_with fail
      refine (awake_any _).mono ?_
      rintro e w99 ⟨rfl, hb99⟩
      have hend : Below (w').heap.size w' w99 := (by repeat (first | exact Below.refl _ _ | assumption | refine ext_alloc ?_ | refine ext_drew ?_ | refine ext_trans ?_ (by assumption)))
      go_wp2
      go_ret
      exact ⟨rfl, hend⟩
    · have ck' : decide ((20 : Int) < keep.length) = false := decide_eq_false (by omega)
      have hlf := few_len HQ1.out
      obtain ⟨f, hf⟩ : ∃ r, Hid (foldL l = r) := ⟨_, Lib.hid rfl⟩
      obtain ⟨en, hen⟩ : ∃ en, Hid (errOf placedN l = en) := ⟨_, Lib.hid rfl⟩
      have hF := Lib.hid (fold_any A c l w' H1.out hl1)
      rw [hf.out, hen.out] at hF
      go_wp2_with fail
      refine (hF.out.mono fun _ _ h => h.bl).mono ?_
      rintro e w1 ⟨A3, c3, rfl, hs1, hb1⟩
      have HS1 := Lib.hid hs1; clear hs1 hF
      by_cases g1 : en = 0
      · have g1' : (en != 0) = false := by simp [g1]
        have G1 := Lib.hid g1; clear g1
        have HP : Hid (∀ x ∈ l, placedN x = 0) := errOf_conv2 (hen.out.trans G1.out)
        have HF : Hid (f = foldS l) := by rw [Hid, ← hf.out, foldL, hen.out, if_pos G1.out]
        have HCF : Hid (chkN placedN f = 0) := by rw [Hid, HF.out]; exact chk_fold l
        have hfl : f.length ≤ 32768 := by rw [HF.out]; exact foldS_len _
        obtain ⟨ot, hot⟩ : ∃ ot, Hid (othersL keep = ot) := ⟨_, Lib.hid rfl⟩
        have hol : ot.length ≤ 4096 := by rw [← hot.out]; exact (opL_bound _ _ _).2
        go_wp2_with fail
        refine (complementX A2 c2 _ keep ot rfl hot.out w1 (H2.out.fwd hb1) (by omega) ⟨k2, k2'⟩).mono ?_
        rintro e w2 ⟨A4, c4, rfl, hs2, hb2⟩
        have HS2 := Lib.hid hs2; clear hs2
        have hB2 : Below w'.heap.size w' w2 := ext_trans hb1 hb2
        have HKP : Hid (∀ w', Below w2.heap.size w2 w' → SlAt encExt w' (Bl w'.heap.size) A2 keep) := fun w' hb => H2.out.fwd (ext_trans hB2 hb)
        have HOT : Hid (∀ w', Below w2.heap.size w2 w' → SlAt encExt w' (Bl w'.heap.size) A4 ot) := fun w' hb => HS2.out.2.2.fwd hb
        have HFF : Hid (∀ w', Below w2.heap.size w2 w' → SlAt encWr w' (Bl w'.heap.size) A3 f) := fun w' hb => HS1.out.2.2.fwd (ext_trans hb2 hb)
        go_wp2_with fail
        go_loopw [7, 8, 36] (fun v1 v2 i wr => ∃ (k : Nat) (B1 B2 : Option Addr) (d1 d2 : Nat) (m1 m2 : List Wr), k ≤ 8 ∧ i = .int .i64 k ∧ v1 = .slice B1 m1.length d1 ∧ v2 = .slice B2 m2.length d2 ∧ Below w2.heap.size w2 wr ∧ Hid (m1 = canonL (insideE f keep k)) ∧ Hid (m2 = canonL (insideE f ot k)) ∧ Hid (Own2 encWr wr w2.heap.size 35 (.slice B1 m1.length d1) (.slice B2 m2.length d2) m1 m2)) (fun _ _ i _ => 8 - (intOf i).toNat)
        case atStart => exact ⟨0, none, none, 0, 0, [], [], by omega, rfl, rfl, rfl, Below.refl _ _, rfl, rfl, Own2.nil_⟩
        case round =>
          obtain ⟨k, B1, B2, d1, d2, m1, m2, hk, rfl, rfl, rfl, hB, hm1, hm2, hown⟩ := hrel
          have hml1 : m1.length ≤ 32768 := by rw [hm1.out]; have := inside_len f keep k; omega
          have hml2 : m2.length ≤ 32768 := by rw [hm2.out]; have := inside_len f ot k; omega
          by_cases hlt : k < 8
          · have hnn : (0 : Int) ≤ k := by omega
            have hki : (k : Int) < 8 := by omega
            obtain ⟨ra, hra⟩ : ∃ r, Hid (r = resS f keep k) := ⟨_, Lib.hid rfl⟩
            obtain ⟨rb, hrb⟩ : ∃ r, Hid (r = resS f ot k) := ⟨_, Lib.hid rfl⟩
            have hla : ra.length ≤ 4096 := by rw [hra.out]; exact resS_len _ _ _
            have hlb : rb.length ≤ 4096 := by rw [hrb.out]; exact resS_len _ _ _
            have ha1 : Hid (restrictL f k keep = ra) := by rw [Hid, hra.out]; exact restrictL_res HCF.out _ _
            have hb1' : Hid (restrictL f k ot = rb) := by rw [Hid, hrb.out]; exact restrictL_res HCF.out _ _
            have hm1s : Hid (m1 ++ ra = canonL (insideE f keep (k + 1))) := by rw [Hid, inside_snoc, hm1.out, hra.out]
            have hm2s : Hid (m2 ++ rb = canonL (insideE f ot (k + 1))) := by rw [Hid, inside_snoc, hm2.out, hrb.out]
            have hkv : I64 (k : Int) := by unfold I64; omega
            have HKV := Lib.hid hkv; clear hkv
            go_wp2_with fail
            refine (restrictX A3 A2 c3 c2 _ _ f k keep ra rfl rfl ha1.out HCF.out wr (HFF.out wr hB) (HKP.out wr hB) (by omega) hl2).mono ?_
            rintro e w3 ⟨A5, c5, rfl, p1, p2, p3, hb3⟩
            have P3 := Lib.hid p3; clear p3
            have hB3 : Below w2.heap.size w2 w3 := ext_trans hB hb3
            go_wp2_with fail
            refine (restrictX A3 A4 c3 c4 _ _ f k ot rb rfl rfl hb1'.out HCF.out w3 (HFF.out w3 hB3) (HOT.out w3 hB3) (by omega) (by omega)).mono ?_
            rintro e w4 ⟨A6, c6, rfl, q1, q2, q3, hb4⟩
            have Q3 := Lib.hid q3; clear q3
            have hB4 : Below w2.heap.size w2 w4 := ext_trans hB3 hb4
            obtain ⟨ea, hea⟩ : ∃ r, Hid (runsL (secsOf ra k) = r) := ⟨_, Lib.hid rfl⟩
            obtain ⟨eb, heb⟩ : ∃ r, Hid (runsL (secsOf rb k) = r) := ⟨_, Lib.hid rfl⟩
            have hle1 : ea.length ≤ 4096 := by rw [← hea.out]; exact secs_len _ _
            have hle2 : eb.length ≤ 4096 := by rw [← heb.out]; exact secs_len _ _
            have hap : Hid (opL and ea eb = []) := by rw [Hid, ← hea.out, ← heb.out, hra.out, hrb.out, ← hot.out]; exact divides_apart f keep k
            go_wp2_with fail
            refine (extentsX A5 c5 _ ra k ea rfl hea.out w4 ((P3.out.more (fun _ h => h.2) : SlAt encWr w3 (Bl w3.heap.size) A5 ra).fwd hb4) (by omega) HKV.out).mono ?_
            rintro e w5 ⟨A7, c7, rfl, hs5, hb5⟩
            have HS5 := Lib.hid hs5; clear hs5
            have hB5 : Below w2.heap.size w2 w5 := ext_trans hB4 hb5
            go_wp2_with fail
            refine (extentsX A6 c6 _ rb k eb rfl heb.out w5 ((Q3.out.more (fun _ h => h.2) : SlAt encWr w4 (Bl w4.heap.size) A6 rb).fwd hb5) (by omega) HKV.out).mono ?_
            rintro e w6 ⟨A8, c8, rfl, hs6, hb6⟩
            have HS6 := Lib.hid hs6; clear hs6
            have hB6 : Below w2.heap.size w2 w6 := ext_trans hB5 hb6
            go_wp2_with fail
            refine (interNo A7 A8 c7 c8 _ _ ea eb rfl rfl hap.out w6 (HS5.out.2.2.fwd hb6) HS6.out.2.2 (by omega) (by omega) ⟨HS5.out.1, HS5.out.2.1⟩ ⟨HS6.out.1, HS6.out.2.1⟩).mono ?_
            rintro e w7 ⟨A9, c9, rfl, hb7⟩
            have hB7 : Below w2.heap.size w2 w7 := ext_trans hB6 hb7
            have hw47 : Below w4.heap.size w4 w7 := ext_trans (ext_trans hb5 hb6) hb7
            have hwr7 : Below wr.heap.size wr w7 := ext_trans (ext_trans hb3 hb4) hw47
            have HO7 := Lib.hid (hown.out.below hwr7)
            have hz1 := hb3.size
            have hz2 := hb4.size
            have hz3 := hw47.size
            have hz0 := hB.size
            have hlo1 : ∀ g, (Value.slice B1 m1.length d1).ownBlock = some g → g < wr.heap.size := fun g hg => (hown.out.1.lt g hg).2
            have hlo2 : ∀ g, (Value.slice B2 m2.length d2).ownBlock = some g → g < wr.heap.size := fun g hg => (hown.out.2.1.lt g hg).2
            have HSA : Hid (SlAt encWr w7 (fun b => Nw w2.heap.size w7.heap.size b ∧ (Value.slice B1 m1.length d1).ownBlock ≠ some b ∧ (Value.slice B2 m2.length d2).ownBlock ≠ some b) A5 ra) :=
              Own2.since (B := wr.heap.size) (((P3.out.blk (fun b hb => (ext_trans hb4 hw47).block b hb.2)).more (fun b hb => hb.mono (Nat.le_refl _) (by omega)))) hz0 hlo1 hlo2
            have hsb : SlAt encWr w7 (Nw w3.heap.size w7.heap.size) A6 rb := (Q3.out.blk (fun b hb => hw47.block b hb.2)).more (fun b hb => hb.mono (Nat.le_refl _) hz3)
            have HSB := Lib.hid hsb; clear hsb
            have HLO1 := Lib.hid hlo1; have HLO2 := Lib.hid hlo2; clear hlo1 hlo2
            go_wp2_with (at_builtin; refine Hid.out ?_)
            change wpList _ _ _ _ _ _
            refine wpList_appAll (E := encWr) tyWrs rfl _ _ rfl rfl HO7.out.1 rfl rfl HSA.out (fun _ h => h.1.2) (by omega) (by unfold maxLen; omega) (by omega) ?_
            intro B1' d1' w8 hown8 hg8 hat8
            have HO8 := Lib.hid (HO7.out.app hown8 hg8 hat8)
            have hz8 := hg8.size
            have HSB8 : Hid (SlAt encWr w8 (fun b => Nw w2.heap.size w8.heap.size b ∧ (Value.slice B2 m2.length d2).ownBlock ≠ some b ∧ (Value.slice B1' (m1.length + ra.length) d1').ownBlock ≠ some b) A6 rb) := by
              have h8 : SlAt encWr w8 (Nw w3.heap.size w7.heap.size) A6 rb := HSB.out.blk (fun b hb => hg8.block b hb.2 (fun e => by have := HLO1.out b e.symm; have := hb.1; omega))
              refine h8.more (fun b hb => ⟨hb.mono (by omega) hz8, fun e => by have := HLO2.out b e; have := hb.1; omega, fun e => ?_⟩)
              rcases hat8 with hat8 | hat8
              · rw [hat8] at e
                have := HLO1.out b e; have := hb.1; omega
              · rw [hat8] at e
                injection e with e
                have := hb.2; omega
            have hB8 : Below w2.heap.size w2 w8 := hB7.grown hg8 (by omega) (fun g hg => (HO7.out.1.lt g hg).1)
            clear hown8 hg8 hat8
            go_wp2_with (at_builtin; refine Hid.out ?_)
            change wpList _ _ _ _ _ _
            refine wpList_appAll (E := encWr) tyWrs rfl _ _ rfl rfl HO8.out.swap.1 rfl rfl HSB8.out (fun _ h => h.1.2) (by omega) (by unfold maxLen; omega) (by omega) ?_
            intro B2' d2' w9 hown9 hg9 hat9
            have HO9 := Lib.hid (HO8.out.swap.app hown9 hg9 hat9).swap
            have hB9 : Below w2.heap.size w2 w9 := hB8.grown hg9 (by omega) (fun g hg => (HO8.out.2.1.lt g hg).1)
            clear hown9 hg9 hat9
            go_wp2_with fail
            go_roundw
            case rel => exact ⟨k + 1, B1', B2', d1', d2', m1 ++ ra, m2 ++ rb, hlt, by go_num, by simp, by simp, hB9, hm1s.out, hm2s.out, by have := HO9.out; simpa [Hid] using this⟩
            case measure => simp [intOf]; omega
          · have hkk : k = 8 := by omega
            subst hkk
            have hki : ¬ (((8 : Nat) : Int) < 8) := by omega
            obtain ⟨_, p1, p2, p3⟩ := hown.out.parts1
            obtain ⟨_, q1, q2, q3⟩ := hown.out.swap.parts1
            have P3 := Lib.hid p3; have Q3 := Lib.hid q3; clear p3 q3
            have hmg : Hid (mergeErr m1 m2 = 0 ∧ mergeL m1 m2 = f) := by rw [Hid, hm1.out, hm2.out, ← hot.out]; exact divides_merge keep HF.out HP.out
            obtain ⟨t1, ht1⟩ : ∃ t, Hid (sectsL m1 = t) := ⟨_, Lib.hid rfl⟩
            obtain ⟨t2, ht2⟩ : ∃ t, Hid (sectsL m2 = t) := ⟨_, Lib.hid rfl⟩
            have hsum : Hid (sectsL f = t1 + t2) := by
              have h2 := divides_sects keep HF.out HP.out
              rw [hot.out, ← hm1.out, ← hm2.out, ht1.out, ht2.out] at h2
              exact h2.symm
            have hbd : t1 + t2 ≤ 32768 := by rw [← hsum.out, HF.out]; exact sects_fold
            have ee : ((t1 + t2 : Nat) : Int) = (t1 : Int) + (t2 : Int) := by omega
            go_wp2_with fail
            refine (mergeY B1 B2 d1 d2 _ _ m1 m2 f rfl rfl hmg.out.2 hmg.out.1 wr P3.out Q3.out ⟨p1, p2⟩ ⟨q1, q2⟩ ⟨hml1, hml2⟩).mono ?_
            rintro e w3 ⟨A5, c5, rfl, hs3, hb3⟩
            have HS3 := Lib.hid hs3; clear hs3
            have hB3 : Below w2.heap.size w2 w3 := ext_trans hB hb3
            go_wp2_with fail
            refine (sameX A5 A3 c5 c3 _ _ f f rfl rfl w3 HS3.out.2.2 (HFF.out w3 hB3) (by omega) (by omega) rfl).mono ?_
            rintro e w4 ⟨rfl, hb4⟩
            have hB4 : Below w2.heap.size w2 w4 := ext_trans hB3 hb4
            go_wp2_with fail
            refine (sectorsX B1 d1 _ t1 m1 w4 rfl ht1.out (P3.out.fwd (ext_trans hb3 hb4)) (by omega) (by omega)).mono ?_
            rintro e w5 ⟨rfl, hb5⟩
            go_wp2_with fail
            refine (sectorsX B2 d2 _ t2 m2 w5 rfl ht2.out (Q3.out.fwd (ext_trans (ext_trans hb3 hb4) hb5)) (by omega) (by omega)).mono ?_
            rintro e w6 ⟨rfl, hb6⟩
            have hB6 : Below w2.heap.size w2 w6 := ext_trans (ext_trans hB4 hb5) hb6
            go_wp2_with fail
            refine (sectorsX A3 c3 _ (t1 + t2) f w6 rfl hsum.out (HFF.out w6 hB6) (by omega) (by omega)).mono ?_
            rintro e w7 ⟨rfl, hb7⟩
            have hB7 : Below w2.heap.size w2 w7 := ext_trans hB6 hb7
            rw [ee]
            go_wp2_with fail
            refine (awake_any _).mono ?_
            rintro e w8 ⟨rfl, hb8⟩
            have hend : Below w'.heap.size w' w8 := ext_trans hB2 (ext_trans hB7 hb8)
            go_wp2
            go_ret
            exact ⟨rfl, hend⟩
      · have g1' : (en != 0) = true := by simp [g1]
        have G1 := Lib.hid g1; clear g1
        go_wp2_with fail
        refine (awake_any _).mono ?_
        rintro e w99 ⟨rfl, hb99⟩
        have hend : Below (w').heap.size w' w99 := (by repeat (first | exact Below.refl _ _ | assumption | refine ext_alloc ?_ | refine ext_drew ?_ | refine ext_trans ?_ (by assumption)))
        go_wp2
        go_ret
        exact ⟨rfl, hend⟩
end Go.Proofs.Ytfahbhjlkdcnpaa

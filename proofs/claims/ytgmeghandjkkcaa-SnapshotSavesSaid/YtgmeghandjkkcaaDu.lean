/-
  Plain words: without deleting and reverting the cost is what is counted: each sector once between two items. No program in sight.
-/
import Derived.Test.YtgmeghandjkkcaaDb
import Derived.Test.YtgmeghandjkkcaaVb
set_option linter.unusedVariables false
set_option linter.unusedSimpArgs false
set_option linter.unusedSectionVars false
set_option linter.unnecessarySimpa false
namespace Go.Proofs.Ytgmeghandjkkcaa

def lastW (l : List Snp) : List Wr := (l.getLast?.map (·.2.2)).getD []
def costL (l : List Snp) : Nat := (l.map fun x => sectsL x.2.2).sum
def seeS (seen : List Pl) (p : Pl) : List Pl := if p ∈ seen then seen else seen ++ [p]
/-- the first places of a write join those that were seen -/
def seeTo (seen : List Pl) (x : Wr) : Nat → List Pl
  | 0 => seen
  | k + 1 => seeS (seeTo seen x k) (x.1, x.2.1 + (k : Int))
structure SvI (l : List Snp) (seen : List Pl) (total : Nat) : Prop where
  nd : seen.Nodup
  mem : ∀ p : Pl, p ∈ seen ↔ (look (lastW l) p.1 p.2).isSome = true
  len : sectsL (lastW l) = seen.length
  tot : total = costL l
theorem seeS_nodup {seen : List Pl} (h : seen.Nodup) (p : Pl) : (seeS seen p).Nodup := by
  unfold seeS
  by_cases hp : p ∈ seen
  · rw [if_pos hp]; exact h
  · rw [if_neg hp, List.nodup_append]
    refine ⟨h, by simp, fun a ha b hb => ?_⟩
    rw [List.mem_singleton.1 hb]
    exact fun e => hp (e ▸ ha)
theorem mem_seeS {seen : List Pl} {p q : Pl} : q ∈ seeS seen p ↔ q ∈ seen ∨ q = p := by
  unfold seeS
  by_cases hp : p ∈ seen
  · rw [if_pos hp]
    exact ⟨Or.inl, fun h => h.elim id (fun e => e ▸ hp)⟩
  · rw [if_neg hp]; simp
theorem seeTo_nodup {seen : List Pl} (h : seen.Nodup) (x : Wr) : ∀ k, (seeTo seen x k).Nodup
  | 0 => h
  | k + 1 => seeS_nodup (seeTo_nodup h x k) _
theorem mem_seeTo {seen : List Pl} {x : Wr} {q : Pl} : ∀ {k : Nat}, q ∈ seeTo seen x k ↔ q ∈ seen ∨ ∃ j : Nat, j < k ∧ q = (x.1, x.2.1 + (j : Int))
  | 0 => by simp [seeTo]
  | k + 1 => by
    show q ∈ seeS (seeTo seen x k) _ ↔ _
    rw [mem_seeS, mem_seeTo]
    constructor
    · rintro ((h | ⟨j, h1, h2⟩) | h)
      · exact Or.inl h
      · exact Or.inr ⟨j, by omega, h2⟩
      · exact Or.inr ⟨k, by omega, h⟩
    · rintro (h | ⟨j, h1, h2⟩)
      · exact Or.inl (Or.inl h)
      · by_cases e : j = k
        · subst e; exact Or.inr h2
        · exact Or.inl (Or.inr ⟨j, by omega, h2⟩)
theorem mem_seeAll {seen : List Pl} {x : Wr} {q : Pl} : q ∈ seeTo seen x x.2.2.length ↔ q ∈ seen ∨ hits x q.1 q.2 := by
  rw [mem_seeTo]
  unfold hits
  constructor
  · rintro (h | ⟨j, h1, rfl⟩)
    · exact Or.inl h
    · exact Or.inr ⟨rfl, by simp only; omega, by simp only; omega⟩
  · rintro (h | ⟨h1, h2, h3⟩)
    · exact Or.inl h
    · refine Or.inr ⟨(q.2 - x.2.1).toNat, by omega, ?_⟩
      obtain ⟨a, b⟩ := q
      simp only at h1 h2 h3 ⊢
      rw [h1, Prod.mk.injEq]
      exact ⟨rfl, by omega⟩
theorem plOf_nodup (l : List Wr) : (plOf l).Nodup := (plOf_sorted l).imp (fun {x y} h e => by subst e; unfold plLt at h; omega)
theorem sects_seen {q : List Wr} (hq : ∀ x ∈ q, placedN x = 0) {seen : List Pl} (hn : seen.Nodup) (hm : ∀ p : Pl, p ∈ seen ↔ (look q p.1 p.2).isSome = true) : sectsL (foldL q) = seen.length := by
  rw [foldL_ok hq]
  have h1 : sectsL (foldS q) = (assoc q).length := canonL_sects _
  have h2 : (assoc q).length = (plOf q).length := by rw [← assoc_places, List.length_map]
  rw [h1, h2]
  refine ((List.perm_ext_iff_of_nodup (plOf_nodup q) hn).2 fun p => ?_).length_eq
  rw [hm, plOf_iff]
  constructor
  · exact fun h => h.2.2.2.2
  · intro h
    have := look_range hq h
    exact ⟨this.1, this.2.1, this.2.2.1, this.2.2.2, h⟩
theorem costL_snoc (r : List Snp) (x : Snp) : costL (r ++ [x]) = costL r + sectsL x.2.2 := by simp [costL]
theorem lastW_snoc (r : List Snp) (x : Snp) : lastW (r ++ [x]) = x.2.2 := by unfold lastW; rw [List.getLast?_concat]; rfl
theorem SvI.nil : SvI [] [] 0 := ⟨by simp, fun p => by simp [lastW, look_nil], rfl, rfl⟩
theorem SvI.take {l : List Snp} {seen : List Pl} {t : Nat} (h : SvI l seen t) (a b : Int) : SvI (l ++ [(a, b, [])]) [] t :=
  ⟨by simp, fun p => by rw [lastW_snoc]; simp [look_nil], by rw [lastW_snoc]; rfl, by rw [costL_snoc, h.tot]; rfl⟩
theorem SvI.apply {k : Nat} {im : Img} {l : List Snp} {all : List Kpt} {seen : List Pl} {t : Nat} {x : Wr} (h : SvI l seen t) (hinv : RInv k im l all) (hx : fitsN [5, 3] x = 0) (hl : l ≠ []) {t' : Nat} (ht : t' + seen.length = t + (seeTo seen x x.2.2.length).length) :
    SvI (setLast l fun d => foldL (contL im [x] ++ d)) (seeTo seen x x.2.2.length) t' := by
  obtain ⟨hz, hlen, hok⟩ := snE_iff.1 hinv.ok
  have hfi := hinv.fits
  have hf : ∀ y ∈ [x], fitsN (lens im) y = 0 := fun y hy => by rw [List.mem_singleton.1 hy, hinv.lens]; exact hx
  rcases List.eq_nil_or_concat l with rfl | ⟨r, y, rfl⟩
  · exact absurd rfl hl
  · rw [List.concat_eq_append] at h hfi ⊢
    rw [setLast_snoc]
    have hy : ∀ z ∈ y.2.2, fitsN (lens im) z = 0 := hfi y (by simp)
    have hall : ∀ z ∈ contL im [x] ++ y.2.2, fitsN (lens im) z = 0 := fun z hz' => (List.mem_append.1 hz').elim (contL_fits hf z) (hy z)
    have hp : ∀ z ∈ contL im [x] ++ y.2.2, placedN z = 0 := fun z hz' => fits_placed1 hz (hall z hz')
    have hm := h.mem
    rw [lastW_snoc] at hm
    have hmem : ∀ p : Pl, p ∈ seeTo seen x x.2.2.length ↔ (look (contL im [x] ++ y.2.2) p.1 p.2).isSome = true := fun p => by
      rw [mem_seeAll, hm, look_append]
      have e : look (contL im [x]) p.1 p.2 = if hits x p.1 p.2 then some (datum (contW im x) p.2) else none := by
        show look [contW im x] p.1 p.2 = _
        have : look [contW im x] p.1 p.2 = if hits (contW im x) p.1 p.2 then some (datum (contW im x) p.2) else none := by simp [look]
        rw [this]
        by_cases hh : hits x p.1 p.2
        · rw [if_pos hh, if_pos ((contW_hits (hf x (by simp)) p.1 p.2).2 hh)]
        · rw [if_neg hh, if_neg (fun e => hh ((contW_hits (hf x (by simp)) p.1 p.2).1 e))]
      rw [e]
      by_cases hh : hits x p.1 p.2
      · rw [if_pos hh]
        cases look y.2.2 p.1 p.2 <;> simp [hh]
      · rw [if_neg hh]
        cases look y.2.2 p.1 p.2 <;> simp [hh]
    have hlk : ∀ v i : Int, look (foldL (contL im [x] ++ y.2.2)) v i = look (contL im [x] ++ y.2.2) v i := fun v i => by rw [foldL_ok hp, look_fold hp]
    have hsl := sects_seen hp (seeTo_nodup h.nd x _) hmem
    refine ⟨seeTo_nodup h.nd x _, fun p => ?_, ?_, ?_⟩
    · rw [lastW_snoc]
      simp only [hlk]
      exact hmem p
    · rw [lastW_snoc]; exact hsl
    · rw [costL_snoc]
      have h1 := h.tot
      have h2 := h.len
      rw [costL_snoc] at h1
      rw [lastW_snoc] at h2
      show t' = costL r + sectsL (foldL (contL im [x] ++ y.2.2))
      rw [hsl]
      omega
end Go.Proofs.Ytgmeghandjkkcaa

/-
  Numbers as decimal text: the document's Show: the plain law, rows that are written in place.
-/
import Derived.Test.YteaapekkoahilaaDoorNumR
import Derived.Lib.ItoaLen
namespace Go.Proofs.YteaapekkoahilaaDoor.Nu
open Go.RowKit Go.Proofs.YteaapekkoahilaaDoor.B Go.Proofs.YteaapekkoahilaaDoor.S01
set_option linter.unusedVariables false
set_option linter.unusedSimpArgs false

/-- The digits, the last ahead. -/
def rd (u : Nat) : List UInt8 := if h : u = 0 then [] else UInt8.ofNat (48 + u % 10) :: rd (u / 10)
termination_by u
decreasing_by omega
theorem rd_zero : rd 0 = [] := by rw [rd]; rfl
theorem rd_pos {u : Nat} (h : u ≠ 0) : rd u = UInt8.ofNat (48 + u % 10) :: rd (u / 10) := by rw [rd, dif_neg h]
theorem rd_digits : ∀ (k u : Nat), u ≤ k → 1 ≤ u → (rd u).reverse = Lib.decDigits u
  | 0, u, h, h1 => by omega
  | k + 1, u, h, h1 => by
    rw [rd_pos (by omega), List.reverse_cons]
    by_cases hu : u < 10
    · have e : u / 10 = 0 := by omega
      rw [e, rd_zero, Lib.decDigits_one hu, show u % 10 = u by omega]
      rfl
    · rw [rd_digits k (u / 10) (by omega) (by omega)]
      conv => rhs; rw [Lib.decDigits, dif_neg hu]
theorem rd_len {u : Nat} (h : u ≤ 9223372036854775808) : (rd u).length ≤ 21 := by
  rcases Nat.eq_zero_or_pos u with h0 | h0
  · subst h0; rw [rd_zero]; simp
  · have e := congrArg List.length (rd_digits u u (Nat.le_refl _) h0)
    rw [List.length_reverse] at e
    rw [e]
    have := Lib.itoa_length_le (-(u : Int)) (by omega) (by omega)
    rw [Lib.itoa_neg u h0] at this
    simp at this
    omega
/-- i places from both ends have been swapped. -/
def swp (L : List UInt8) (i : Nat) : List UInt8 := (List.range L.length).map fun j => if j < i ∨ L.length - i ≤ j then L.getD (L.length - 1 - j) 0 else L.getD j 0
theorem swp_len (L : List UInt8) (i : Nat) : (swp L i).length = L.length := by simp [swp]
theorem swp_get (L : List UInt8) (i j : Nat) (hj : j < L.length) : (swp L i)[j]? = some (if j < i ∨ L.length - i ≤ j then L.getD (L.length - 1 - j) 0 else L.getD j 0) := by
  simp [swp, hj]
theorem swp_zero (L : List UInt8) : swp L 0 = L := by
  apply List.ext_getElem?
  intro j
  by_cases hj : j < L.length
  · rw [swp_get L 0 j hj, if_neg (by omega), List.getD_eq_getElem?_getD, List.getElem?_eq_getElem hj]; rfl
  · rw [List.getElem?_eq_none (by rw [swp_len]; omega), List.getElem?_eq_none (by omega)]
theorem swp_end (L : List UInt8) : swp L (L.length / 2) = L.reverse := by
  apply List.ext_getElem?
  intro j
  by_cases hj : j < L.length
  · rw [swp_get L _ j hj, List.getElem?_reverse hj, List.getElem?_eq_getElem (by omega)]
    congr 1
    split
    · rw [List.getD_eq_getElem?_getD, List.getElem?_eq_getElem (by omega)]; rfl
    · rw [List.getD_eq_getElem?_getD, List.getElem?_eq_getElem hj]
      simp only [Option.getD_some]
      congr 1; omega
  · rw [List.getElem?_eq_none (by rw [swp_len]; omega), List.getElem?_eq_none (by simp; omega)]
theorem swp_step (L : List UInt8) (i : Nat) (h : i < L.length / 2) : ((swp L i).set i (L.getD (L.length - 1 - i) 0)).set (L.length - 1 - i) (L.getD i 0) = swp L (i + 1) := by
  apply List.ext_getElem?
  intro j
  by_cases hj : j < L.length
  · rw [swp_get L (i + 1) j hj, List.getElem?_set, List.getElem?_set, List.length_set, swp_len]
    by_cases h1 : L.length - 1 - i = j
    · subst h1
      rw [if_pos rfl, if_pos (by omega), if_pos (.inr (by omega))]
      congr 2; omega
    · rw [if_neg h1]
      by_cases h2 : i = j
      · subst h2
        rw [if_pos rfl, if_pos (by omega), if_pos (.inl (by omega))]
      · rw [if_neg h2, swp_get L i j hj]
        congr 1
        by_cases h3 : j < i ∨ L.length - i ≤ j
        · rw [if_pos h3, if_pos (by omega)]
        · rw [if_neg h3, if_neg (by omega)]
  · rw [List.getElem?_eq_none (by simp [swp_len]; omega), List.getElem?_eq_none (by rw [swp_len]; omega)]
theorem own_set {w : World} {base g n cap : Nat} {l : List UInt8} (h : BOwn w base (.slice (some ⟨g, 0, none⟩) n cap) l) (hn : l.length = n) (i : Nat) (hi : i < n) (b : UInt8) :
    BOwn (w.setCell ⟨g, i, none⟩ (vb b)) base (.slice (some ⟨g, 0, none⟩) n cap) (l.set i b) ∧ (∃ v, w.cell? ⟨g, i, none⟩ = some v) ∧ w.frozen? ⟨g, i, none⟩ = false ∧ w.cell? ⟨g, i, none⟩ = some (.int .u8 (by' l i)) ∧ base ≤ g := by
  obtain ⟨h1, h2⟩ := h
  rcases h2 with ⟨h', _⟩ | ⟨g', cap', cur, h', hb, hg, hnc, hcm, hcs, htake⟩
  · simp at h'
  · simp only [Value.slice.injEq, Option.some.injEq, Addr.mk.injEq, and_true, true_and] at h'
    obtain ⟨rfl, _, rfl⟩ := h'
    have hsz : i < cur.size := by rw [hcs]; omega
    have hc : w.cell? ⟨g, i, none⟩ = some (.int .u8 (by' l i)) := by
      rw [cell_of_row w g i cur _ (0, 0) hg]
      have e := congrArg (fun l : List Value => l[i]?) htake
      simp only [List.getElem?_take, List.getElem?_map] at e
      rw [if_pos (by omega)] at e
      rw [← Array.getElem?_toList, e]
      simp [by', vb, List.getElem?_eq_getElem (show i < l.length by omega), List.getD_eq_getElem?_getD]
    refine ⟨⟨by simp, .inr ⟨g, cap, cur.setIfInBounds i (vb b), by rw [List.length_set, hn], hb, heap_setCell_same w g i cur _ _ hg, by simpa using hnc, hcm, by simpa using hcs, ?_⟩⟩, ⟨_, hc⟩, frozen_of_row w g i cur _ hg, hc, hb⟩
    rw [Array.toList_setIfInBounds, List.length_set, List.take_set, htake, List.map_set]
end Go.Proofs.YteaapekkoahilaaDoor.Nu

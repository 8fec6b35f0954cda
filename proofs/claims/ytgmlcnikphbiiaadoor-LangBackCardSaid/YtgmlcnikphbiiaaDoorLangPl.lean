/-
  A relation as a line: told by its references.
-/
import Derived.Test.YtgmlcnikphbiiaaDoorLangPk
namespace Go.Proofs.YtgmlcnikphbiiaaDoor.L
open Go.RowKit Go.Proofs.YtgmlcnikphbiiaaDoor.B Go.Proofs.YtgmlcnikphbiiaaDoor.S10 Go.Proofs.YtgmlcnikphbiiaaDoor.Nm
open Go.Proofs.YtgmlcnikphbiiaaDoor.C (QRow Turn wpList_append_q)
set_option linter.unusedVariables false
set_option linter.unusedSimpArgs false

theorem refsT_join : ∀ (xs : List Rf), refsT xs = Lib.join (xs.map refT) [32, 124, 32]
  | [] => rfl
  | [x] => by rw [List.map_cons, List.map_nil, Lib.join_one]; rfl
  | x :: y :: l => by
    have := refsT_join (y :: l)
    show refT x ++ ([32, 124, 32] ++ refsT (y :: l)) = _
    rw [this]
    simp [Lib.join, List.intercalate]
theorem refsT_len : ∀ (xs : List Rf), xs.all mayF = true → (refsT xs).length ≤ 36 * xs.length
  | [], _ => by simp [refsT]
  | [x], h => by
    simp only [List.all_cons, List.all_nil, Bool.and_true] at h
    have := (refT_len h).2.2
    show (refT x).length ≤ _
    simp; omega
  | x :: y :: l, h => by
    rw [List.all_cons, Bool.and_eq_true] at h
    have h1 := (refT_len h.1).2.2
    have h2 := refsT_len (y :: l) h.2
    show (refT x ++ ([32, 124, 32] ++ refsT (y :: l))).length ≤ _
    simp at h2 ⊢
    omega
set_option maxRecDepth 100000 in
set_option maxHeartbeats 1000000 in
/-- Join over the texts. -/
theorem join_calls {wr : World} {xs : List Rf} {A : Option Addr} {c : Nat} (hx : xs ≠ []) (hm : xs.all mayF = true) (hn : xs.length ≤ 100000) (h : QRow wr 9 1 (.slice A xs.length c) xs.length (strsT xs xs.length)) :
    Calls Tryd.prog 59 #[.slice A xs.length c, .string ⟨#[32, 124, 32]⟩] wr (ShowRet wr (refsT xs)) := by
  have hpos : 0 < xs.length := List.length_pos_iff.2 hx
  rcases h.2 with ⟨h1, h2⟩ | ⟨g, off, cap, cur, hv, hg, hnc, ho, hc, ht⟩
  · omega
  simp only [Value.slice.injEq] at hv
  obtain ⟨rfl, -, rfl⟩ := hv
  have hcell : ∀ (j : Nat) (x : ByteArray), (xs.map (fun x => (⟨(refT x).toArray⟩ : ByteArray)))[j]? = some x → wr.cell? ⟨g, off + j, none⟩ = some (.string x) := by
    intro j x hj
    rw [cell_of_row wr g (off + j) cur _ (0, 0) hg]
    have h1 : (strsT xs xs.length)[j]? = some (.string x) := by
      unfold strsT
      rw [List.take_length]
      rw [List.getElem?_map] at hj ⊢
      cases hq : xs[j]? with
      | none => rw [hq] at hj; cases hj
      | some y =>
        rw [hq] at hj
        simp only [Option.map_some, Option.some.injEq] at hj ⊢
        rw [← hj]
    have hjl : j < xs.length := by
      have := (List.getElem?_eq_some_iff.1 hj).1
      simpa using this
    rw [← ht, List.getElem?_take, if_pos (by omega), List.getElem?_drop] at h1
    simpa using h1
  have hgl := lt_of_heap hg
  have hlen := refsT_len xs hm
  have hj : Lib.join ((xs.map (fun x => (⟨(refT x).toArray⟩ : ByteArray))).map (·.data.toList)) (⟨#[32, 124, 32]⟩ : ByteArray).data.toList = refsT xs := by
    rw [refsT_join, List.map_map]
    rfl
  by_cases h1 : xs.length = 1
  · obtain ⟨x, rfl⟩ := List.length_eq_one_iff.1 h1
    have hc0 := hcell 0 ⟨(refT x).toArray⟩ rfl
    rw [Nat.add_zero] at hc0
    refine (Any.strings_Join_one lays156 extraB g off c ⟨(refT x).toArray⟩ ⟨#[32, 124, 32]⟩ wr hc0).mono ?_
    rintro e w' ⟨rfl, rfl⟩
    exact ⟨rfl, Below.refl _ _⟩
  · have := Any.strings_Join_many lays156 extraB g off c (xs.map (fun x => (⟨(refT x).toArray⟩ : ByteArray))) ⟨#[32, 124, 32]⟩ wr hcell hgl (by simp; omega) (by simp; omega) (by simpa using hnc) (by rw [hj]; omega)
    rw [hj] at this
    simp only [List.length_map] at this
    exact this.mono (fun e w' h => h)
end Go.Proofs.YtgmlcnikphbiiaaDoor.L

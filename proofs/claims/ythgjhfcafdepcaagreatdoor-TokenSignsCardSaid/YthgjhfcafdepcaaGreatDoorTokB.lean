/-
  strings.Split at one byte; texts split, plain.
-/
import Derived.Test.YthgjhfcafdepcaaGreatDoorBase
import Derived.Test.YthgjhfcafdepcaaGreatDoorMem
import Derived.Test.YthgjhfcafdepcaaGreatDoorShelf
import Derived.Shelf.Strings.SplitShaped
import Derived.Shelf.Strings.Split
import Derived.Lib.SplitLaws
namespace Go.Proofs.YthgjhfcafdepcaaGreatDoor.Tk
open Go.RowKit Go.Proofs.YthgjhfcafdepcaaGreatDoor.B
open Go.Proofs.YthgjhfcafdepcaaGreatDoor.M
open Go.Proofs.YthgjhfcafdepcaaGreatDoor.C (QRow Turn)
set_option linter.unusedVariables false
set_option linter.unusedSimpArgs false

abbrev ba (q : Bs) : ByteArray := ⟨q.toArray⟩
/-- a text's parts between a byte. -/
def spl (c : UInt8) : Bs → List Bs
  | [] => [[]]
  | x :: l => if x = c then [] :: spl c l else match spl c l with
    | h :: t => (x :: h) :: t
    | [] => [[x]]
theorem spl_ne (c : UInt8) : ∀ l, spl c l ≠ []
  | [] => by simp [spl]
  | x :: l => by
    unfold spl
    split
    · simp
    · split <;> simp
theorem spl_none (c : UInt8) : ∀ l : Bs, c ∉ l → spl c l = [l]
  | [], _ => rfl
  | x :: l, h => by
    simp only [List.mem_cons, not_or] at h
    rw [spl, if_neg (fun e => h.1 e.symm), spl_none c l h.2]
theorem spl_app (c : UInt8) : ∀ (a b : Bs), c ∉ a → spl c (a ++ c :: b) = a :: spl c b
  | [], b, _ => by rw [List.nil_append, spl, if_pos rfl]
  | x :: a, b, h => by
    simp only [List.mem_cons, not_or] at h
    rw [List.cons_append, spl, if_neg (fun e => h.1 e.symm), spl_app c a b h.2]
theorem spl_snoc (c : UInt8) : ∀ (a b : Bs), spl c (a ++ c :: b) = spl c a ++ spl c b
  | [], b => by
    show spl c (c :: b) = [[]] ++ spl c b
    conv => lhs; unfold spl
    rw [if_pos rfl]; rfl
  | x :: a, b => by
    have h := spl_snoc c a b
    rw [List.cons_append, spl, spl, h]
    by_cases e : x = c
    · rw [if_pos e, if_pos e]; rfl
    · rw [if_neg e, if_neg e]
      cases hq : spl c a with
      | nil => exact absurd hq (spl_ne c a)
      | cons p q => rfl
theorem spl_not (c : UInt8) : ∀ (l : Bs) (p : Bs), p ∈ spl c l → c ∉ p
  | [], p, h => by simp [spl] at h; subst h; simp
  | x :: l, p, h => by
    unfold spl at h
    split at h
    · rename_i e
      rcases List.mem_cons.1 h with rfl | h
      · simp
      · exact spl_not c l p h
    · rename_i e
      cases hq : spl c l with
      | nil => exact absurd hq (spl_ne c l)
      | cons q t =>
        rw [hq] at h
        rcases List.mem_cons.1 h with rfl | h
        · have := spl_not c l q (by rw [hq]; simp)
          simp only [List.mem_cons, not_or]
          exact ⟨fun e' => e e'.symm, this⟩
        · exact spl_not c l p (by rw [hq]; simp [h])
/-- the parts, joined. -/
def joi (c : UInt8) : List Bs → Bs
  | [] => []
  | [p] => p
  | p :: q :: l => p ++ c :: joi c (q :: l)
theorem joi_spl (c : UInt8) : ∀ l, joi c (spl c l) = l
  | [] => rfl
  | x :: l => by
    have h := joi_spl c l
    unfold spl
    split
    · rename_i e
      cases hq : spl c l with
      | nil => exact absurd hq (spl_ne c l)
      | cons p t =>
        rw [hq] at h
        show [] ++ c :: joi c (p :: t) = _
        rw [h, e]; rfl
    · cases hq : spl c l with
      | nil => exact absurd hq (spl_ne c l)
      | cons p t =>
        rw [hq] at h
        cases t with
        | nil => show x :: p = _; rw [← h]; rfl
        | cons q t => show (x :: p) ++ c :: joi c (q :: t) = _; rw [← h]; rfl
theorem splitK_spl (c : UInt8) : ∀ (k : Nat) (s : Bs), s.count c = k → Lib.splitK [c] 0 k s = spl c s
  | 0, s, h => by
    rw [spl_none c s (fun hm => by have := List.count_pos_iff.2 hm; omega)]
    rfl
  | k + 1, s, h => by
    rw [Lib.splitK, Lib.index_one]
    have hm : c ∈ s := List.count_pos_iff.1 (by omega)
    by_cases h0' : Lib.indexByte s c < 0
    · have h0 := h0'
      exfalso
      have hge := Lib.indexByte_ge s c
      obtain ⟨j, hj, hjc⟩ := List.getElem_of_mem hm
      exact Lib.indexByte_none (show Lib.indexByte s c = -1 by omega) j (by rw [List.getElem?_eq_getElem hj, hjc])
    · have h0 : 0 ≤ Lib.indexByte s c := by omega
      obtain ⟨i, hi⟩ : ∃ i : Nat, Lib.indexByte s c = i := ⟨_, (Int.toNat_of_nonneg h0).symm⟩
      obtain ⟨h1, h2⟩ := Lib.indexByte_some hi
      have hlt : i < s.length := (List.getElem?_eq_some_iff.1 h1).1
      have hne : ((Lib.indexByte s c) == -1) = false := by rw [beq_eq_false_iff_ne]; omega
      have hit : (Lib.indexByte s c).toNat = i := by omega
      rw [hne, hit]
      have hc : s[i] = c := (List.getElem?_eq_some_iff.1 h1).2
      have hs : s = s.take i ++ c :: s.drop (i + 1) := by
        rw [← hc, List.getElem_cons_drop, List.take_append_drop]
      have hni : c ∉ s.take i := by
        intro hm
        obtain ⟨j, hj, hjc⟩ := List.getElem_of_mem hm
        rw [List.length_take] at hj
        rw [List.getElem_take] at hjc
        exact h2 j (by omega) (by rw [List.getElem?_eq_getElem (by omega), hjc])
      have hcnt : (s.drop (i + 1)).count c = k := by
        have := congrArg (List.count c) hs
        rw [h, List.count_append, List.count_cons_self, List.count_eq_zero_of_not_mem hni] at this
        omega
      show s.take (i + 0) :: Lib.splitK [c] 0 k (s.drop (i + 1)) = spl c s
      rw [splitK_spl c k _ hcnt, Nat.add_zero]
      conv => rhs; rw [hs]
      rw [spl_app c _ _ hni]
theorem split_parts (c : UInt8) (s : Bs) : Lib.splitB ⟨#[c]⟩ 0 (Lib.countB (ba s) ⟨#[c]⟩) (ba s) = (spl c s).map ba ∧ Lib.countB (ba s) ⟨#[c]⟩ + 1 = (spl c s).length := by
  have hcnt : Lib.countB (ba s) ⟨#[c]⟩ = s.count c := by
    show Lib.count s [c] = _
    exact Lib.count_one c s
  have h := Lib.splitB_data ⟨#[c]⟩ 0 (Lib.countB (ba s) ⟨#[c]⟩) (ba s)
  rw [hcnt] at h ⊢
  have h2 : (Lib.splitB ⟨#[c]⟩ 0 (s.count c) (ba s)).map (·.data.toList) = spl c s := h.trans (splitK_spl c _ s rfl)
  have h3 : Lib.splitB ⟨#[c]⟩ 0 (s.count c) (ba s) = (spl c s).map ba := by
    rw [← h2, List.map_map]
    conv => lhs; rw [← List.map_id (Lib.splitB ⟨#[c]⟩ 0 (s.count c) (ba s))]
    rfl
  refine ⟨h3, ?_⟩
  have h4 := Lib.splitB_all ⟨#[c]⟩ (Nat.le_refl _) 0 _ (ba s) hcnt
  rw [h3, List.length_map] at h4
  exact h4.symm
theorem info_str : (Tryz.prog.info? 9).map (fun i => (i.zero, i.size, i.bytes)) = some (some (.string ByteArray.empty), 1, 16) := by kernel_rfl
set_option maxHeartbeats 1000000 in
/-- strings.Split at one byte. -/
theorem Split_calls (s : Bs) (c : UInt8) (w : World) (hs : s.length < 4294967281) :
    Calls Tryz.prog 56 #[vs s, .string ⟨#[c]⟩] w fun e w' =>
      e = .returned (.slice (some ⟨w.heap.size, 0, none⟩) (spl c s).length (spl c s).length) ∧ w' = w.alloc (.cells ((spl c s).map vs).toArray 9) := by
  have hsz : (ba s).size = s.length := by simp [ByteArray.size]
  have h1 : 1 ≤ (⟨#[c]⟩ : ByteArray).size := Nat.le_refl _
  have hle := Lib.countB_le ⟨#[c]⟩ h1 (ba s).size (ba s) (Nat.le_refl _)
  obtain ⟨hp, hl⟩ := split_parts c s
  have cc := Any.strings_genSplit_core { Tryz.lays146 with } info_str (ba s) ⟨#[c]⟩ 0 (-1) (Lib.countB (ba s) ⟨#[c]⟩ + 1) w (by rw [hsz]; exact hs) h1 (Nat.zero_le _)
    (fun x cs hx => (Any.strings_Index_one { Tryz.lays146 with } x c _).mono fun e w' ⟨he, hw⟩ => ⟨by rw [he]; unfold Lib.indexB; rw [Lib.index_one], hw⟩)
    ((Any.strings_Count_one { Tryz.lays146 with } (ba s) c w).mono fun e w' ⟨he, hw⟩ => ⟨by rw [he]; show _ = Ending.returned (Value.int .i64 ((Lib.count s [c] : Nat) : Int)); rw [Lib.count_one]; rfl, hw⟩)
    (by decide) (by decide) (by rw [if_pos (by decide)]; omega)
  rw [Nat.add_sub_cancel, hp] at cc
  have e2 : Lib.cellsOf ((spl c s).map ba) (Lib.countB (ba s) ⟨#[c]⟩ + 1) = ((spl c s).map vs).toArray := by
    have := Lib.cellsOf_full ((spl c s).map ba)
    rw [List.length_map, ← hl] at this
    rw [this, List.map_map]
    rfl
  rw [e2, List.length_map, hl] at cc
  have CC := Lib.hid cc
  clear cc e2 hp hl
  go_enter Tryz.func56, Tryz.ntmps56
  go_wp2_with fail
  refine CC.out.mono ?_
  rintro e w' ⟨rfl, rfl⟩
  go_wp2
  go_ret
  exact ⟨rfl, rfl⟩
end Go.Proofs.YthgjhfcafdepcaaGreatDoor.Tk

/-
  Plain law on the texts of layer 10: what is read is shown as it was, and what is shown is read again. No program in sight.
-/
import Derived.Test.YthgjhfcafdepcaaGreatDoorSpec10
namespace Go.Proofs.YthgjhfcafdepcaaGreatDoor.S10
set_option maxRecDepth 100000
open Go.Lib

abbrev L (s : ByteArray) : List UInt8 := s.data.toList
theorem ba_ext {a b : ByteArray} (h : L a = L b) : a = b := by
  cases a; cases b; simp only [L] at h; congr; exact Array.toList_inj.1 h
theorem L_append (a b : ByteArray) : L (a ++ b) = L a ++ L b := by simp [L]
theorem L_extract (s : ByteArray) (i j : Nat) : L (s.extract i j) = ((L s).drop i).take (j - i) := Go.Lib.extract_data s i j
theorem L_one (c : UInt8) : L ⟨#[c]⟩ = [c] := rfl
theorem size_L (s : ByteArray) : (L s).length = s.size := by simp [L]
theorem toList_L (s : ByteArray) : s.toList = L s := by
  exact Go.Lib.toList_data s
theorem cut_hit {s : ByteArray} {c : UInt8} (h : (cutF s c).2.2 = true) : ∃ k, k < s.size ∧ (L s)[k]? = some c ∧ (∀ j, j < k → (L s)[j]? ≠ some c) ∧ cutF s c = (s.extract 0 k, s.extract (k + 1) s.size, true) := by
  unfold cutF at h ⊢
  split at h
  · rename_i h0
    rw [if_pos h0]
    obtain ⟨o, ho⟩ : ∃ o : Nat, indexByte s.data.toList c = o := ⟨(indexByte s.data.toList c).toNat, by omega⟩
    have h1 := indexByte_some ho
    refine ⟨o, ?_, h1.1, h1.2, ?_⟩
    · have := (List.getElem?_eq_some_iff.1 h1.1).1; rw [size_L] at this; exact this
    · have e : (indexByte s.data.toList c).toNat = o := by have : indexByte s.data.toList c = o := ho; omega
      rw [e]
  · simp at h
theorem cut_join {s : ByteArray} {c : UInt8} (h : (cutF s c).2.2 = true) : s = ((cutF s c).1 ++ ⟨#[c]⟩) ++ (cutF s c).2.1 ∧ c ∉ L (cutF s c).1 := by
  obtain ⟨k, hk, h1, h2, e⟩ := cut_hit h
  rw [e]
  have hl : k < (L s).length := by rw [size_L]; exact hk
  constructor
  · apply ba_ext
    rw [L_append, L_append, L_extract, L_extract, L_one]
    have e2 : ((L s).drop (k + 1)).take (s.size - (k + 1)) = (L s).drop (k + 1) := List.take_of_length_le (by rw [List.length_drop, size_L]; exact Nat.le_refl _)
    rw [e2, List.drop_zero, Nat.sub_zero]
    have e3 : (L s)[k] = c := by rw [List.getElem?_eq_getElem hl] at h1; exact Option.some.inj h1
    rw [← e3, List.append_assoc]
    show L s = (L s).take k ++ ((L s)[k] :: (L s).drop (k + 1))
    rw [List.getElem_cons_drop, List.take_append_drop]
  · intro hm
    have : L (s.extract 0 k) = (L s).take k := by rw [L_extract, List.drop_zero, Nat.sub_zero]
    rw [this] at hm
    obtain ⟨j, hj, hjc⟩ := List.getElem_of_mem hm
    rw [List.length_take] at hj
    rw [List.getElem_take] at hjc
    exact h2 j (by omega) (by rw [List.getElem?_eq_getElem (by omega), hjc])
theorem index_not {l : List UInt8} {c : UInt8} (h : c ∉ l) : indexByte l c = -1 := by
  have := indexByte_ge l c
  by_cases e : indexByte l c = -1
  · exact e
  · obtain ⟨o, ho⟩ : ∃ o : Nat, indexByte l c = o := ⟨(indexByte l c).toNat, by omega⟩
    exact absurd (List.mem_of_getElem? (indexByte_some ho).1) h
theorem cut_no {s : ByteArray} {c : UInt8} (h : c ∉ L s) : cutF s c = (s, eps, false) := by
  unfold cutF
  have e : indexByte s.data.toList c = -1 := index_not h
  rw [e, if_neg (by omega)]
theorem cut_app {a b : ByteArray} {c : UInt8} (h : c ∉ L a) : cutF ((a ++ ⟨#[c]⟩) ++ b) c = (a, b, true) := by
  have hm : c ∈ L ((a ++ ⟨#[c]⟩) ++ b) := by rw [L_append, L_append, L_one]; simp
  have ht : (cutF ((a ++ ⟨#[c]⟩) ++ b) c).2.2 = true := by
    cases hf : (cutF ((a ++ ⟨#[c]⟩) ++ b) c).2.2 with
    | true => rfl
    | false =>
      exfalso
      revert hf
      unfold cutF
      split
      · simp
      · rename_i h0
        intro _
        obtain ⟨j, hj, hjc⟩ := List.getElem_of_mem hm
        have hge := indexByte_ge (L ((a ++ ⟨#[c]⟩) ++ b)) c
        have e : indexByte (L ((a ++ ⟨#[c]⟩) ++ b)) c = -1 := by have : ¬ 0 ≤ indexByte (L ((a ++ ⟨#[c]⟩) ++ b)) c := h0; omega
        exact indexByte_none e j (by rw [List.getElem?_eq_getElem hj, hjc])
  obtain ⟨e, hn⟩ := cut_join ht
  generalize hcf : cutF ((a ++ ⟨#[c]⟩) ++ b) c = q at *
  obtain ⟨x, y, z⟩ := q
  simp only at e hn ht
  subst ht
  have e' : L a ++ c :: L b = L x ++ c :: L y := by
    have := congrArg L e
    rw [L_append, L_append, L_append, L_append, L_one] at this
    simpa using this
  have hab : L a = L x ∧ L b = L y := by
    have key : ∀ (p q r s : List UInt8), c ∉ p → c ∉ q → p ++ c :: r = q ++ c :: s → p = q ∧ r = s := by
      intro p
      induction p with
      | nil =>
        intro q r s _ hq h
        cases q with
        | nil => simp at h; exact ⟨rfl, h⟩
        | cons d q => simp at h; obtain ⟨rfl, _⟩ := h; simp at hq
      | cons d p ih =>
        intro q r s hp hq h
        cases q with
        | nil => simp at h; obtain ⟨rfl, _⟩ := h; simp at hp
        | cons f q =>
          simp at h hp hq
          obtain ⟨rfl, h⟩ := h
          obtain ⟨h1, h2⟩ := ih q r s hp.2 hq.2 h
          exact ⟨by rw [h1], h2⟩
    exact key _ _ _ _ h hn e'
  rw [ba_ext hab.1, ba_ext hab.2]

theorem only_not {s : ByteArray} {m : Int} {srt : Int → Bool} {c : UInt8} (h : onlyB s m srt = true) (hc : srt (c.toNat : Int) = false) : c ∉ L s := by
  intro hm
  simp only [onlyB, Bool.and_eq_true, List.all_eq_true] at h
  have := h.1 c hm
  rw [hc] at this
  exact absurd this (by simp)
theorem name_not {s : ByteArray} {c : UInt8} (h : nameB s = true) (hc : nameC (c.toNat : Int) = false) : c ∉ L s := by
  simp only [nameB, Bool.and_eq_true] at h
  exact only_not h.2.2.2.1 hc
theorem id_not {s : ByteArray} {c : UInt8} (h : idB s = true) (hc : idC (c.toNat : Int) = false) : c ∉ L s := only_not h hc
theorem name_eps : nameB eps = false := by decide +kernel
theorem id_eps : idB eps = false := by decide +kernel
theorem obj_eps : objF eps = (eps, eps, false) := by decide +kernel
theorem sub_eps : subF eps = (eps, eps, eps, false) := by decide +kernel
theorem tup_eps : tupF eps = (noTup, false) := by decide +kernel
theorem cut_none {s : ByteArray} {c : UInt8} (h : (cutF s c).2.2 = false) : cutF s c = (s, eps, false) ∧ c ∉ L s := by
  have e : cutF s c = (s, eps, false) := by revert h; unfold cutF; split <;> simp
  refine ⟨e, fun hm => ?_⟩
  obtain ⟨j, hj, hjc⟩ := List.getElem_of_mem hm
  have hge := indexByte_ge s.data.toList c
  by_cases h0 : 0 ≤ indexByte s.data.toList c
  · unfold cutF at h; rw [if_pos h0] at h; simp at h
  · exact indexByte_none (show indexByte s.data.toList c = -1 by omega) j (by rw [List.getElem?_eq_getElem hj, hjc])
/-- A text that is a thing is its parts with ':' between. -/
theorem obj_parts {s : ByteArray} (h : (objF s).2.2 = true) : nameB (objF s).1 = true ∧ idB (objF s).2.1 = true ∧ s = ((objF s).1 ++ ⟨#[58]⟩) ++ (objF s).2.1 := by
  unfold objF at h ⊢
  split at h
  · rename_i h0
    rw [if_pos h0]
    simp only [Bool.and_eq_true] at h0
    refine ⟨h0.1, h0.2, ?_⟩
    cases hc : (cutF s 58).2.2 with
    | true => exact (cut_join hc).1
    | false => rw [(cut_none hc).1] at h0; exact absurd h0.2 (by rw [id_eps]; simp)
  · simp at h
theorem obj_make {t i : ByteArray} (ht : nameB t = true) (hi : idB i = true) : objF ((t ++ ⟨#[58]⟩) ++ i) = (t, i, true) := by
  unfold objF
  rw [cut_app (name_not ht (by decide))]
  simp [ht, hi]
theorem showO_eq {t i : ByteArray} (ht : nameB t = true) (hi : idB i = true) : showO t i = (t ++ ⟨#[58]⟩) ++ i := by unfold showO; rw [ht, hi]; rfl
theorem showO_no {t i : ByteArray} (h : (nameB t && idB i) = false) : showO t i = eps := by unfold showO; rw [h]; rfl
theorem obj_not {t i : ByteArray} {c : UInt8} (ht : nameB t = true) (hi : idB i = true) (h1 : nameC (c.toNat : Int) = false) (h2 : idC (c.toNat : Int) = false) (h3 : c ≠ 58) : c ∉ L ((t ++ ⟨#[58]⟩) ++ i) := by
  rw [L_append, L_append, L_one]
  simp only [List.mem_append, List.mem_singleton, not_or]
  exact ⟨⟨name_not ht h1, h3⟩, id_not hi h2⟩
theorem isEmpty_L (s : ByteArray) : s.toList.isEmpty = (L s).isEmpty := by rw [toList_L]
theorem app_ne (a b : ByteArray) (c : UInt8) : ((a ++ ⟨#[c]⟩) ++ b).toList.isEmpty = false := by rw [isEmpty_L, L_append, L_append, L_one]; simp
theorem empty_eps {s : ByteArray} (h : s.toList.isEmpty = true) : s = eps := by
  rw [isEmpty_L] at h
  exact ba_ext (by rw [List.isEmpty_iff.1 h])
theorem eps_empty : eps.toList.isEmpty = true := by decide +kernel
theorem obj_back {s : ByteArray} (h : (objF s).2.2 = true) : showO (objF s).1 (objF s).2.1 = s := by
  obtain ⟨h1, h2, h3⟩ := obj_parts h
  rw [showO_eq h1 h2, ← h3]
theorem obj_again (t i : ByteArray) : objF (showO t i) = if (showO t i).toList.isEmpty = true then (eps, eps, false) else (t, i, true) := by
  cases h : (nameB t && idB i) with
  | false => rw [showO_no h, eps_empty, if_pos rfl]; exact obj_eps
  | true =>
    simp only [Bool.and_eq_true] at h
    rw [showO_eq h.1 h.2, obj_make h.1 h.2, app_ne]; rfl
/-- The parts of a subject's text. -/
theorem sub_parts {s : ByteArray} (h : (subF s).2.2.2 = true) : nameB (subF s).1 = true ∧ idB (subF s).2.1 = true ∧
    ((subF s).2.2.1 = eps ∧ s = ((subF s).1 ++ ⟨#[58]⟩) ++ (subF s).2.1 ∨ nameB (subF s).2.2.1 = true ∧ s = ((((subF s).1 ++ ⟨#[58]⟩) ++ (subF s).2.1) ++ ⟨#[35]⟩) ++ (subF s).2.2.1) := by
  unfold subF at h ⊢
  split at h
  · rename_i h0
    rw [if_pos h0]
    simp only [Bool.and_eq_true, Bool.or_eq_true] at h0
    obtain ⟨h1, h2, h3⟩ := obj_parts h0.1
    refine ⟨h1, h2, ?_⟩
    cases hc : (cutF s 35).2.2 with
    | false =>
      have e := (cut_none hc).1
      rw [e] at h3 ⊢
      exact .inl ⟨rfl, h3⟩
    | true =>
      rw [hc] at h0
      have hn : nameB (cutF s 35).2.1 = true := by simpa using h0.2
      refine .inr ⟨hn, ?_⟩
      have := (cut_join hc).1
      rw [← h3]
      exact this
  · simp at h
theorem sub_make0 {t i : ByteArray} (ht : nameB t = true) (hi : idB i = true) : subF ((t ++ ⟨#[58]⟩) ++ i) = (t, i, eps, true) := by
  unfold subF
  rw [cut_no (obj_not ht hi (by decide) (by decide) (by decide)), obj_make ht hi]
  rfl
theorem sub_make1 {t i r : ByteArray} (ht : nameB t = true) (hi : idB i = true) (hr : nameB r = true) : subF ((((t ++ ⟨#[58]⟩) ++ i) ++ ⟨#[35]⟩) ++ r) = (t, i, r, true) := by
  unfold subF
  rw [cut_app (obj_not ht hi (by decide) (by decide) (by decide)), obj_make ht hi]
  simp [hr]
theorem name_ne {s : ByteArray} (h : nameB s = true) : s.toList.isEmpty = false := by
  have := nameB_size h
  rw [isEmpty_L, Bool.eq_false_iff]
  intro e
  have := size_L s
  rw [List.isEmpty_iff.1 e] at this
  simp at this
  omega
theorem showS_eq0 {t i : ByteArray} (ht : nameB t = true) (hi : idB i = true) : showS t i eps = (t ++ ⟨#[58]⟩) ++ i := by
  unfold showS
  rw [showO_eq ht hi, app_ne, eps_empty]; rfl
theorem showS_eq1 {t i r : ByteArray} (ht : nameB t = true) (hi : idB i = true) (hr : nameB r = true) : showS t i r = (((t ++ ⟨#[58]⟩) ++ i) ++ ⟨#[35]⟩) ++ r := by
  unfold showS
  rw [showO_eq ht hi, app_ne, name_ne hr, hr]; rfl
theorem sub_back {s : ByteArray} (h : (subF s).2.2.2 = true) : showS (subF s).1 (subF s).2.1 (subF s).2.2.1 = s := by
  obtain ⟨h1, h2, h3 | h3⟩ := sub_parts h
  · rw [h3.1, showS_eq0 h1 h2, ← h3.2]
  · rw [showS_eq1 h1 h2 h3.1, ← h3.2]
/-- What the text of a subject is. -/
theorem showS_cases (t i r : ByteArray) : showS t i r = eps ∨ nameB t = true ∧ idB i = true ∧ (r = eps ∨ nameB r = true) := by
  cases h : (nameB t && idB i) with
  | false => left; unfold showS; rw [showO_no h, eps_empty]; rfl
  | true =>
    simp only [Bool.and_eq_true] at h
    unfold showS
    rw [showO_eq h.1 h.2, app_ne]
    cases hr : r.toList.isEmpty with
    | true => right; exact ⟨h.1, h.2, .inl (empty_eps hr)⟩
    | false =>
      cases hn : nameB r with
      | true => right; exact ⟨h.1, h.2, .inr rfl⟩
      | false => left; rfl
theorem sub_again (t i r : ByteArray) : subF (showS t i r) = if (showS t i r).toList.isEmpty = true then (eps, eps, eps, false) else (t, i, r, true) := by
  rcases showS_cases t i r with h | ⟨h1, h2, h3⟩
  · rw [h, eps_empty, if_pos rfl]; exact sub_eps
  · rcases h3 with rfl | h3
    · rw [showS_eq0 h1 h2, sub_make0 h1 h2, app_ne]; rfl
    · rw [showS_eq1 h1 h2 h3, sub_make1 h1 h2 h3, app_ne]; rfl
theorem tup_parts {s : ByteArray} (h : (tupF s).2 = true) : nameB (tupF s).1.t = true ∧ idB (tupF s).1.i = true ∧ nameB (tupF s).1.r = true ∧ (subF (showS (tupF s).1.st (tupF s).1.si (tupF s).1.sr)).2.2.2 = true ∧
    s = ((((((tupF s).1.t ++ ⟨#[58]⟩) ++ (tupF s).1.i) ++ ⟨#[35]⟩) ++ (tupF s).1.r) ++ ⟨#[64]⟩) ++ showS (tupF s).1.st (tupF s).1.si (tupF s).1.sr := by
  have e : tupF s = if ((objF (cutF (cutF s 64).1 35).1).2.2 && ((subF (cutF s 64).2.1).2.2.2 && nameB (cutF (cutF s 64).1 35).2.1)) = true then (⟨(objF (cutF (cutF s 64).1 35).1).1, (objF (cutF (cutF s 64).1 35).1).2.1, (cutF (cutF s 64).1 35).2.1, (subF (cutF s 64).2.1).1, (subF (cutF s 64).2.1).2.1, (subF (cutF s 64).2.1).2.2.1⟩, true) else (noTup, false) := rfl
  rw [e] at h ⊢
  split at h
  · rename_i h0
    rw [if_pos h0]
    simp only [Bool.and_eq_true] at h0
    obtain ⟨h1, h2, h3⟩ := obj_parts h0.1
    have hs := sub_back h0.2.1
    refine ⟨h1, h2, h0.2.2, by rw [hs]; exact h0.2.1, ?_⟩
    rw [hs]
    have hc1 : (cutF s 64).2.2 = true := by
      cases hc : (cutF s 64).2.2 with
      | true => rfl
      | false => rw [(cut_none hc).1] at h0; exact absurd h0.2.1 (by show ¬ (subF eps).2.2.2 = true; rw [sub_eps]; simp)
    have hc2 : (cutF (cutF s 64).1 35).2.2 = true := by
      cases hc : (cutF (cutF s 64).1 35).2.2 with
      | true => rfl
      | false => rw [(cut_none hc).1] at h0; exact absurd h0.2.2 (by rw [name_eps]; simp)
    rw [← h3, ← (cut_join hc2).1]
    exact (cut_join hc1).1
  · simp at h
theorem sub_not {t i r : ByteArray} (h : (subF (showS t i r)).2.2.2 = true) : (64 : UInt8) ∉ L (showS t i r) ∧ (showS t i r).toList.isEmpty = false := by
  rcases showS_cases t i r with e | ⟨h1, h2, h3⟩
  · rw [e, sub_eps] at h; exact absurd h (by simp)
  · rcases h3 with rfl | h3
    · rw [showS_eq0 h1 h2]
      exact ⟨obj_not h1 h2 (by decide) (by decide) (by decide), app_ne _ _ _⟩
    · rw [showS_eq1 h1 h2 h3]
      refine ⟨?_, app_ne _ _ _⟩
      have := obj_not (c := 64) h1 h2 (by decide) (by decide) (by decide)
      rw [L_append, L_append, L_one]
      simp only [List.mem_append, List.mem_singleton, not_or]
      exact ⟨⟨this, by decide⟩, name_not h3 (by decide)⟩
theorem showT_eq {x : Tup} (h1 : nameB x.t = true) (h2 : idB x.i = true) (h3 : nameB x.r = true) (h4 : (showS x.st x.si x.sr).toList.isEmpty = false) : showT x = (((((x.t ++ ⟨#[58]⟩) ++ x.i) ++ ⟨#[35]⟩) ++ x.r) ++ ⟨#[64]⟩) ++ showS x.st x.si x.sr := by
  unfold showT
  rw [showO_eq h1 h2, app_ne, h4, h3]; rfl
theorem tup_back {s : ByteArray} (h : (tupF s).2 = true) : showT (tupF s).1 = s := by
  obtain ⟨h1, h2, h3, h4, h5⟩ := tup_parts h
  rw [showT_eq h1 h2 h3 (sub_not h4).2]
  exact h5.symm
theorem obj_sub {s : ByteArray} (h : (objF s).2.2 = true) : (subF s).2.2.2 = true := by
  obtain ⟨h1, h2, h3⟩ := obj_parts h
  rw [h3, sub_make0 h1 h2]
theorem sub_tup {s : ByteArray} (h : (subF s).2.2.2 = true) : (tupF s).2 = false := by
  cases ht : (tupF s).2 with
  | false => rfl
  | true =>
    exfalso
    obtain ⟨h1, h2, h3, h4, h5⟩ := tup_parts ht
    have hb := sub_back h
    have hn : (64 : UInt8) ∉ L s := by rw [← hb]; exact (sub_not (by rw [hb]; exact h)).1
    apply hn
    rw [h5, L_append, L_append, L_one]
    simp
theorem tup_again (x : Tup) : tupF (showT x) = if (showT x).toList.isEmpty = true then (noTup, false) else (x, true) := by
  cases ho : (nameB x.t && idB x.i) with
  | false =>
    have e : showT x = eps := by unfold showT; rw [showO_no ho, eps_empty]; rfl
    rw [e, eps_empty, if_pos rfl]; exact tup_eps
  | true =>
    simp only [Bool.and_eq_true] at ho
    cases hs : (showS x.st x.si x.sr).toList.isEmpty with
    | true =>
      have e : showT x = eps := by unfold showT; rw [showO_eq ho.1 ho.2, app_ne, hs]; rfl
      rw [e, eps_empty, if_pos rfl]; exact tup_eps
    | false =>
      cases hr : nameB x.r with
      | false =>
        have e : showT x = eps := by unfold showT; rw [showO_eq ho.1 ho.2, app_ne, hs, hr]; rfl
        rw [e, eps_empty, if_pos rfl]; exact tup_eps
      | true =>
        have hsub := sub_again x.st x.si x.sr
        rw [hs] at hsub
        have hsub2 : (subF (showS x.st x.si x.sr)).2.2.2 = true := by rw [hsub]; rfl
        rw [showT_eq ho.1 ho.2 hr hs, app_ne]
        have n1 : (64 : UInt8) ∉ L ((((x.t ++ ⟨#[58]⟩) ++ x.i) ++ ⟨#[35]⟩) ++ x.r) := by
          have := obj_not (c := 64) ho.1 ho.2 (by decide) (by decide) (by decide)
          rw [L_append, L_append, L_one]
          simp only [List.mem_append, List.mem_singleton, not_or]
          exact ⟨⟨this, by decide⟩, name_not hr (by decide)⟩
        have n2 : (35 : UInt8) ∉ L ((x.t ++ ⟨#[58]⟩) ++ x.i) := obj_not ho.1 ho.2 (by decide) (by decide) (by decide)
        show (if _ then _ else _) = _
        rw [cut_app n1, cut_app n2, obj_make ho.1 ho.2, hsub]
        simp [hr]
end Go.Proofs.YthgjhfcafdepcaaGreatDoor.S10

/-
  The contracts of ShowObject, ShowSubject, ShowTuple, of package names and of its reference.
-/
import Derived.Test.YtfdhjnbmmckknaaNamesE
namespace Go.Proofs.Ytfdhjnbmmckknaa.Nm
open Go.RowKit Go.Proofs.Ytfdhjnbmmckknaa.B Go.Proofs.Ytfdhjnbmmckknaa.S10
set_option linter.unusedVariables false
set_option linter.unusedSimpArgs false

theorem showO_is (t i : ByteArray) : showO t i = if (nameB t && idB i) = true then (t ++ ⟨#[58]⟩) ++ i else eps := rfl
theorem showS_is (t i r : ByteArray) : showS t i r = if (showO t i).toList.isEmpty = true then showO t i else if r.toList.isEmpty = true then showO t i else if nameB r = true then ((showO t i) ++ ⟨#[35]⟩) ++ r else eps := rfl
theorem showT_is (x : Tup) : showT x = if (showO x.t x.i).toList.isEmpty = true then eps else if (showS x.st x.si x.sr).toList.isEmpty = true then eps else if nameB x.r = true then (((showO x.t x.i ++ ⟨#[35]⟩) ++ x.r) ++ ⟨#[64]⟩) ++ showS x.st x.si x.sr else eps := rfl
theorem size1 (c : UInt8) : (⟨#[c]⟩ : ByteArray).size = 1 := rfl

set_option maxHeartbeats 2000000 in
theorem ShowObject_calls (t i : ByteArray) (w : World) (ht : t.size ≤ 9223372036854775807) (hi : i.size ≤ 9223372036854775807) :
    Calls Try.prog 35 #[.agg #[.string t, .string i]] w fun e w' => e = .returned (.string (showO t i)) ∧ Below w.heap.size w w' := by
  have hf := Lib.hid (showO_is t i)
  cases hn : nameB t <;> cases hd : idB i
  all_goals
    first
      | (have s1 := nameB_size hn; have s2 := idB_size hd
         have s3 : (t ++ (⟨#[58]⟩ : ByteArray)).size + i.size ≤ 9223372036854775807 := (by rw [ByteArray.size_append, size1]; omega)
         have s4 : t.size + 1 ≤ 9223372036854775807 := (by omega))
      | skip
    go_enter Try.func35, Try.ntmps35
    go_wp2_with (first | (go_at_call 23; refine (Name_calls _ _ (by omega)).mono ?_; rintro e w' ⟨rfl, rfl⟩; rw [hn]) | (go_at_call 25; refine (ID_calls _ _ (by omega)).mono ?_; rintro e w' ⟨rfl, rfl⟩; rw [hd]))
    go_ret
    exact ⟨by rw [hf.out]; simp [hn, hd], by repeat (first | (with_reducible exact Below.refl _ _) | (with_reducible exact HB1) | (with_reducible refine Below.setCell ?_ (by simp) _) | (with_reducible refine Below.alloc ?_ (by simp; try omega) _) | (with_reducible refine below_drewN ?_ _) | (with_reducible refine Below.drew ?_))⟩

set_option maxHeartbeats 2000000 in
theorem refShowObject_calls (t i : ByteArray) (w : World) (ht : t.size ≤ 9223372036854775807) (hi : i.size ≤ 9223372036854775807) :
    Calls Try.prog 38 #[.agg #[.string t, .string i]] w fun e w' => e = .returned (.string (showO t i)) ∧ Below w.heap.size w w' := by
  have hf := Lib.hid (showO_is t i)
  cases hn : nameB t <;> cases hd : idB i
  all_goals
    first
      | (have s1 := nameB_size hn; have s2 := idB_size hd
         have s3 : (t ++ (⟨#[58]⟩ : ByteArray)).size + i.size ≤ 9223372036854775807 := (by rw [ByteArray.size_append, size1]; omega)
         have s4 : t.size + 1 ≤ 9223372036854775807 := (by omega))
      | skip
    go_enter Try.func38, Try.ntmps38
    go_wp2_with (first | (go_at_call 24; refine (refName_calls _ _ (by omega)).mono ?_; rintro e w' ⟨rfl, rfl⟩; rw [hn]) | (go_at_call 26; refine (refID_calls _ _ (by omega)).mono ?_; rintro e w' ⟨rfl, rfl⟩; rw [hd]))
    go_ret
    exact ⟨by rw [hf.out]; simp [hn, hd], by repeat (first | (with_reducible exact Below.refl _ _) | (with_reducible exact HB1) | (with_reducible refine Below.setCell ?_ (by simp) _) | (with_reducible refine Below.alloc ?_ (by simp; try omega) _) | (with_reducible refine below_drewN ?_ _) | (with_reducible refine Below.drew ?_))⟩

set_option maxHeartbeats 2000000 in
theorem ShowSubject_calls (t i r : ByteArray) (w : World) (ht : t.size ≤ 9223372036854775807) (hi : i.size ≤ 9223372036854775807) (hr : r.size ≤ 9223372036854775807) :
    Calls Try.prog 34 #[.agg #[.string t, .string i, .string r]] w fun e w' => e = .returned (.string (showS t i r)) ∧ Below w.heap.size w w' := by
  have hf := Lib.hid (showS_is t i r)
  have so := showO_size t i
  cases hn : nameB r <;> cases hr0 : r.toList.isEmpty <;> cases ho : (showO t i).toList.isEmpty
  all_goals
    first
      | (have s1 := nameB_size hn
         have s3 : (showO t i ++ (⟨#[35]⟩ : ByteArray)).size + r.size ≤ 9223372036854775807 := (by rw [ByteArray.size_append, size1]; omega)
         have s4 : (showO t i).size + 1 ≤ 9223372036854775807 := (by omega))
      | skip
    go_enter Try.func34, Try.ntmps34
    go_wp2_with (first | (go_at_call 23; refine (Name_calls _ _ (by omega)).mono ?_; rintro e w' ⟨rfl, rfl⟩; rw [hn]) | (go_at_call 35; refine (ShowObject_calls _ _ _ (by omega) (by omega)).mono ?_; rintro e w1 ⟨rfl, hb1⟩; have HB1 : Below w.heap.size w w1 := (below_then ((Below.refl _ _).alloc (Nat.le_refl _) _) (by simp) hb1); obtain ⟨hc1, hf1⟩ := bcell hb1; have hz1 : w.heap.size < w1.heap.size := (by have := hb1.size; simp at this; omega)))
    go_ret
    exact ⟨by rw [hf.out]; simp [hn, hr0, ho], by repeat (first | (with_reducible exact Below.refl _ _) | (with_reducible exact HB1) | (with_reducible refine Below.setCell ?_ (by simp) _) | (with_reducible refine Below.alloc ?_ (by simp; try omega) _) | (with_reducible refine below_drewN ?_ _) | (with_reducible refine Below.drew ?_))⟩
set_option maxHeartbeats 2000000 in
theorem refShowSubject_calls (t i r : ByteArray) (w : World) (ht : t.size ≤ 9223372036854775807) (hi : i.size ≤ 9223372036854775807) (hr : r.size ≤ 9223372036854775807) :
    Calls Try.prog 37 #[.agg #[.string t, .string i, .string r]] w fun e w' => e = .returned (.string (showS t i r)) ∧ Below w.heap.size w w' := by
  have hf := Lib.hid (showS_is t i r)
  have so := showO_size t i
  cases hn : nameB r <;> cases hr0 : r.toList.isEmpty <;> cases ho : (showO t i).toList.isEmpty
  all_goals
    first
      | (have s1 := nameB_size hn
         have s3 : (showO t i ++ (⟨#[35]⟩ : ByteArray)).size + r.size ≤ 9223372036854775807 := (by rw [ByteArray.size_append, size1]; omega)
         have s4 : (showO t i).size + 1 ≤ 9223372036854775807 := (by omega))
      | skip
    go_enter Try.func37, Try.ntmps37
    go_wp2_with (first | (go_at_call 24; refine (refName_calls _ _ (by omega)).mono ?_; rintro e w' ⟨rfl, rfl⟩; rw [hn]) | (go_at_call 38; refine (refShowObject_calls _ _ _ (by omega) (by omega)).mono ?_; rintro e w1 ⟨rfl, hb1⟩; have HB1 : Below w.heap.size w w1 := (below_then ((Below.refl _ _).alloc (Nat.le_refl _) _) (by simp) hb1); obtain ⟨hc1, hf1⟩ := bcell hb1; have hz1 : w.heap.size < w1.heap.size := (by have := hb1.size; simp at this; omega)))
    go_ret
    exact ⟨by rw [hf.out]; simp [hn, hr0, ho], by repeat (first | (with_reducible exact Below.refl _ _) | (with_reducible exact HB1) | (with_reducible refine Below.setCell ?_ (by simp) _) | (with_reducible refine Below.alloc ?_ (by simp; try omega) _) | (with_reducible refine below_drewN ?_ _) | (with_reducible refine Below.drew ?_))⟩

set_option maxHeartbeats 4000000 in
theorem refShowTuple_calls (x : Tup) (w : World) (h1 : x.t.size ≤ 9223372036854775807) (h2 : x.i.size ≤ 9223372036854775807) (h3 : x.r.size ≤ 9223372036854775807) (h4 : x.st.size ≤ 9223372036854775807) (h5 : x.si.size ≤ 9223372036854775807) (h6 : x.sr.size ≤ 9223372036854775807) :
    Calls Try.prog 36 #[.agg #[.string x.t, .string x.i, .string x.r, .string x.st, .string x.si, .string x.sr]] w fun e w' => e = .returned (.string (showT x)) ∧ Below w.heap.size w w' := by
  have hf := Lib.hid (showT_is x)
  have so := showO_size x.t x.i
  have ss := showS_size x.st x.si x.sr
  cases hn : nameB x.r <;> cases ho : (showO x.t x.i).toList.isEmpty <;> cases hs : (showS x.st x.si x.sr).toList.isEmpty
  all_goals
    first
      | (have s1 := nameB_size hn
         have s3 : (showO x.t x.i ++ (⟨#[35]⟩ : ByteArray)).size + x.r.size ≤ 9223372036854775807 := (by rw [ByteArray.size_append, size1]; omega)
         have s4 : (showO x.t x.i).size + 1 ≤ 9223372036854775807 := (by omega)
         have s5 : (showO x.t x.i ++ (⟨#[35]⟩ : ByteArray) ++ x.r).size + 1 ≤ 9223372036854775807 := (by rw [ByteArray.size_append, ByteArray.size_append, size1]; omega)
         have s6 : (showO x.t x.i ++ (⟨#[35]⟩ : ByteArray) ++ x.r ++ (⟨#[64]⟩ : ByteArray)).size + (showS x.st x.si x.sr).size ≤ 9223372036854775807 := (by rw [ByteArray.size_append, ByteArray.size_append, ByteArray.size_append, size1, size1]; omega))
      | skip
    go_enter Try.func36, Try.ntmps36
    go_wp2_with (first | (go_at_call 24; refine (refName_calls _ _ (by omega)).mono ?_; rintro e w' ⟨rfl, rfl⟩; rw [hn]) | (go_at_call 38; refine (refShowObject_calls _ _ _ (by omega) (by omega)).mono ?_; rintro e w1 ⟨rfl, hb1⟩; have HB1 : Below w.heap.size w w1 := (below_then ((Below.refl _ _).alloc (Nat.le_refl _) _) (by simp) hb1); obtain ⟨hc1, hf1⟩ := bcell hb1; have hz1 : w.heap.size < w1.heap.size := (by have := hb1.size; simp at this; omega)) | (go_at_call 37; refine (refShowSubject_calls _ _ _ _ (by omega) (by omega) (by omega)).mono ?_; rintro e w2 ⟨rfl, hb2⟩; have HB2 : Below w.heap.size w w2 := (below_then HB1 HB1.size hb2); obtain ⟨hc2, hf2⟩ := bcell hb2; have hz2 : w.heap.size < w2.heap.size := Nat.lt_of_lt_of_le hz1 hb2.size))
    go_ret
    exact ⟨by rw [hf.out]; simp [hn, ho, hs], by repeat (first | (with_reducible exact HB2))⟩

set_option maxHeartbeats 4000000 in
theorem ShowTuple_calls (x : Tup) (w : World) (h1 : x.t.size ≤ 9223372036854775807) (h2 : x.i.size ≤ 9223372036854775807) (h3 : x.r.size ≤ 9223372036854775807) (h4 : x.st.size ≤ 9223372036854775807) (h5 : x.si.size ≤ 9223372036854775807) (h6 : x.sr.size ≤ 9223372036854775807) :
    Calls Try.prog 33 #[.agg #[.string x.t, .string x.i, .string x.r, .string x.st, .string x.si, .string x.sr]] w fun e w' => e = .returned (.string (showT x)) ∧ Below w.heap.size w w' := by
  have hf := Lib.hid (showT_is x)
  have so := showO_size x.t x.i
  have ss := showS_size x.st x.si x.sr
  cases hn : nameB x.r <;> cases ho : (showO x.t x.i).toList.isEmpty <;> cases hs : (showS x.st x.si x.sr).toList.isEmpty
  all_goals
    first
      | (have s1 := nameB_size hn
         have s3 : (showO x.t x.i ++ (⟨#[35]⟩ : ByteArray)).size + x.r.size ≤ 9223372036854775807 := (by rw [ByteArray.size_append, size1]; omega)
         have s4 : (showO x.t x.i).size + 1 ≤ 9223372036854775807 := (by omega)
         have s5 : (showO x.t x.i ++ (⟨#[35]⟩ : ByteArray) ++ x.r).size + 1 ≤ 9223372036854775807 := (by rw [ByteArray.size_append, ByteArray.size_append, size1]; omega)
         have s6 : (showO x.t x.i ++ (⟨#[35]⟩ : ByteArray) ++ x.r ++ (⟨#[64]⟩ : ByteArray)).size + (showS x.st x.si x.sr).size ≤ 9223372036854775807 := (by rw [ByteArray.size_append, ByteArray.size_append, ByteArray.size_append, size1, size1]; omega))
      | skip
    go_enter Try.func33, Try.ntmps33
    go_wp2_with fail
    go_region_held3 (fun W => W.cell? ⟨w.heap.size, 0, none⟩ = some (.string x.t) ∧ W.cell? ⟨w.heap.size, 1, none⟩ = some (.string x.i) ∧ W.cell? ⟨w.heap.size, 2, none⟩ = some (.string x.r) ∧ W.cell? ⟨w.heap.size, 3, none⟩ = some (.string x.st) ∧ W.cell? ⟨w.heap.size, 4, none⟩ = some (.string x.si) ∧ W.cell? ⟨w.heap.size, 5, none⟩ = some (.string x.sr) ∧ Below w.heap.size w W) (first | (go_split_ands; exact ⟨keepC hb1 (by assumption), keepC hb1 (by assumption), keepC hb1 (by assumption), keepC hb1 (by assumption), keepC hb1 (by assumption), keepC hb1 (by assumption), keepB (by assumption) hb1⟩) | (refine ⟨by simp [go_sem], by simp [go_sem], by simp [go_sem], by simp [go_sem], by simp [go_sem], by simp [go_sem], ?_⟩; exact ((Below.refl _ _).alloc (Nat.le_refl _) _)) | (refine ⟨by simp [go_sem], by simp [go_sem], by simp [go_sem], by simp [go_sem], by simp [go_sem], by simp [go_sem], ?_⟩; exact ((Below.refl _ _).alloc (Nat.le_refl _) _).drew) | go_keep)
      (first | (go_at_call 35; refine (ShowObject_calls _ _ _ (by omega) (by omega)).mono ?_; rintro e w1 ⟨rfl, hb1⟩) | (go_at_call 34; refine (ShowSubject_calls _ _ _ _ (by omega) (by omega) (by omega)).mono ?_; rintro e w1 ⟨rfl, hb1⟩))
    go_split_ands
    go_wp2_with (go_at_call 23; refine (Name_calls _ _ (by omega)).mono ?_; rintro e w' ⟨rfl, rfl⟩; rw [hn])
    go_ret
    exact ⟨by rw [hf.out]; simp [hn, ho, hs], by assumption⟩
end Go.Proofs.Ytfdhjnbmmckknaa.Nm

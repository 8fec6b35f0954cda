/-
  The contracts of Tuple, of package names and of its reference.
-/
import Derived.Test.YtfdhjnbmmckknaaNamesD
namespace Go.Proofs.Ytfdhjnbmmckknaa.Nm
open Go.RowKit Go.Proofs.Ytfdhjnbmmckknaa.B Go.Proofs.Ytfdhjnbmmckknaa.S10
set_option linter.unusedVariables false
set_option linter.unusedSimpArgs false

abbrev vTup (x : Tup × Bool) : Value := .tuple #[.agg #[.string x.1.t, .string x.1.i, .string x.1.r, .string x.1.st, .string x.1.si, .string x.1.sr], .bool x.2]
theorem tupF_is (s : ByteArray) : tupF s = if ((objF (cutF (cutF s 64).1 35).1).2.2 && ((subF (cutF s 64).2.1).2.2.2 && nameB (cutF (cutF s 64).1 35).2.1)) = true then (⟨(objF (cutF (cutF s 64).1 35).1).1, (objF (cutF (cutF s 64).1 35).1).2.1, (cutF (cutF s 64).1 35).2.1, (subF (cutF s 64).2.1).1, (subF (cutF s 64).2.1).2.1, (subF (cutF s 64).2.1).2.2.1⟩, true) else (noTup, false) := rfl
theorem nameB_eps : nameB ⟨#[]⟩ = false := by decide +kernel
theorem subF_eps : (subF ⟨#[]⟩).2.2.2 = false := by decide +kernel

set_option maxHeartbeats 8000000 in
theorem Tuple_calls (s : ByteArray) (w : World) (hs : s.size ≤ 9223372036854775807) :
    Calls Try.prog 31 #[.string s] w fun e w' => e = .returned (vTup (tupF s)) ∧ Below w.heap.size w w' := by
  have hz := cutF_size s 64
  have hz2 := cutF_size (cutF s 64).1 35
  cases ho : (objF (cutF (cutF s 64).1 35).1).2.2 <;> cases hw : (subF (cutF s 64).2.1).2.2.2 <;> cases hn : nameB (cutF (cutF s 64).1 35).2.1
  all_goals
    have hf := Lib.hid (tupF_is s)
    go_enter Try.func31, Try.ntmps31
    go_wp2_with fail
    refine (Cut_calls s 64 _ hs).mono ?_
    rintro e w' ⟨rfl, n, rfl⟩
    go_wp2_with fail
    refine (Cut_calls (cutF s 64).1 35 _ (by omega)).mono ?_
    rintro e w' ⟨rfl, n2, rfl⟩
    go_wp2_with (first | (go_at_call 23; refine (Name_calls _ _ (by omega)).mono ?_; rintro e w' ⟨rfl, rfl⟩) | (go_at_call 27; refine (Object_calls _ _ (by omega)).mono ?_; rintro e w1 ⟨rfl, hb1⟩; have HB1 : Below w.heap.size w w1 := below_then (by repeat (first | exact Below.refl _ _ | refine below_drewN ?_ _ | refine Below.alloc ?_ (Nat.le_refl _) _)) (by simp) hb1; obtain ⟨hc1, hf1⟩ := bcell hb1; have hz1 : w.heap.size < w1.heap.size := by have := hb1.size; simp at this; omega) | (go_at_call 29; refine (Subject_calls _ _ (by omega)).mono ?_; rintro e w2 ⟨rfl, hb2⟩; have HB2 : Below w.heap.size w w2 := below_then (HB1.alloc (by omega) _) (by simp; omega) hb2; obtain ⟨hc2, hf2⟩ := bcell hb2; have hz2 : w1.heap.size < w2.heap.size := (by have := hb2.size; simp at this; omega); have hz3 : w.heap.size < w1.heap.size + 1 := (by omega); have hz4 : w.heap.size < w2.heap.size := (by omega)))
    exact bodyPost_ret (v := vTup (tupF s)) (by rw [hf.out]; simp [results, Try.results31, go_sem, hc1, hz1, hc2, hz2, hz3, hz4, noTup, *]) rfl ⟨rfl, by repeat (first | (with_reducible exact HB2) | (with_reducible refine Below.setCell ?_ (by simp) _) | (with_reducible refine Below.alloc ?_ (by simp; omega) _) | (with_reducible refine below_drewN ?_ _))⟩

set_option maxHeartbeats 8000000 in
theorem refTuple_calls (s : ByteArray) (w : World) (hs : s.size ≤ 9223372036854775807) :
    Calls Try.prog 32 #[.string s] w fun e w' => e = .returned (vTup (tupF s)) ∧ Below w.heap.size w w' := by
  have hz := cutF_size s 64
  have hz2 := cutF_size (cutF s 64).1 35
  cases hi : (cutF s 64).2.2 with
  | false =>
    have hw : (subF (cutF s 64).2.1).2.2.2 = false := by rw [cutF_none hi]; exact subF_eps
    have hf := Lib.hid (tupF_is s)
    go_enter Try.func32, Try.ntmps32
    go_wp2_with fail
    refine (refCut_calls s 64 _ hs).mono ?_
    rintro e w' ⟨rfl, n, rfl⟩
    go_wp2_with fail
    refine (refCut_calls (cutF s 64).1 35 _ (by omega)).mono ?_
    rintro e w' ⟨rfl, n2, rfl⟩
    go_wp2_with (first | (go_at_call 24; refine (refName_calls _ _ (by omega)).mono ?_; rintro e w' ⟨rfl, rfl⟩) | (go_at_call 28; refine (refObject_calls _ _ (by omega)).mono ?_; rintro e w1 ⟨rfl, hb1⟩; have HB1 : Below w.heap.size w w1 := below_then (by repeat (first | exact Below.refl _ _ | refine below_drewN ?_ _ | refine Below.alloc ?_ (Nat.le_refl _) _)) (by simp) hb1; obtain ⟨hc1, hf1⟩ := bcell hb1; have hz1 : w.heap.size < w1.heap.size := by have := hb1.size; simp at this; omega) | (go_at_call 30; refine (refSubject_calls _ _ (by omega)).mono ?_; rintro e w2 ⟨rfl, hb2⟩; have HB2 : Below w.heap.size w w2 := below_then (HB1.alloc (by omega) _) (by simp; omega) hb2; obtain ⟨hc2, hf2⟩ := bcell hb2; have hz2 : w1.heap.size < w2.heap.size := (by have := hb2.size; simp at this; omega); have hz3 : w.heap.size < w1.heap.size + 1 := (by omega); have hz4 : w.heap.size < w2.heap.size := (by omega)))
    exact bodyPost_ret (v := vTup (tupF s)) (by rw [hf.out]; simp [results, Try.results32, go_sem, hc1, hz1, hc2, hz2, hz3, hz4, noTup, *]) rfl ⟨rfl, by repeat (first | (with_reducible exact HB2) | (with_reducible refine Below.setCell ?_ (by simp) _) | (with_reducible refine Below.alloc ?_ (by simp; omega) _) | (with_reducible refine below_drewN ?_ _))⟩
  | true =>
  cases hi2 : (cutF (cutF s 64).1 35).2.2 with
  | false =>
    have hn : nameB (cutF (cutF s 64).1 35).2.1 = false := by rw [cutF_none hi2]; exact nameB_eps
    have hf := Lib.hid (tupF_is s)
    go_enter Try.func32, Try.ntmps32
    go_wp2_with fail
    refine (refCut_calls s 64 _ hs).mono ?_
    rintro e w' ⟨rfl, n, rfl⟩
    go_wp2_with fail
    refine (refCut_calls (cutF s 64).1 35 _ (by omega)).mono ?_
    rintro e w' ⟨rfl, n2, rfl⟩
    go_wp2_with (first | (go_at_call 24; refine (refName_calls _ _ (by omega)).mono ?_; rintro e w' ⟨rfl, rfl⟩) | (go_at_call 28; refine (refObject_calls _ _ (by omega)).mono ?_; rintro e w1 ⟨rfl, hb1⟩; have HB1 : Below w.heap.size w w1 := below_then (by repeat (first | exact Below.refl _ _ | refine below_drewN ?_ _ | refine Below.alloc ?_ (Nat.le_refl _) _)) (by simp) hb1; obtain ⟨hc1, hf1⟩ := bcell hb1; have hz1 : w.heap.size < w1.heap.size := by have := hb1.size; simp at this; omega) | (go_at_call 30; refine (refSubject_calls _ _ (by omega)).mono ?_; rintro e w2 ⟨rfl, hb2⟩; have HB2 : Below w.heap.size w w2 := below_then (HB1.alloc (by omega) _) (by simp; omega) hb2; obtain ⟨hc2, hf2⟩ := bcell hb2; have hz2 : w1.heap.size < w2.heap.size := (by have := hb2.size; simp at this; omega); have hz3 : w.heap.size < w1.heap.size + 1 := (by omega); have hz4 : w.heap.size < w2.heap.size := (by omega)))
    exact bodyPost_ret (v := vTup (tupF s)) (by rw [hf.out]; simp [results, Try.results32, go_sem, hc1, hz1, hc2, hz2, hz3, hz4, noTup, *]) rfl ⟨rfl, by repeat (first | (with_reducible exact HB2) | (with_reducible refine Below.setCell ?_ (by simp) _) | (with_reducible refine Below.alloc ?_ (by simp; omega) _) | (with_reducible refine below_drewN ?_ _))⟩
  | true =>
  cases ho : (objF (cutF (cutF s 64).1 35).1).2.2 <;> cases hw : (subF (cutF s 64).2.1).2.2.2 <;> cases hn : nameB (cutF (cutF s 64).1 35).2.1
  all_goals
    have hf := Lib.hid (tupF_is s)
    go_enter Try.func32, Try.ntmps32
    go_wp2_with fail
    refine (refCut_calls s 64 _ hs).mono ?_
    rintro e w' ⟨rfl, n, rfl⟩
    go_wp2_with fail
    refine (refCut_calls (cutF s 64).1 35 _ (by omega)).mono ?_
    rintro e w' ⟨rfl, n2, rfl⟩
    go_wp2_with (first | (go_at_call 24; refine (refName_calls _ _ (by omega)).mono ?_; rintro e w' ⟨rfl, rfl⟩) | (go_at_call 28; refine (refObject_calls _ _ (by omega)).mono ?_; rintro e w1 ⟨rfl, hb1⟩; have HB1 : Below w.heap.size w w1 := below_then (by repeat (first | exact Below.refl _ _ | refine below_drewN ?_ _ | refine Below.alloc ?_ (Nat.le_refl _) _)) (by simp) hb1; obtain ⟨hc1, hf1⟩ := bcell hb1; have hz1 : w.heap.size < w1.heap.size := by have := hb1.size; simp at this; omega) | (go_at_call 30; refine (refSubject_calls _ _ (by omega)).mono ?_; rintro e w2 ⟨rfl, hb2⟩; have HB2 : Below w.heap.size w w2 := below_then (HB1.alloc (by omega) _) (by simp; omega) hb2; obtain ⟨hc2, hf2⟩ := bcell hb2; have hz2 : w1.heap.size < w2.heap.size := (by have := hb2.size; simp at this; omega); have hz3 : w.heap.size < w1.heap.size + 1 := (by omega); have hz4 : w.heap.size < w2.heap.size := (by omega)))
    exact bodyPost_ret (v := vTup (tupF s)) (by rw [hf.out]; simp [results, Try.results32, go_sem, hc1, hz1, hc2, hz2, hz3, hz4, noTup, *]) rfl ⟨rfl, by repeat (first | (with_reducible exact HB2) | (with_reducible refine Below.setCell ?_ (by simp) _) | (with_reducible refine Below.alloc ?_ (by simp; omega) _) | (with_reducible refine below_drewN ?_ _))⟩
end Go.Proofs.Ytfdhjnbmmckknaa.Nm

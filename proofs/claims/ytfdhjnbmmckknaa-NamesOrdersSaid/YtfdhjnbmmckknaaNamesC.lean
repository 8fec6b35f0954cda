/-
  The contracts of Object and Subject, of package names and of its reference.
-/
import Derived.Test.YtfdhjnbmmckknaaNamesB
namespace Go.Proofs.Ytfdhjnbmmckknaa.Nm
open Go.RowKit Go.Proofs.Ytfdhjnbmmckknaa.B Go.Proofs.Ytfdhjnbmmckknaa.S10
set_option linter.unusedVariables false
set_option linter.unusedSimpArgs false

abbrev vObj (x : ByteArray × ByteArray × Bool) : Value := .tuple #[.agg #[.string x.1, .string x.2.1], .bool x.2.2]
abbrev vSub (x : ByteArray × ByteArray × ByteArray × Bool) : Value := .tuple #[.agg #[.string x.1, .string x.2.1, .string x.2.2.1], .bool x.2.2.2]

set_option maxHeartbeats 1000000 in
theorem Object_calls (s : ByteArray) (w : World) (hs : s.size ≤ 9223372036854775807) :
    Calls Try.prog 27 #[.string s] w fun e w' => e = .returned (vObj (objF s)) ∧ Below w.heap.size w w' := by
  have hz := cutF_size s 58
  cases hn : nameB (cutF s 58).1 with
  | false =>
    have hf : Hid (objF s = (eps, eps, false)) := Lib.hid (by unfold objF; rw [hn]; rfl)
    go_enter Try.func27, Try.ntmps27
    go_wp2_with (first | (go_at_call 50; refine (Cut_calls s 58 _ hs).mono ?_; rintro e w' ⟨rfl, n, rfl⟩) | (go_at_call 23; refine (Name_calls _ _ (by omega)).mono ?_; rintro e w' ⟨rfl, rfl⟩) | (go_at_call 25; refine (ID_calls _ _ (by omega)).mono ?_; rintro e w' ⟨rfl, rfl⟩))
    exact bodyPost_ret (v := vObj (eps, eps, false)) (by simp [results, Try.results27, go_sem]) rfl ⟨by rw [hf.out], by repeat (first | exact Below.refl _ _ | (with_reducible assumption) | refine Below.setCell ?_ (by simp) _ | refine Below.alloc ?_ (by simp) _ | refine below_drewN ?_ _)⟩
  | true =>
    cases hi : idB (cutF s 58).2.1 with
    | false =>
      have hf : Hid (objF s = (eps, eps, false)) := Lib.hid (by unfold objF; rw [hn, hi]; rfl)
      go_enter Try.func27, Try.ntmps27
      go_wp2_with (first | (go_at_call 50; refine (Cut_calls s 58 _ hs).mono ?_; rintro e w' ⟨rfl, n, rfl⟩) | (go_at_call 23; refine (Name_calls _ _ (by omega)).mono ?_; rintro e w' ⟨rfl, rfl⟩) | (go_at_call 25; refine (ID_calls _ _ (by omega)).mono ?_; rintro e w' ⟨rfl, rfl⟩))
      exact bodyPost_ret (v := vObj (eps, eps, false)) (by simp [results, Try.results27, go_sem]) rfl ⟨by rw [hf.out], by repeat (first | exact Below.refl _ _ | (with_reducible assumption) | refine Below.setCell ?_ (by simp) _ | refine Below.alloc ?_ (by simp) _ | refine below_drewN ?_ _)⟩
    | true =>
      have hf : Hid (objF s = ((cutF s 58).1, (cutF s 58).2.1, true)) := Lib.hid (by unfold objF; rw [hn, hi]; rfl)
      go_enter Try.func27, Try.ntmps27
      go_wp2_with (first | (go_at_call 50; refine (Cut_calls s 58 _ hs).mono ?_; rintro e w' ⟨rfl, n, rfl⟩) | (go_at_call 23; refine (Name_calls _ _ (by omega)).mono ?_; rintro e w' ⟨rfl, rfl⟩) | (go_at_call 25; refine (ID_calls _ _ (by omega)).mono ?_; rintro e w' ⟨rfl, rfl⟩))
      exact bodyPost_ret (v := vObj ((cutF s 58).1, (cutF s 58).2.1, true)) (by simp [results, Try.results27, go_sem]) rfl ⟨by rw [hf.out], by repeat (first | exact Below.refl _ _ | (with_reducible assumption) | refine Below.setCell ?_ (by simp) _ | refine Below.alloc ?_ (by simp) _ | refine below_drewN ?_ _)⟩
theorem cutF_none {s : ByteArray} {c : UInt8} (h : (cutF s c).2.2 = false) : (cutF s c).2.1 = ⟨#[]⟩ := by
  revert h; unfold cutF; split <;> simp

set_option maxHeartbeats 1000000 in
theorem refObject_calls (s : ByteArray) (w : World) (hs : s.size ≤ 9223372036854775807) :
    Calls Try.prog 28 #[.string s] w fun e w' => e = .returned (vObj (objF s)) ∧ Below w.heap.size w w' := by
  have hz := cutF_size s 58
  cases hc : (cutF s 58).2.2 with
  | false =>
    have hf : Hid (objF s = (eps, eps, false)) := Lib.hid (by
      have : idB (cutF s 58).2.1 = false := by rw [cutF_none hc]; decide
      unfold objF; rw [this, Bool.and_false]; rfl)
    go_enter Try.func28, Try.ntmps28
    go_wp2_with (first | (go_at_call 51; refine (refCut_calls s 58 _ hs).mono ?_; rintro e w' ⟨rfl, n, rfl⟩) | (go_at_call 24; refine (refName_calls _ _ (by omega)).mono ?_; rintro e w' ⟨rfl, rfl⟩) | (go_at_call 26; refine (refID_calls _ _ (by omega)).mono ?_; rintro e w' ⟨rfl, rfl⟩))
    exact bodyPost_ret (v := vObj (eps, eps, false)) (by simp [results, Try.results28, go_sem]) rfl ⟨by rw [hf.out], by repeat (first | exact Below.refl _ _ | (with_reducible assumption) | refine Below.setCell ?_ (by simp) _ | refine Below.alloc ?_ (by simp) _ | refine below_drewN ?_ _)⟩
  | true =>
    cases hn : nameB (cutF s 58).1 with
    | false =>
      have hf : Hid (objF s = (eps, eps, false)) := Lib.hid (by unfold objF; rw [hn]; rfl)
      go_enter Try.func28, Try.ntmps28
      go_wp2_with (first | (go_at_call 51; refine (refCut_calls s 58 _ hs).mono ?_; rintro e w' ⟨rfl, n, rfl⟩) | (go_at_call 24; refine (refName_calls _ _ (by omega)).mono ?_; rintro e w' ⟨rfl, rfl⟩) | (go_at_call 26; refine (refID_calls _ _ (by omega)).mono ?_; rintro e w' ⟨rfl, rfl⟩))
      exact bodyPost_ret (v := vObj (eps, eps, false)) (by simp [results, Try.results28, go_sem]) rfl ⟨by rw [hf.out], by repeat (first | exact Below.refl _ _ | (with_reducible assumption) | refine Below.setCell ?_ (by simp) _ | refine Below.alloc ?_ (by simp) _ | refine below_drewN ?_ _)⟩
    | true =>
    cases hi : idB (cutF s 58).2.1 with
    | false =>
      have hf : Hid (objF s = (eps, eps, false)) := Lib.hid (by unfold objF; rw [hn, hi]; rfl)
      go_enter Try.func28, Try.ntmps28
      go_wp2_with (first | (go_at_call 51; refine (refCut_calls s 58 _ hs).mono ?_; rintro e w' ⟨rfl, n, rfl⟩) | (go_at_call 24; refine (refName_calls _ _ (by omega)).mono ?_; rintro e w' ⟨rfl, rfl⟩) | (go_at_call 26; refine (refID_calls _ _ (by omega)).mono ?_; rintro e w' ⟨rfl, rfl⟩))
      exact bodyPost_ret (v := vObj (eps, eps, false)) (by simp [results, Try.results28, go_sem]) rfl ⟨by rw [hf.out], by repeat (first | exact Below.refl _ _ | (with_reducible assumption) | refine Below.setCell ?_ (by simp) _ | refine Below.alloc ?_ (by simp) _ | refine below_drewN ?_ _)⟩
    | true =>
      have hf : Hid (objF s = ((cutF s 58).1, (cutF s 58).2.1, true)) := Lib.hid (by unfold objF; rw [hn, hi]; rfl)
      go_enter Try.func28, Try.ntmps28
      go_wp2_with (first | (go_at_call 51; refine (refCut_calls s 58 _ hs).mono ?_; rintro e w' ⟨rfl, n, rfl⟩) | (go_at_call 24; refine (refName_calls _ _ (by omega)).mono ?_; rintro e w' ⟨rfl, rfl⟩) | (go_at_call 26; refine (refID_calls _ _ (by omega)).mono ?_; rintro e w' ⟨rfl, rfl⟩))
      exact bodyPost_ret (v := vObj ((cutF s 58).1, (cutF s 58).2.1, true)) (by simp [results, Try.results28, go_sem]) rfl ⟨by rw [hf.out], by repeat (first | exact Below.refl _ _ | (with_reducible assumption) | refine Below.setCell ?_ (by simp) _ | refine Below.alloc ?_ (by simp) _ | refine below_drewN ?_ _)⟩
end Go.Proofs.Ytfdhjnbmmckknaa.Nm

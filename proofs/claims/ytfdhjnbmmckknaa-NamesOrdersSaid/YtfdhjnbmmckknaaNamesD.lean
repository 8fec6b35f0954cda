/-
  The contracts of Subject, of package names and of its reference.
-/
import Derived.Test.YtfdhjnbmmckknaaNamesC
namespace Go.Proofs.Ytfdhjnbmmckknaa.Nm
open Go.RowKit Go.Proofs.Ytfdhjnbmmckknaa.B Go.Proofs.Ytfdhjnbmmckknaa.S10
set_option linter.unusedVariables false
set_option linter.unusedSimpArgs false


set_option maxHeartbeats 1000000 in
theorem Subject_calls (s : ByteArray) (w : World) (hs : s.size ≤ 9223372036854775807) :
    Calls Try.prog 29 #[.string s] w fun e w' => e = .returned (vSub (subF s)) ∧ Below w.heap.size w w' := by
  have hz := cutF_size s 35
  cases ho : (objF (cutF s 35).1).2.2 <;> cases hc : (cutF s 35).2.2 <;> cases hn : nameB (cutF s 35).2.1
  all_goals
    have hf := Lib.hid (show subF s = if ((objF (cutF s 35).1).2.2 && (!(cutF s 35).2.2 || nameB (cutF s 35).2.1)) = true then ((objF (cutF s 35).1).1, (objF (cutF s 35).1).2.1, (cutF s 35).2.1, true) else (eps, eps, eps, false) from rfl)
    go_enter Try.func29, Try.ntmps29
    go_wp2_with (first | (go_at_call 50; refine (Cut_calls s 35 _ hs).mono ?_; rintro e w' ⟨rfl, n, rfl⟩) | (go_at_call 23; refine (Name_calls _ _ (by omega)).mono ?_; rintro e w' ⟨rfl, rfl⟩) | (go_at_call 27; refine (Object_calls _ _ (by omega)).mono ?_; rintro e w1 ⟨rfl, hb1⟩; have HB1 : Below w.heap.size w w1 := below_then (below_drewN ((Below.refl _ _).alloc (Nat.le_refl _) _) _) (by simp) hb1; obtain ⟨hc1, hf1⟩ := bcell hb1; have hz1 : w.heap.size < w1.heap.size := by have := hb1.size; simp at this; omega))
    exact bodyPost_ret (v := vSub (subF s)) (by rw [hf.out]; simp [results, Try.results29, go_sem, ho, hc, hn, hc1, hz1]) rfl ⟨rfl, by repeat (first | (with_reducible exact HB1) | (with_reducible refine Below.setCell ?_ (by simp) _) | (with_reducible refine Below.alloc ?_ (by simp; omega) _) | (with_reducible refine below_drewN ?_ _))⟩

set_option maxHeartbeats 1000000 in
theorem refSubject_calls (s : ByteArray) (w : World) (hs : s.size ≤ 9223372036854775807) :
    Calls Try.prog 30 #[.string s] w fun e w' => e = .returned (vSub (subF s)) ∧ Below w.heap.size w w' := by
  have hz := cutF_size s 35
  cases ho : (objF (cutF s 35).1).2.2 <;> cases hc : (cutF s 35).2.2 <;> cases hn : nameB (cutF s 35).2.1
  all_goals
    have hf := Lib.hid (show subF s = if ((objF (cutF s 35).1).2.2 && (!(cutF s 35).2.2 || nameB (cutF s 35).2.1)) = true then ((objF (cutF s 35).1).1, (objF (cutF s 35).1).2.1, (cutF s 35).2.1, true) else (eps, eps, eps, false) from rfl)
    go_enter Try.func30, Try.ntmps30
    go_wp2_with (first | (go_at_call 51; refine (refCut_calls s 35 _ hs).mono ?_; rintro e w' ⟨rfl, n, rfl⟩) | (go_at_call 24; refine (refName_calls _ _ (by omega)).mono ?_; rintro e w' ⟨rfl, rfl⟩) | (go_at_call 28; refine (refObject_calls _ _ (by omega)).mono ?_; rintro e w1 ⟨rfl, hb1⟩; have HB1 : Below w.heap.size w w1 := below_then (below_drewN ((Below.refl _ _).alloc (Nat.le_refl _) _) _) (by simp) hb1; obtain ⟨hc1, hf1⟩ := bcell hb1; have hz1 : w.heap.size < w1.heap.size := by have := hb1.size; simp at this; omega))
    exact bodyPost_ret (v := vSub (subF s)) (by rw [hf.out]; simp [results, Try.results30, go_sem, ho, hc, hn, hc1, hz1]) rfl ⟨rfl, by repeat (first | (with_reducible exact HB1) | (with_reducible refine Below.setCell ?_ (by simp) _) | (with_reducible refine Below.alloc ?_ (by simp; omega) _) | (with_reducible refine below_drewN ?_ _))⟩
end Go.Proofs.Ytfdhjnbmmckknaa.Nm

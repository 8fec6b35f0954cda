/-
  JSON is the same as itself.
-/
import Derived.Test.YtminegmjklehnaaGreatDoorJsonRs
import Derived.Test.YtminegmjklehnaaGreatDoorJsonPr
namespace Go.Proofs.YtminegmjklehnaaGreatDoor.J
open Go.RowKit Go.Proofs.YtminegmjklehnaaGreatDoor.B
open Go.Proofs.YtminegmjklehnaaGreatDoor.M hiding Bs
open Go.Proofs.YtminegmjklehnaaGreatDoor.C (QRow Turn)
set_option linter.unusedVariables false
set_option linter.unusedSimpArgs false

theorem same_refl : ∀ j : Js, sameJ j j = true
  | .mk k n t names nk kid => by
    rw [sameJ_at, beq_self_eq_true, Bool.true_and]
    split
    · rfl
    split
    · simp
    split
    · simp
    · rw [beq_self_eq_true, Bool.or_true, Bool.true_and]
      unfold kidsEq
      rw [dif_pos rfl]
      exact andTo_true (fun i => same_refl (kid i))
end Go.Proofs.YtminegmjklehnaaGreatDoor.J

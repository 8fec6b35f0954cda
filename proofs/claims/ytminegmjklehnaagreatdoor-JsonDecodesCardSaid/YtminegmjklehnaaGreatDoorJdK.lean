/-
  The document's reader of JSON: numbers. Printed by wip/tools/gen_jd_num.py.
-/
import Derived.Test.YtminegmjklehnaaGreatDoorJdI
import Derived.Test.YtminegmjklehnaaGreatDoorJdJ
namespace Go.Proofs.YtminegmjklehnaaGreatDoor.J
open Go.RowKit Go.Proofs.YtminegmjklehnaaGreatDoor.B
open Go.Proofs.YtminegmjklehnaaGreatDoor.M hiding Bs
open Go.Proofs.YtminegmjklehnaaGreatDoor.C (QRow Turn)
set_option linter.unusedVariables false
set_option linter.unusedSimpArgs false

theorem rnumber_calls {w : World} {rb : Nat} {b : Bs} {s : St} (h : RS w rb b s) : Calls Tryz.prog 53 #[.pointer (some ⟨rb, 0, none⟩)] w (NmRet w rb b (numS s)) := by
  cases s with
  | error d => exact rnumber_err h
  | ok L =>
    by_cases x : headV (.ok L) = 45
    · exact rnumber_neg h x
    · exact rnumber_pos h x

end Go.Proofs.YtminegmjklehnaaGreatDoor.J

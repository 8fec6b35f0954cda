/-
  JSON, plain: the library's texts are the written ones (Itoa, Join, FormatBool); snoc laws for show's loop.
-/
import Derived.Test.YtminegmjklehnaaGreatDoorJsonQu
import Derived.Lib.ItoaNum
import Derived.Lib.Join
namespace Go.Proofs.YtminegmjklehnaaGreatDoor.J
open Go.RowKit Go.Proofs.YtminegmjklehnaaGreatDoor.B
open Go.Proofs.YtminegmjklehnaaGreatDoor.M hiding Bs
set_option linter.unusedVariables false
set_option linter.unusedSimpArgs false

theorem natT_digits : ∀ (f n : Nat), n < f → natT f n = Lib.decDigits n
  | 0, n, h => by omega
  | f + 1, n, h => by
    rw [natT, Lib.decDigits]
    by_cases hn : n < 10
    · rw [if_pos hn, dif_pos hn]
    · rw [if_neg hn, dif_neg hn, natT_digits f (n / 10) (by omega)]
theorem intT_itoa (n : Int) : intT n = Lib.itoa n := by
  unfold intT Lib.itoa
  rw [natT_digits _ _ (Nat.lt_succ_self _)]
  by_cases h : n < 0
  · rw [if_pos h, if_pos h]
  · rw [if_neg h, if_neg h, show n.natAbs = n.toNat by omega]
theorem commas_tail (x : Bs) : ∀ l : List Bs, commas (x :: l) = x ++ Lib.joinTail [44] l
  | [] => by simp [commas, Lib.joinTail]
  | y :: l => by
    rw [commas, commas_tail y l]
    simp [Lib.joinTail]
theorem commas_join (l : List Bs) : commas l = Lib.join l [44] := by
  cases l with
  | nil => rfl
  | cons x l => rw [commas_tail, Lib.join_cons]
theorem bool_text (b : Bool) : Lib.formatBool b = if b then [116, 114, 117, 101] else [102, 97, 108, 115, 101] := by
  cases b <;> decide
end Go.Proofs.YtminegmjklehnaaGreatDoor.J

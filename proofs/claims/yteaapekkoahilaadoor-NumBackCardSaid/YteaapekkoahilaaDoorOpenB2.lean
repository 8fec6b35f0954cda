/-
  The two errors of strconv out of the row's condition.
-/
import Derived.Test.YteaapekkoahilaaDoorOpenBs
import Derived.Test.YteaapekkoahilaaDoorNumV
namespace Go.Proofs.YteaapekkoahilaaDoor.OpenBs
open Go.ChangeShapes Go.WideShapes Go.ChangeAt Go.RowKit
open Go.Proofs.YteaapekkoahilaaDoor.Nu Go.Proofs.YteaapekkoahilaaDoor.S01
def laidL2 : List (String × DataW Unit) := [("math/bits.deBruijn32tab", Rows.laid_math_bits_deBruijn32tab), ("math/bits.deBruijn64tab", Rows.laid_math_bits_deBruijn64tab), ("internal/strconv.uint64pow10", Rows.laid_internal_strconv_uint64pow10), ("strconv.ErrRange", Rows.laid_strconv_ErrRange), ("strconv.ErrSyntax", Rows.laid_strconv_ErrSyntax)]
theorem door_met2 (os : Os) (args : Array Value) : laidMetH Tryd.prog laidL2 ((World.doorLaid Tryd.prog 400 os).forCall (fun _ _ => 0) ⟨#[], args, []⟩).memory :=
  laidMetH_of_parts3 (fuel := 30) (laidMet_of_run' 30 (by kernel_rfl) (by kernel_rfl)) (by kernel_rfl) (by kernel_rfl)
theorem star : "*" ++ "errors.errorString" = "*errors.errorString" := by decide
theorem row_err (u : TypeId) (h : Tryd.prog.typeName? 3 u = some "*errors.errorString") : u = 79 :=
  typeName_ptr_named (nm := "errors.errorString") (by rw [star]; kernel_rfl) (by kernel_rfl) (by decide) u (by rw [star]; exact h)
theorem met2_of_laid {W : World} (h : laidMetH Tryd.prog laidL2 W) : Tab W ∧ Errs W := by
  rw [MakeChecks.laidMetH_plain _ _ _ (by kernel_rfl)] at h
  have h2 := h.tail.tail
  have h3 := h2.tail
  have h4 := h3.tail
  refine ⟨Lib.tabIs_of_head (t := 84) (e := 52) (n := 20) (g := 2) (by kernel_rfl) (by kernel_rfl) Tryd.underlying84 Tryd.underlying52 (by kernel_rfl) (by kernel_rfl) h2, ?_, ?_⟩
  · obtain ⟨a, s, hv, _⟩ := laid_sentinel (g := 0) h4 (by kernel_rfl) (by kernel_rfl) Tryd.underlying54 row_err Tryd.underlying79 Tryd.underlying81 rfl rfl Tryd.underlying9 (by kernel_rfl) (by kernel_rfl)
    exact ⟨_, _, by simpa using World.var?_cell (by kernel_rfl) hv 0⟩
  · obtain ⟨a, s, hv, _⟩ := laid_sentinel (g := 1) h3 (by kernel_rfl) (by kernel_rfl) Tryd.underlying54 row_err Tryd.underlying79 Tryd.underlying81 rfl rfl Tryd.underlying9 (by kernel_rfl) (by kernel_rfl)
    exact ⟨_, _, by simpa using World.var?_cell (by kernel_rfl) hv 0⟩
end Go.Proofs.YteaapekkoahilaaDoor.OpenBs

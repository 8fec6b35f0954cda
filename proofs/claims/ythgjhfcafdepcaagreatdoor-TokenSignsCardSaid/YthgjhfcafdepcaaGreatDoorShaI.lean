/-
  SHA-256, the document's: constants, start, the words of a block.
-/
import Derived.Test.YthgjhfcafdepcaaGreatDoorShaH
namespace Go.Proofs.YthgjhfcafdepcaaGreatDoor.Sh
open Go.RowKit Go.Proofs.YthgjhfcafdepcaaGreatDoor.B
open Go.Proofs.YthgjhfcafdepcaaGreatDoor.M hiding Bs
open Go.Proofs.YthgjhfcafdepcaaGreatDoor.C (QRow Turn)
set_option linter.unusedVariables false
set_option linter.unusedSimpArgs false

def sZ : List Int := [1779033703, 3144134277, 1013904242, 2773480762, 1359893119, 2600822924, 528734635, 1541459225]
theorem sZ_sV : (sZ.map (Value.int .u32)).toArray = sV start8 := by kernel_rfl
attribute [local irreducible] wpList Code.wp kZ sZ z64
set_option maxRecDepth 100000 in
set_option maxHeartbeats 4000000 in
theorem dconst_calls (w : World) : Calls Tryz.prog 88 #[] w fun e w' => e = .returned (.slice (some ⟨w.heap.size, 0, none⟩) 64 64) ∧ w' = w.alloc (.cells kV 89) := by
  go_enter Tryz.func88, Tryz.ntmps88
  go_wp2_with (refine Go.Great.wpList_buildFlat rfl 96 89 64 _ rfl .u32 kZ (by kernel_rfl) (by kernel_rfl) (by kernel_rfl) (by kernel_rfl) (by decide) (by decide) (by kernel_rfl) ?_; rw [kZ_kV])
  go_ret
  exact ⟨rfl, rfl⟩
set_option maxRecDepth 100000 in
set_option maxHeartbeats 4000000 in
theorem dstart_calls (w : World) : Calls Tryz.prog 73 #[] w fun e w' => e = .returned (.slice (some ⟨w.heap.size, 0, none⟩) 8 8) ∧ w' = w.alloc (.cells (sV start8) 89) := by
  go_enter Tryz.func73, Tryz.ntmps73
  go_wp2_with (refine Go.Great.wpList_buildFlat rfl 96 89 8 _ rfl .u32 sZ (by kernel_rfl) (by kernel_rfl) (by kernel_rfl) (by kernel_rfl) (by decide) (by decide) (by kernel_rfl) ?_; rw [sZ_sV])
  go_ret
  exact ⟨rfl, rfl⟩
end Go.Proofs.YthgjhfcafdepcaaGreatDoor.Sh

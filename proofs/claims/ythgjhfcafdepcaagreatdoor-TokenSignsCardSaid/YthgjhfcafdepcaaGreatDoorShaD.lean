/-
  SHA-256: New, Copy; what Write adds (the program's).
-/
import Derived.Test.YthgjhfcafdepcaaGreatDoorShaC
namespace Go.Proofs.YthgjhfcafdepcaaGreatDoor.Sh
open Go.RowKit Go.Proofs.YthgjhfcafdepcaaGreatDoor.B
open Go.Proofs.YthgjhfcafdepcaaGreatDoor.M hiding Bs
open Go.Proofs.YthgjhfcafdepcaaGreatDoor.C (QRow Turn)
set_option linter.unusedVariables false
set_option linter.unusedSimpArgs false

def ov0 : Bs := List.replicate 64 0
theorem built_new : Tryz.prog.built 94 [(0, .agg (sV start8))] = some (stL start8 ov0 0).toArray := by kernel_rfl
theorem fold_new : Array.foldl (fun (cs : Array Value) (x : Value × Nat) => cs.setIfInBounds x.snd x.fst) Tryz.zeroCells94 (sV start8).zipIdx 0 (sV start8).size = (stL start8 ov0 0).toArray := by kernel_rfl
set_option maxRecDepth 100000 in
set_option maxHeartbeats 4000000 in
theorem New_calls (w : World) : Calls Tryz.prog 50 #[] w fun e w' => ∃ sb, e = .returned (.pointer (some ⟨sb, 0, none⟩)) ∧ StB w' sb start8 ov0 0 ∧ w.heap.size ≤ sb ∧ Below w.heap.size w w' := by
  go_enter Tryz.func50, Tryz.ntmps50
  go_wp2_with fail
  refine (start_calls _).mono ?_
  rintro e w1 ⟨rfl, hb⟩
  have HG := Lib.hid (heap_alloc_new w1 (.cells (stL start8 ov0 0).toArray 94))
  have HB := Lib.hid (hb.alloc hb.size (.cells (stL start8 ov0 0).toArray 94))
  have hsz := hb.size
  clear hb
  obtain ⟨SA, hSA⟩ : ∃ SA, (stL start8 ov0 0).toArray = SA := ⟨_, rfl⟩
  rw [hSA] at HG HB
  have HSA := Lib.hid hSA
  clear hSA
  go_wp2
  rw [fold_new, HSA.out]
  go_ret
  exact ⟨w1.heap.size, rfl, ⟨by rw [HSA.out]; exact HG.out, rfl⟩, hsz, HB.out⟩
theorem state_cells (s : V8) (ov : Bs) (n : Nat) : (Tryz.prog.info? 94).map (·.size) = some 73 := by kernel_rfl
end Go.Proofs.YthgjhfcafdepcaaGreatDoor.Sh

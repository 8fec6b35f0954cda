/-
  Those that are made: Text, Number, Bool, List, Object.
-/
import Derived.Test.YtminegmjklehnaaGreatDoorJsonA
namespace Go.Proofs.YtminegmjklehnaaGreatDoor.J
open Go.RowKit Go.Proofs.YtminegmjklehnaaGreatDoor.B
open Go.Proofs.YtminegmjklehnaaGreatDoor.M hiding Bs
open Go.Proofs.YtminegmjklehnaaGreatDoor.C (QRow Turn)
set_option linter.unusedVariables false
set_option linter.unusedSimpArgs false

abbrev jcs (k n : Int) (t : Bs) (A : Option Addr) (an ac : Nat) (B : Option Addr) (bn bc : Nat) : Array Value := #[.int .i64 k, .int .i64 n, vs t, .slice A an ac, .slice B bn bc]
abbrev jAgg (k n : Int) (t : Bs) (A : Option Addr) (an ac : Nat) (B : Option Addr) (bn bc : Nat) : Value := .agg #[.int .i64 k, .int .i64 n, vs t, .slice A an ac, .slice B bn bc]
def VRet (w : World) (v : Value) (e : Ending) (w' : World) : Prop := e = .returned v ∧ Below w.heap.size w w'
set_option maxRecDepth 100000 in
set_option maxHeartbeats 1000000 in
theorem Number_calls (n : Int) (w : World) : Calls Tryz.prog 17 #[.int .i64 n] w (VRet w (jAgg 2 n [] none 0 0 none 0 0)) := by
  have HG := Lib.hid (heap_alloc_new w (.cells (jcs 2 n [] none 0 0 none 0 0) 27))
  go_enter Tryz.func17, Tryz.ntmps17
  go_wp2
  refine bodyPost_ret (results_cell_row rfl _ _ w.heap.size 27 (jcs 2 n [] none 0 0 none 0 0) (0, 0) _ rfl HG.out Tryz.underlying27 rfl (by kernel_rfl)) rfl ?_
  exact ⟨rfl, (Below.refl _ w).alloc (Nat.le_refl _) _⟩
set_option maxRecDepth 100000 in
set_option maxHeartbeats 1000000 in
theorem Text_calls (t : Bs) (w : World) : Calls Tryz.prog 15 #[vs t] w (VRet w (jAgg 3 0 t none 0 0 none 0 0)) := by
  have HG := Lib.hid (heap_alloc_new w (.cells (jcs 3 0 t none 0 0 none 0 0) 27))
  go_enter Tryz.func15, Tryz.ntmps15
  go_wp2
  refine bodyPost_ret (results_cell_row rfl _ _ w.heap.size 27 (jcs 3 0 t none 0 0 none 0 0) (0, 0) _ rfl HG.out Tryz.underlying27 rfl (by kernel_rfl)) rfl ?_
  exact ⟨rfl, (Below.refl _ w).alloc (Nat.le_refl _) _⟩
set_option maxRecDepth 100000 in
set_option maxHeartbeats 1000000 in
theorem List_calls (B : Option Addr) (n c : Nat) (w : World) : Calls Tryz.prog 21 #[.slice B n c] w (VRet w (jAgg 4 0 [] none 0 0 B n c)) := by
  have HG := Lib.hid (heap_alloc_new w (.cells (jcs 4 0 [] none 0 0 B n c) 27))
  go_enter Tryz.func21, Tryz.ntmps21
  go_wp2
  refine bodyPost_ret (results_cell_row rfl _ _ w.heap.size 27 (jcs 4 0 [] none 0 0 B n c) (0, 0) _ rfl HG.out Tryz.underlying27 rfl (by kernel_rfl)) rfl ?_
  exact ⟨rfl, (Below.refl _ w).alloc (Nat.le_refl _) _⟩
set_option maxRecDepth 100000 in
set_option maxHeartbeats 1000000 in
theorem Object_calls (A : Option Addr) (n c : Nat) (B : Option Addr) (m d : Nat) (w : World) : Calls Tryz.prog 23 #[.slice A n c, .slice B m d] w (VRet w (jAgg 5 0 [] A n c B m d)) := by
  have HG := Lib.hid (heap_alloc_new w (.cells (jcs 5 0 [] A n c B m d) 27))
  go_enter Tryz.func23, Tryz.ntmps23
  go_wp2
  refine bodyPost_ret (results_cell_row rfl _ _ w.heap.size 27 (jcs 5 0 [] A n c B m d) (0, 0) _ rfl HG.out Tryz.underlying27 rfl (by kernel_rfl)) rfl ?_
  exact ⟨rfl, (Below.refl _ w).alloc (Nat.le_refl _) _⟩
set_option maxRecDepth 100000 in
set_option maxHeartbeats 1000000 in
theorem Bool_calls (b : Bool) (w : World) : Calls Tryz.prog 19 #[.bool b] w (VRet w (jAgg 1 (if b then 1 else 0) [] none 0 0 none 0 0)) := by
  have HG := Lib.hid (fun q => (alloc_old (.cells (jcs 1 q [] none 0 0 none 0 0) 27) (lt_of_heap (heap_alloc_new w (.cells (jcs 1 q [] none 0 0 none 0 0) 27)))).trans (heap_alloc_new w (.cells (jcs 1 q [] none 0 0 none 0 0) 27)))
  cases b
  · go_enter Tryz.func19, Tryz.ntmps19
    go_wp2
    refine bodyPost_ret (results_cell_row rfl _ _ w.heap.size 27 (jcs 1 0 [] none 0 0 none 0 0) (0, 0) _ rfl (HG.out 0) Tryz.underlying27 rfl (by kernel_rfl)) rfl ?_
    exact ⟨rfl, belAlloc ((Below.refl _ w).alloc (Nat.le_refl _) _) _⟩
  · go_enter Tryz.func19, Tryz.ntmps19
    go_wp2
    refine bodyPost_ret (results_cell_row rfl _ _ w.heap.size 27 (jcs 1 1 [] none 0 0 none 0 0) (0, 0) _ rfl (HG.out 1) Tryz.underlying27 rfl (by kernel_rfl)) rfl ?_
    exact ⟨rfl, belAlloc ((Below.refl _ w).alloc (Nat.le_refl _) _) _⟩
end Go.Proofs.YtminegmjklehnaaGreatDoor.J

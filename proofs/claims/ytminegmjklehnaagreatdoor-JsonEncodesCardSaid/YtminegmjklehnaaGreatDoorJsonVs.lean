/-
  utf8.ValidString's contract at this program. (Printed by wip/tools/gen_json_vs.py.)
-/
import Derived.Test.YtminegmjklehnaaGreatDoorJsonI
import Derived.Shelf.Unicode.ValidAny
namespace Go.Proofs.YtminegmjklehnaaGreatDoor.J
open Go.RowKit Go.Proofs Go.Proofs.YtminegmjklehnaaGreatDoor.B
open Go.Proofs.YtminegmjklehnaaGreatDoor.M hiding Bs
open Go.Proofs.YtminegmjklehnaaGreatDoor.C (QRow Turn)
set_option linter.unusedVariables false
set_option linter.unusedSimpArgs false

abbrev renV : Go.Shelf.Ren := ⟨fun | 196 => 55 | 259 => 81 | n => n, fun | 0 => 0 | 3 => 3 | 4 => 4 | 5 => 5 | 9 => 9 | 12 => 12 | 46 => 89 | 53 => 102 | 119 => 85 | 138 => 87 | 139 => 88 | n => n, fun | 3 => 0 | 4 => 1 | n => n⟩
theorem lays196 : Go.Proofs.Lays.n196 Tryz.prog renV := {
  mixed := by kernel_rfl
  f196 := Tryz.func55.trans (congrArg some (by kernel_rfl))
  f259 := Tryz.func81.trans (congrArg some (by kernel_rfl))
  t0 := Tryz.underlying0
  a0 := Tryz.isAgg0
  z0 := Tryz.sizeOf0
  v0 := Tryz.zeroValue0
  t3 := Tryz.underlying3
  a3 := Tryz.isAgg3
  z3 := Tryz.sizeOf3
  v3 := Tryz.zeroValue3
  t4 := Tryz.underlying4
  a4 := Tryz.isAgg4
  z4 := Tryz.sizeOf4
  v4 := Tryz.zeroValue4
  t5 := Tryz.underlying5
  a5 := Tryz.isAgg5
  z5 := Tryz.sizeOf5
  v5 := Tryz.zeroValue5
  t9 := Tryz.underlying9
  a9 := Tryz.isAgg9
  z9 := Tryz.sizeOf9
  v9 := Tryz.zeroValue9
  t12 := Tryz.underlying12
  a12 := Tryz.isAgg12
  z12 := Tryz.sizeOf12
  v12 := Tryz.zeroValue12
  t46 := Tryz.underlying89
  a46 := Tryz.isAgg89
  z46 := Tryz.sizeOf89
  v46 := Tryz.zeroValue89
  t53 := Tryz.underlying102
  a53 := Tryz.isAgg102
  z53 := Tryz.sizeOf102
  v53 := Tryz.zeroValue102
  t119 := Tryz.underlying85
  a119 := Tryz.isAgg85
  z119 := Tryz.sizeOf85
  t138 := Tryz.underlying87
  a138 := Tryz.isAgg87
  z138 := Tryz.sizeOf87
  v138 := Tryz.zeroValue87
  t139 := Tryz.underlying88
  a139 := Tryz.isAgg88
  z139 := Tryz.sizeOf88
  v139 := Tryz.zeroValue88
  g3 := by kernel_rfl
  g4 := by kernel_rfl }
theorem valid_calls (s : Bs) (w : World) (hs : s.length ≤ 9223372036854775807) (hT : Lib.Utf8Tabs 0 1 w) :
    Calls Tryz.prog 55 #[vs s] w (BRet w (validT s)) :=
  (Any.utf8_ValidString lays196 ⟨s.toArray⟩ w (by rw [sz]; exact hs) hT).mono (fun e w' h => h)
end Go.Proofs.YtminegmjklehnaaGreatDoor.J

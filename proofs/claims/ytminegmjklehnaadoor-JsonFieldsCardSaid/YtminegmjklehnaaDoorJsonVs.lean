/-
  utf8.ValidString's contract at this program. (Printed by wip/tools/gen_json_vs.py.)
-/
import Derived.Test.YtminegmjklehnaaDoorJsonI
import Derived.Shelf.Unicode.ValidAny
namespace Go.Proofs.YtminegmjklehnaaDoor.J
open Go.RowKit Go.Proofs Go.Proofs.YtminegmjklehnaaDoor.B
open Go.Proofs.YtminegmjklehnaaDoor.M hiding Bs
open Go.Proofs.YtminegmjklehnaaDoor.C (QRow Turn)
set_option linter.unusedVariables false
set_option linter.unusedSimpArgs false

abbrev renV : Go.Shelf.Ren := ⟨fun | 196 => 33 | 259 => 53 | n => n, fun | 0 => 0 | 3 => 3 | 4 => 4 | 5 => 5 | 9 => 9 | 12 => 12 | 46 => 81 | 53 => 93 | 119 => 77 | 138 => 79 | 139 => 80 | n => n, fun | 3 => 0 | 4 => 1 | n => n⟩
theorem lays196 : Go.Proofs.Lays.n196 Tryd.prog renV := {
  mixed := by kernel_rfl
  f196 := Tryd.func33.trans (congrArg some (by kernel_rfl))
  f259 := Tryd.func53.trans (congrArg some (by kernel_rfl))
  t0 := Tryd.underlying0
  a0 := Tryd.isAgg0
  z0 := Tryd.sizeOf0
  v0 := Tryd.zeroValue0
  t3 := Tryd.underlying3
  a3 := Tryd.isAgg3
  z3 := Tryd.sizeOf3
  v3 := Tryd.zeroValue3
  t4 := Tryd.underlying4
  a4 := Tryd.isAgg4
  z4 := Tryd.sizeOf4
  v4 := Tryd.zeroValue4
  t5 := Tryd.underlying5
  a5 := Tryd.isAgg5
  z5 := Tryd.sizeOf5
  v5 := Tryd.zeroValue5
  t9 := Tryd.underlying9
  a9 := Tryd.isAgg9
  z9 := Tryd.sizeOf9
  v9 := Tryd.zeroValue9
  t12 := Tryd.underlying12
  a12 := Tryd.isAgg12
  z12 := Tryd.sizeOf12
  v12 := Tryd.zeroValue12
  t46 := Tryd.underlying81
  a46 := Tryd.isAgg81
  z46 := Tryd.sizeOf81
  v46 := Tryd.zeroValue81
  t53 := Tryd.underlying93
  a53 := Tryd.isAgg93
  z53 := Tryd.sizeOf93
  v53 := Tryd.zeroValue93
  t119 := Tryd.underlying77
  a119 := Tryd.isAgg77
  z119 := Tryd.sizeOf77
  t138 := Tryd.underlying79
  a138 := Tryd.isAgg79
  z138 := Tryd.sizeOf79
  v138 := Tryd.zeroValue79
  t139 := Tryd.underlying80
  a139 := Tryd.isAgg80
  z139 := Tryd.sizeOf80
  v139 := Tryd.zeroValue80
  g3 := by kernel_rfl
  g4 := by kernel_rfl }
theorem valid_calls (s : Bs) (w : World) (hs : s.length ≤ 9223372036854775807) (hT : Lib.Utf8Tabs 0 1 w) :
    Calls Tryd.prog 33 #[vs s] w (BRet w (validT s)) :=
  (Any.utf8_ValidString lays196 ⟨s.toArray⟩ w (by rw [sz]; exact hs) hT).mono (fun e w' h => h)
end Go.Proofs.YtminegmjklehnaaDoor.J

/-
  strings.Builder's WriteByte and WriteString at this program. (Printed by wip/tools/gen_json_bld.py.)
-/
import Derived.Test.YtminegmjklehnaaDoorJsonRa
import Derived.Test.YtminegmjklehnaaDoorShelf
import Derived.Shelf.Strings.Builder1
namespace Go.Proofs.YtminegmjklehnaaDoor.J
open Go.RowKit Go.Proofs Go.Proofs.YtminegmjklehnaaDoor.B
open Go.Proofs.YtminegmjklehnaaDoor.M hiding Bs
open Go.Proofs.YtminegmjklehnaaDoor.C (QRow Turn)
set_option linter.unusedVariables false
set_option linter.unusedSimpArgs false

abbrev renW : Go.Shelf.Ren := ⟨fun | 166 => 49 | 167 => 47 | 240 => 67 | 276 => 80 | n => n, fun | 0 => 0 | 3 => 3 | 4 => 4 | 5 => 5 | 9 => 9 | 20 => 20 | 37 => 28 | 70 => 65 | 72 => 67 | 75 => 69 | 76 => 72 | 80 => 63 | 164 => 102 | n => n, fun | n => n⟩
theorem laysB166 : Go.Proofs.Lays.n166 Tryd.prog renW := {
  mixed := by kernel_rfl
  f166 := Tryd.func49.trans (congrArg some (by kernel_rfl))
  f240 := Tryd.func67.trans (congrArg some (by kernel_rfl))
  f276 := Tryd.func80.trans (congrArg some (by kernel_rfl))
  t0 := Tryd.underlying0
  a0 := Tryd.isAgg0
  z0 := Tryd.sizeOf0
  v0 := Tryd.zeroValue0
  t3 := Tryd.underlying3
  a3 := Tryd.isAgg3
  z3 := Tryd.sizeOf3
  v3 := Tryd.zeroValue3
  t4 := Tryd.underlying4
  a4 := Tryd.isAgg4
  z4 := Tryd.sizeOf4
  v4 := Tryd.zeroValue4
  t9 := Tryd.underlying9
  a9 := Tryd.isAgg9
  z9 := Tryd.sizeOf9
  v9 := Tryd.zeroValue9
  t20 := Tryd.underlying20
  a20 := Tryd.isAgg20
  z20 := Tryd.sizeOf20
  v20 := Tryd.zeroValue20
  t37 := Tryd.underlying28
  a37 := Tryd.isAgg28
  z37 := Tryd.sizeOf28
  v37 := Tryd.zeroValue28
  t70 := Tryd.underlying65
  a70 := Tryd.isAgg65
  z70 := Tryd.sizeOf65
  v70 := Tryd.zeroValue65
  t72 := Tryd.underlying67
  a72 := Tryd.isAgg67
  z72 := Tryd.sizeOf67
  v72 := Tryd.zeroValue67
  t75 := Tryd.underlying69
  a75 := Tryd.isAgg69
  z75 := Tryd.sizeOf69
  v75 := Tryd.zeroValue69
  t164 := Tryd.underlying102
  a164 := Tryd.isAgg102
  z164 := Tryd.sizeOf102
  v164 := Tryd.zeroValue102 }
theorem laysB167 : Go.Proofs.Lays.n167 Tryd.prog renW := {
  mixed := by kernel_rfl
  f167 := Tryd.func47.trans (congrArg some (by kernel_rfl))
  f240 := Tryd.func67.trans (congrArg some (by kernel_rfl))
  f276 := Tryd.func80.trans (congrArg some (by kernel_rfl))
  t0 := Tryd.underlying0
  a0 := Tryd.isAgg0
  z0 := Tryd.sizeOf0
  v0 := Tryd.zeroValue0
  t4 := Tryd.underlying4
  a4 := Tryd.isAgg4
  z4 := Tryd.sizeOf4
  v4 := Tryd.zeroValue4
  t5 := Tryd.underlying5
  a5 := Tryd.isAgg5
  z5 := Tryd.sizeOf5
  v5 := Tryd.zeroValue5
  t9 := Tryd.underlying9
  a9 := Tryd.isAgg9
  z9 := Tryd.sizeOf9
  v9 := Tryd.zeroValue9
  t20 := Tryd.underlying20
  a20 := Tryd.isAgg20
  z20 := Tryd.sizeOf20
  v20 := Tryd.zeroValue20
  t37 := Tryd.underlying28
  a37 := Tryd.isAgg28
  z37 := Tryd.sizeOf28
  v37 := Tryd.zeroValue28
  t70 := Tryd.underlying65
  a70 := Tryd.isAgg65
  z70 := Tryd.sizeOf65
  v70 := Tryd.zeroValue65
  t72 := Tryd.underlying67
  a72 := Tryd.isAgg67
  z72 := Tryd.sizeOf67
  v72 := Tryd.zeroValue67
  t75 := Tryd.underlying69
  a75 := Tryd.isAgg69
  z75 := Tryd.sizeOf69
  v75 := Tryd.zeroValue69
  t164 := Tryd.underlying102
  a164 := Tryd.isAgg102
  z164 := Tryd.sizeOf102
  v164 := Tryd.zeroValue102 }
theorem extraW : Builder.Extra Tryd.prog renW := {
  sizeBuilder := by kernel_rfl
  liesBuilder := by kernel_rfl
  t5 := Tryd.underlying5
  a5 := Tryd.isAgg5
  z5 := Tryd.sizeOf5
  v5 := Tryd.zeroValue5
  infoByte := by kernel_rfl
  cellsByte := by kernel_rfl
  sizeByte := by kernel_rfl
  neB5 := by decide }
/-- a builder that holds these bytes. -/
abbrev BldV (B b : Nat) (l : Bs) (w : World) : Prop := Lib.IsBuilder 67 5 B b (Lib.byteCells l) w
theorem wbyte_calls {B b : Nat} {l : Bs} {w : World} (h : BldV B b l w) (c : UInt8) (hl : l.length + 1 ≤ 140737488355328) (hB : B ≤ w.heap.size) :
    Calls Tryd.prog 47 #[.pointer (some ⟨b, 0, none⟩), .int .u8 c.toNat] w fun e w' => e = .returned .nilIface ∧ BldV B b (l ++ [c]) w' ∧ Below B w w' :=
  (Any.Builder_WriteByte laysB167 extraW B b _ c.toNat w h (by simpa [Lib.byteCells] using hl) hB).mono (fun e w' h => ⟨h.1, .inr (by simpa [Lib.byteCells] using h.2.1), h.2.2⟩)
theorem wstr_calls {B b : Nat} {l : Bs} {w : World} (h : BldV B b l w) (s : Bs) (hl : l.length + s.length ≤ 140737488355328) (hB : B ≤ w.heap.size) :
    Calls Tryd.prog 49 #[.pointer (some ⟨b, 0, none⟩), vs s] w fun e w' => (∃ v, e = .returned v) ∧ BldV B b (l ++ s) w' ∧ Below B w w' :=
  (Any.Builder_WriteString laysB166 extraW B b _ ⟨s.toArray⟩ w h (by rw [sz]; simpa [Lib.byteCells] using hl) hB).mono (fun e w' h => ⟨⟨_, h.1⟩, .inr (by simpa [Lib.byteCells, Lib.strCells] using h.2.1), h.2.2⟩)
theorem bstr_calls {B b : Nat} {l : Bs} {w : World} (h : BldV B b l w) (hB : B ≤ w.heap.size) :
    Calls Tryd.prog 51 #[.pointer (some ⟨b, 0, none⟩)] w fun e w' => e = .returned (vs l) ∧ Below B w w' := Tryd.Builder_String_any B b l w h hB
end Go.Proofs.YtminegmjklehnaaDoor.J

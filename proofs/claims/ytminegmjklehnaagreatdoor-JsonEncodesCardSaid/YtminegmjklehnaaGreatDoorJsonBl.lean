/-
  strings.Builder's WriteByte and WriteString at this program. (Printed by wip/tools/gen_json_bld.py.)
-/
import Derived.Test.YtminegmjklehnaaGreatDoorJsonRa
import Derived.Test.YtminegmjklehnaaGreatDoorShelf
import Derived.Shelf.Strings.Builder1
namespace Go.Proofs.YtminegmjklehnaaGreatDoor.J
open Go.RowKit Go.Proofs Go.Proofs.YtminegmjklehnaaGreatDoor.B
open Go.Proofs.YtminegmjklehnaaGreatDoor.M hiding Bs
open Go.Proofs.YtminegmjklehnaaGreatDoor.C (QRow Turn)
set_option linter.unusedVariables false
set_option linter.unusedSimpArgs false

abbrev renW : Go.Shelf.Ren := ⟨fun | 166 => 86 | 167 => 85 | 240 => 102 | 276 => 116 | n => n, fun | 0 => 0 | 3 => 3 | 4 => 4 | 5 => 5 | 9 => 9 | 20 => 20 | 37 => 22 | 70 => 91 | 72 => 93 | 75 => 77 | 76 => 78 | 80 => 61 | 164 => 118 | n => n, fun | n => n⟩
theorem laysB166 : Go.Proofs.Lays.n166 Tryz.prog renW := {
  mixed := by kernel_rfl
  f166 := Tryz.func86.trans (congrArg some (by kernel_rfl))
  f240 := Tryz.func102.trans (congrArg some (by kernel_rfl))
  f276 := Tryz.func116.trans (congrArg some (by kernel_rfl))
  t0 := Tryz.underlying0
  a0 := Tryz.isAgg0
  z0 := Tryz.sizeOf0
  v0 := Tryz.zeroValue0
  t3 := Tryz.underlying3
  a3 := Tryz.isAgg3
  z3 := Tryz.sizeOf3
  v3 := Tryz.zeroValue3
  t4 := Tryz.underlying4
  a4 := Tryz.isAgg4
  z4 := Tryz.sizeOf4
  v4 := Tryz.zeroValue4
  t9 := Tryz.underlying9
  a9 := Tryz.isAgg9
  z9 := Tryz.sizeOf9
  v9 := Tryz.zeroValue9
  t20 := Tryz.underlying20
  a20 := Tryz.isAgg20
  z20 := Tryz.sizeOf20
  v20 := Tryz.zeroValue20
  t37 := Tryz.underlying22
  a37 := Tryz.isAgg22
  z37 := Tryz.sizeOf22
  v37 := Tryz.zeroValue22
  t70 := Tryz.underlying91
  a70 := Tryz.isAgg91
  z70 := Tryz.sizeOf91
  v70 := Tryz.zeroValue91
  t72 := Tryz.underlying93
  a72 := Tryz.isAgg93
  z72 := Tryz.sizeOf93
  v72 := Tryz.zeroValue93
  t75 := Tryz.underlying77
  a75 := Tryz.isAgg77
  z75 := Tryz.sizeOf77
  v75 := Tryz.zeroValue77
  t164 := Tryz.underlying118
  a164 := Tryz.isAgg118
  z164 := Tryz.sizeOf118
  v164 := Tryz.zeroValue118 }
theorem laysB167 : Go.Proofs.Lays.n167 Tryz.prog renW := {
  mixed := by kernel_rfl
  f167 := Tryz.func85.trans (congrArg some (by kernel_rfl))
  f240 := Tryz.func102.trans (congrArg some (by kernel_rfl))
  f276 := Tryz.func116.trans (congrArg some (by kernel_rfl))
  t0 := Tryz.underlying0
  a0 := Tryz.isAgg0
  z0 := Tryz.sizeOf0
  v0 := Tryz.zeroValue0
  t4 := Tryz.underlying4
  a4 := Tryz.isAgg4
  z4 := Tryz.sizeOf4
  v4 := Tryz.zeroValue4
  t5 := Tryz.underlying5
  a5 := Tryz.isAgg5
  z5 := Tryz.sizeOf5
  v5 := Tryz.zeroValue5
  t9 := Tryz.underlying9
  a9 := Tryz.isAgg9
  z9 := Tryz.sizeOf9
  v9 := Tryz.zeroValue9
  t20 := Tryz.underlying20
  a20 := Tryz.isAgg20
  z20 := Tryz.sizeOf20
  v20 := Tryz.zeroValue20
  t37 := Tryz.underlying22
  a37 := Tryz.isAgg22
  z37 := Tryz.sizeOf22
  v37 := Tryz.zeroValue22
  t70 := Tryz.underlying91
  a70 := Tryz.isAgg91
  z70 := Tryz.sizeOf91
  v70 := Tryz.zeroValue91
  t72 := Tryz.underlying93
  a72 := Tryz.isAgg93
  z72 := Tryz.sizeOf93
  v72 := Tryz.zeroValue93
  t75 := Tryz.underlying77
  a75 := Tryz.isAgg77
  z75 := Tryz.sizeOf77
  v75 := Tryz.zeroValue77
  t164 := Tryz.underlying118
  a164 := Tryz.isAgg118
  z164 := Tryz.sizeOf118
  v164 := Tryz.zeroValue118 }
theorem extraW : Builder.Extra Tryz.prog renW := {
  sizeBuilder := by kernel_rfl
  liesBuilder := by kernel_rfl
  t5 := Tryz.underlying5
  a5 := Tryz.isAgg5
  z5 := Tryz.sizeOf5
  v5 := Tryz.zeroValue5
  infoByte := by kernel_rfl
  cellsByte := by kernel_rfl
  sizeByte := by kernel_rfl
  neB5 := by decide }
/-- a builder that holds these bytes. -/
abbrev BldV (B b : Nat) (l : Bs) (w : World) : Prop := Lib.IsBuilder 93 5 B b (Lib.byteCells l) w
theorem wbyte_calls {B b : Nat} {l : Bs} {w : World} (h : BldV B b l w) (c : UInt8) (hl : l.length + 1 ≤ 140737488355328) (hB : B ≤ w.heap.size) :
    Calls Tryz.prog 85 #[.pointer (some ⟨b, 0, none⟩), .int .u8 c.toNat] w fun e w' => e = .returned .nilIface ∧ BldV B b (l ++ [c]) w' ∧ Below B w w' :=
  (Any.Builder_WriteByte laysB167 extraW B b _ c.toNat w h (by simpa [Lib.byteCells] using hl) hB).mono (fun e w' h => ⟨h.1, .inr (by simpa [Lib.byteCells] using h.2.1), h.2.2⟩)
theorem wstr_calls {B b : Nat} {l : Bs} {w : World} (h : BldV B b l w) (s : Bs) (hl : l.length + s.length ≤ 140737488355328) (hB : B ≤ w.heap.size) :
    Calls Tryz.prog 86 #[.pointer (some ⟨b, 0, none⟩), vs s] w fun e w' => (∃ v, e = .returned v) ∧ BldV B b (l ++ s) w' ∧ Below B w w' :=
  (Any.Builder_WriteString laysB166 extraW B b _ ⟨s.toArray⟩ w h (by rw [sz]; simpa [Lib.byteCells] using hl) hB).mono (fun e w' h => ⟨⟨_, h.1⟩, .inr (by simpa [Lib.byteCells, Lib.strCells] using h.2.1), h.2.2⟩)
theorem bstr_calls {B b : Nat} {l : Bs} {w : World} (h : BldV B b l w) (hB : B ≤ w.heap.size) :
    Calls Tryz.prog 88 #[.pointer (some ⟨b, 0, none⟩)] w fun e w' => e = .returned (vs l) ∧ Below B w w' := Tryz.Builder_String_any B b l w h hB
end Go.Proofs.YtminegmjklehnaaGreatDoor.J

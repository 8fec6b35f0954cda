/-
  Contracts of package num and of its reference: a number in eight bytes.
-/
import Derived.Test.YteaapekkoahilaaDoorNumD
namespace Go.Proofs.YteaapekkoahilaaDoor.Nu
open Go.RowKit Go.Proofs.YteaapekkoahilaaDoor.B Go.Proofs.YteaapekkoahilaaDoor.S01
set_option linter.unusedVariables false
set_option linter.unusedSimpArgs false

/-- Byte i of a number's eight. -/
def wb (n : Int) (i : Nat) : Int := IntKind.u64.wrap n / (256 ^ (7 - i) : Nat) % 256
def wcells (n : Int) (k : Nat) : Array Value := ((List.range 8).map fun i => if i < k then Value.int .u8 (wb n i) else Value.int .u8 0).toArray
def rcells (n : Int) (m : Nat) : Array Value := ((List.range 8).map fun i => if 8 - m ≤ i then Value.int .u8 (wb n i) else Value.int .u8 0).toArray
theorem hmk (w : World) : (Instr.makeSlice 22 (.int .i64 8) (.int .i64 8)).run Tryd.prog w = .ok (.slice (some ⟨w.heap.size, 0, none⟩) 8 8) (w.alloc (.cells #[.int .u8 0, .int .u8 0, .int .u8 0, .int .u8 0, .int .u8 0, .int .u8 0, .int .u8 0, .int .u8 0] 5)) := by kernel_rfl
theorem wb0 (n : Int) : wb n 0 = IntKind.u64.wrap n / 72057594037927936 % 256 := by unfold wb; rfl
theorem wb1 (n : Int) : wb n 1 = IntKind.u64.wrap n / 281474976710656 % 256 := by unfold wb; rfl
theorem wb2 (n : Int) : wb n 2 = IntKind.u64.wrap n / 1099511627776 % 256 := by unfold wb; rfl
theorem wb3 (n : Int) : wb n 3 = IntKind.u64.wrap n / 4294967296 % 256 := by unfold wb; rfl
theorem wb4 (n : Int) : wb n 4 = IntKind.u64.wrap n / 16777216 % 256 := by unfold wb; rfl
theorem wb5 (n : Int) : wb n 5 = IntKind.u64.wrap n / 65536 % 256 := by unfold wb; rfl
theorem wb6 (n : Int) : wb n 6 = IntKind.u64.wrap n / 256 % 256 := by unfold wb; rfl
theorem wb7 (n : Int) : wb n 7 = IntKind.u64.wrap n % 256 := by unfold wb; simp

set_option maxRecDepth 100000 in
set_option maxHeartbeats 8000000 in
theorem Wide_calls (n : Int) (w : World) :
    Calls Tryd.prog 22 #[.int .i64 n] w fun e w' => e = .returned (.slice (some ⟨w.heap.size, 0, none⟩) 8 8) ∧ w' = w.alloc (.cells (wcells n 8) 5) := by
  have HM := hmk w
  go_enter Tryd.func22, Tryd.ntmps22
  go_wp2
  go_loopw [6] (fun v6 wr => ∃ k : Nat, k ≤ 8 ∧ v6 = .int .i64 k ∧ wr = w.alloc (.cells (wcells n k) 5)) (fun v6 _ => 8 - (intOf v6).toNat)
  case atStart => exact ⟨0, Nat.zero_le _, rfl, rfl⟩
  case round =>
    obtain ⟨k, hk, rfl, rfl⟩ := hrel
    match k, hk with
    | 0, _ =>
      rw [show wcells n 0 = #[.int .u8 0, .int .u8 0, .int .u8 0, .int .u8 0, .int .u8 0, .int .u8 0, .int .u8 0, .int .u8 0] from rfl]
      go_wp2
      exact ⟨⟨1, by omega, rfl, by rw [show wcells n 1 = #[.int .u8 (wb n 0), .int .u8 0, .int .u8 0, .int .u8 0, .int .u8 0, .int .u8 0, .int .u8 0, .int .u8 0] from rfl, wb0]⟩, by simp [intOf]⟩
    | 1, _ =>
      rw [show wcells n 1 = #[.int .u8 (wb n 0), .int .u8 0, .int .u8 0, .int .u8 0, .int .u8 0, .int .u8 0, .int .u8 0, .int .u8 0] from rfl]
      go_wp2
      exact ⟨⟨2, by omega, rfl, by rw [show wcells n 2 = #[.int .u8 (wb n 0), .int .u8 (wb n 1), .int .u8 0, .int .u8 0, .int .u8 0, .int .u8 0, .int .u8 0, .int .u8 0] from rfl, wb1]⟩, by simp [intOf]⟩
    | 2, _ =>
      rw [show wcells n 2 = #[.int .u8 (wb n 0), .int .u8 (wb n 1), .int .u8 0, .int .u8 0, .int .u8 0, .int .u8 0, .int .u8 0, .int .u8 0] from rfl]
      go_wp2
      exact ⟨⟨3, by omega, rfl, by rw [show wcells n 3 = #[.int .u8 (wb n 0), .int .u8 (wb n 1), .int .u8 (wb n 2), .int .u8 0, .int .u8 0, .int .u8 0, .int .u8 0, .int .u8 0] from rfl, wb2]⟩, by simp [intOf]⟩
    | 3, _ =>
      rw [show wcells n 3 = #[.int .u8 (wb n 0), .int .u8 (wb n 1), .int .u8 (wb n 2), .int .u8 0, .int .u8 0, .int .u8 0, .int .u8 0, .int .u8 0] from rfl]
      go_wp2
      exact ⟨⟨4, by omega, rfl, by rw [show wcells n 4 = #[.int .u8 (wb n 0), .int .u8 (wb n 1), .int .u8 (wb n 2), .int .u8 (wb n 3), .int .u8 0, .int .u8 0, .int .u8 0, .int .u8 0] from rfl, wb3]⟩, by simp [intOf]⟩
    | 4, _ =>
      rw [show wcells n 4 = #[.int .u8 (wb n 0), .int .u8 (wb n 1), .int .u8 (wb n 2), .int .u8 (wb n 3), .int .u8 0, .int .u8 0, .int .u8 0, .int .u8 0] from rfl]
      go_wp2
      exact ⟨⟨5, by omega, rfl, by rw [show wcells n 5 = #[.int .u8 (wb n 0), .int .u8 (wb n 1), .int .u8 (wb n 2), .int .u8 (wb n 3), .int .u8 (wb n 4), .int .u8 0, .int .u8 0, .int .u8 0] from rfl, wb4]⟩, by simp [intOf]⟩
    | 5, _ =>
      rw [show wcells n 5 = #[.int .u8 (wb n 0), .int .u8 (wb n 1), .int .u8 (wb n 2), .int .u8 (wb n 3), .int .u8 (wb n 4), .int .u8 0, .int .u8 0, .int .u8 0] from rfl]
      go_wp2
      exact ⟨⟨6, by omega, rfl, by rw [show wcells n 6 = #[.int .u8 (wb n 0), .int .u8 (wb n 1), .int .u8 (wb n 2), .int .u8 (wb n 3), .int .u8 (wb n 4), .int .u8 (wb n 5), .int .u8 0, .int .u8 0] from rfl, wb5]⟩, by simp [intOf]⟩
    | 6, _ =>
      rw [show wcells n 6 = #[.int .u8 (wb n 0), .int .u8 (wb n 1), .int .u8 (wb n 2), .int .u8 (wb n 3), .int .u8 (wb n 4), .int .u8 (wb n 5), .int .u8 0, .int .u8 0] from rfl]
      go_wp2
      exact ⟨⟨7, by omega, rfl, by rw [show wcells n 7 = #[.int .u8 (wb n 0), .int .u8 (wb n 1), .int .u8 (wb n 2), .int .u8 (wb n 3), .int .u8 (wb n 4), .int .u8 (wb n 5), .int .u8 (wb n 6), .int .u8 0] from rfl, wb6]⟩, by simp [intOf]⟩
    | 7, _ =>
      rw [show wcells n 7 = #[.int .u8 (wb n 0), .int .u8 (wb n 1), .int .u8 (wb n 2), .int .u8 (wb n 3), .int .u8 (wb n 4), .int .u8 (wb n 5), .int .u8 (wb n 6), .int .u8 0] from rfl]
      go_wp2
      exact ⟨⟨8, by omega, rfl, by rw [show wcells n 8 = #[.int .u8 (wb n 0), .int .u8 (wb n 1), .int .u8 (wb n 2), .int .u8 (wb n 3), .int .u8 (wb n 4), .int .u8 (wb n 5), .int .u8 (wb n 6), .int .u8 (wb n 7)] from rfl, wb7]⟩, by simp [intOf]⟩
    | 8, _ =>
      go_wp2
      go_ret
      exact ⟨rfl, rfl⟩
set_option maxRecDepth 100000 in
set_option maxHeartbeats 8000000 in
theorem refWide_calls (n : Int) (w : World) :
    Calls Tryd.prog 25 #[.int .i64 n] w fun e w' => e = .returned (.slice (some ⟨w.heap.size, 0, none⟩) 8 8) ∧ w' = w.alloc (.cells (wcells n 8) 5) := by
  have HM := hmk w
  obtain ⟨u, hu⟩ : ∃ u, IntKind.u64.wrap n = u := ⟨_, rfl⟩
  have u0 : 0 ≤ u ∧ u ≤ 18446744073709551615 := by subst hu; simp [IntKind.wrap, IntKind.bits, IntKind.signed]; omega
  have U0 := Lib.hid u0; clear u0
  have HU := Lib.hid hu
  go_enter Tryd.func25, Tryd.ntmps25
  go_wp2
  go_loopw [3, 5] (fun v3 v5 wr => ∃ m : Nat, ∃ z : Int, m ≤ 8 ∧ v5 = .int .i64 (7 - (m : Int)) ∧ v3 = .int .u64 z ∧ Asd (z = u / (256 ^ m : Nat)) ∧ wr = w.alloc (.cells (rcells n m) 5)) (fun _ v5 _ => (intOf v5 + 1).toNat)
  case atStart => exact ⟨0, u, Nat.zero_le _, rfl, rfl, ⟨by simp⟩, rfl⟩
  case round =>
    obtain ⟨m, z, hm, rfl, rfl, hz, rfl⟩ := hrel
    have z0 : 0 ≤ z := by rw [hz.out]; exact Int.ediv_nonneg U0.out.1 (Int.natCast_nonneg _)
    have z1 : z ≤ 18446744073709551615 := by rw [hz.out]; exact Int.le_trans (Int.ediv_le_self _ U0.out.1) U0.out.2
    match m, hm, hz with
    | 0, _, hz =>
      rw [show rcells n 0 = #[.int .u8 0, .int .u8 0, .int .u8 0, .int .u8 0, .int .u8 0, .int .u8 0, .int .u8 0, .int .u8 0] from rfl]
      have hz' : z = u / 1 := hz.out
      have hd := Lib.hid (show wb n 7 = z % 256 by rw [wb7, HU.out, hz']; simp)
      have he := Lib.hid (show z / 256 = u / ((256 ^ (0 + 1) : Nat) : Int) by rw [show ((256 ^ (0 + 1) : Nat) : Int) = 256 by decide, hz']; omega)
      clear hz'
      go_wp2
      exact ⟨⟨1, _, by omega, by simp, rfl, ⟨he.out⟩, by rw [show rcells n 1 = #[.int .u8 0, .int .u8 0, .int .u8 0, .int .u8 0, .int .u8 0, .int .u8 0, .int .u8 0, .int .u8 (wb n 7)] from rfl, hd.out]⟩, by simp [intOf]⟩
    | 1, _, hz =>
      rw [show rcells n 1 = #[.int .u8 0, .int .u8 0, .int .u8 0, .int .u8 0, .int .u8 0, .int .u8 0, .int .u8 0, .int .u8 (wb n 7)] from rfl]
      have hz' : z = u / 256 := hz.out
      have hd := Lib.hid (show wb n 6 = z % 256 by rw [wb6, HU.out, hz'])
      have he := Lib.hid (show z / 256 = u / ((256 ^ (1 + 1) : Nat) : Int) by rw [show ((256 ^ (1 + 1) : Nat) : Int) = 65536 by decide, hz']; omega)
      clear hz'
      go_wp2
      exact ⟨⟨2, _, by omega, by simp, rfl, ⟨he.out⟩, by rw [show rcells n 2 = #[.int .u8 0, .int .u8 0, .int .u8 0, .int .u8 0, .int .u8 0, .int .u8 0, .int .u8 (wb n 6), .int .u8 (wb n 7)] from rfl, hd.out]⟩, by simp [intOf]⟩
    | 2, _, hz =>
      rw [show rcells n 2 = #[.int .u8 0, .int .u8 0, .int .u8 0, .int .u8 0, .int .u8 0, .int .u8 0, .int .u8 (wb n 6), .int .u8 (wb n 7)] from rfl]
      have hz' : z = u / 65536 := hz.out
      have hd := Lib.hid (show wb n 5 = z % 256 by rw [wb5, HU.out, hz'])
      have he := Lib.hid (show z / 256 = u / ((256 ^ (2 + 1) : Nat) : Int) by rw [show ((256 ^ (2 + 1) : Nat) : Int) = 16777216 by decide, hz']; omega)
      clear hz'
      go_wp2
      exact ⟨⟨3, _, by omega, by simp, rfl, ⟨he.out⟩, by rw [show rcells n 3 = #[.int .u8 0, .int .u8 0, .int .u8 0, .int .u8 0, .int .u8 0, .int .u8 (wb n 5), .int .u8 (wb n 6), .int .u8 (wb n 7)] from rfl, hd.out]⟩, by simp [intOf]⟩
    | 3, _, hz =>
      rw [show rcells n 3 = #[.int .u8 0, .int .u8 0, .int .u8 0, .int .u8 0, .int .u8 0, .int .u8 (wb n 5), .int .u8 (wb n 6), .int .u8 (wb n 7)] from rfl]
      have hz' : z = u / 16777216 := hz.out
      have hd := Lib.hid (show wb n 4 = z % 256 by rw [wb4, HU.out, hz'])
      have he := Lib.hid (show z / 256 = u / ((256 ^ (3 + 1) : Nat) : Int) by rw [show ((256 ^ (3 + 1) : Nat) : Int) = 4294967296 by decide, hz']; omega)
      clear hz'
      go_wp2
      exact ⟨⟨4, _, by omega, by simp, rfl, ⟨he.out⟩, by rw [show rcells n 4 = #[.int .u8 0, .int .u8 0, .int .u8 0, .int .u8 0, .int .u8 (wb n 4), .int .u8 (wb n 5), .int .u8 (wb n 6), .int .u8 (wb n 7)] from rfl, hd.out]⟩, by simp [intOf]⟩
    | 4, _, hz =>
      rw [show rcells n 4 = #[.int .u8 0, .int .u8 0, .int .u8 0, .int .u8 0, .int .u8 (wb n 4), .int .u8 (wb n 5), .int .u8 (wb n 6), .int .u8 (wb n 7)] from rfl]
      have hz' : z = u / 4294967296 := hz.out
      have hd := Lib.hid (show wb n 3 = z % 256 by rw [wb3, HU.out, hz'])
      have he := Lib.hid (show z / 256 = u / ((256 ^ (4 + 1) : Nat) : Int) by rw [show ((256 ^ (4 + 1) : Nat) : Int) = 1099511627776 by decide, hz']; omega)
      clear hz'
      go_wp2
      exact ⟨⟨5, _, by omega, by simp, rfl, ⟨he.out⟩, by rw [show rcells n 5 = #[.int .u8 0, .int .u8 0, .int .u8 0, .int .u8 (wb n 3), .int .u8 (wb n 4), .int .u8 (wb n 5), .int .u8 (wb n 6), .int .u8 (wb n 7)] from rfl, hd.out]⟩, by simp [intOf]⟩
    | 5, _, hz =>
      rw [show rcells n 5 = #[.int .u8 0, .int .u8 0, .int .u8 0, .int .u8 (wb n 3), .int .u8 (wb n 4), .int .u8 (wb n 5), .int .u8 (wb n 6), .int .u8 (wb n 7)] from rfl]
      have hz' : z = u / 1099511627776 := hz.out
      have hd := Lib.hid (show wb n 2 = z % 256 by rw [wb2, HU.out, hz'])
      have he := Lib.hid (show z / 256 = u / ((256 ^ (5 + 1) : Nat) : Int) by rw [show ((256 ^ (5 + 1) : Nat) : Int) = 281474976710656 by decide, hz']; omega)
      clear hz'
      go_wp2
      exact ⟨⟨6, _, by omega, by simp, rfl, ⟨he.out⟩, by rw [show rcells n 6 = #[.int .u8 0, .int .u8 0, .int .u8 (wb n 2), .int .u8 (wb n 3), .int .u8 (wb n 4), .int .u8 (wb n 5), .int .u8 (wb n 6), .int .u8 (wb n 7)] from rfl, hd.out]⟩, by simp [intOf]⟩
    | 6, _, hz =>
      rw [show rcells n 6 = #[.int .u8 0, .int .u8 0, .int .u8 (wb n 2), .int .u8 (wb n 3), .int .u8 (wb n 4), .int .u8 (wb n 5), .int .u8 (wb n 6), .int .u8 (wb n 7)] from rfl]
      have hz' : z = u / 281474976710656 := hz.out
      have hd := Lib.hid (show wb n 1 = z % 256 by rw [wb1, HU.out, hz'])
      have he := Lib.hid (show z / 256 = u / ((256 ^ (6 + 1) : Nat) : Int) by rw [show ((256 ^ (6 + 1) : Nat) : Int) = 72057594037927936 by decide, hz']; omega)
      clear hz'
      go_wp2
      exact ⟨⟨7, _, by omega, by simp, rfl, ⟨he.out⟩, by rw [show rcells n 7 = #[.int .u8 0, .int .u8 (wb n 1), .int .u8 (wb n 2), .int .u8 (wb n 3), .int .u8 (wb n 4), .int .u8 (wb n 5), .int .u8 (wb n 6), .int .u8 (wb n 7)] from rfl, hd.out]⟩, by simp [intOf]⟩
    | 7, _, hz =>
      rw [show rcells n 7 = #[.int .u8 0, .int .u8 (wb n 1), .int .u8 (wb n 2), .int .u8 (wb n 3), .int .u8 (wb n 4), .int .u8 (wb n 5), .int .u8 (wb n 6), .int .u8 (wb n 7)] from rfl]
      have hz' : z = u / 72057594037927936 := hz.out
      have hd := Lib.hid (show wb n 0 = z % 256 by rw [wb0, HU.out, hz'])
      have he := Lib.hid (show z / 256 = u / ((256 ^ (7 + 1) : Nat) : Int) by rw [show ((256 ^ (7 + 1) : Nat) : Int) = 18446744073709551616 by decide, hz']; omega)
      clear hz'
      go_wp2
      exact ⟨⟨8, _, by omega, by simp, rfl, ⟨he.out⟩, by rw [show rcells n 8 = #[.int .u8 (wb n 0), .int .u8 (wb n 1), .int .u8 (wb n 2), .int .u8 (wb n 3), .int .u8 (wb n 4), .int .u8 (wb n 5), .int .u8 (wb n 6), .int .u8 (wb n 7)] from rfl, hd.out]⟩, by simp [intOf]⟩
    | 8, _, _ =>
      go_wp2
      go_ret
      exact ⟨rfl, rfl⟩
end Go.Proofs.YteaapekkoahilaaDoor.Nu

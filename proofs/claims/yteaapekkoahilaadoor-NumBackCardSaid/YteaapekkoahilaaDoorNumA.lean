/-
  Contracts of package num and of its reference: the sum of bytes.
-/
import Derived.Test.YteaapekkoahilaaDoorBase
import Derived.Test.YteaapekkoahilaaDoorSpec01
namespace Go.Proofs.YteaapekkoahilaaDoor.Nu
open Go.RowKit Go.Proofs.YteaapekkoahilaaDoor.B Go.Proofs.YteaapekkoahilaaDoor.S01
set_option linter.unusedVariables false
set_option linter.unusedSimpArgs false

/-- A value reads, in a world, as these bytes. -/
def BRead (w : World) (A : Option Addr) (n : Nat) (l : List UInt8) : Prop :=
  l.length = n ∧ (n : Int) ≤ 9223372036854775807 ∧ (0 < n → ∃ ad, A = some ad ∧ ∀ i, i < n → w.cell? (ad.add i) = some (.int .u8 (by' l i)))
theorem BRead.at_ {w : World} {A : Option Addr} {n : Nat} {l : List UInt8} (h : BRead w A n l) (i : Nat) (hi : i < n) : ∃ ad, A = some ad ∧ w.cell? (ad.add i) = some (.int .u8 (by' l i)) := by
  obtain ⟨ad, e, hc⟩ := h.2.2 (by omega)
  exact ⟨ad, e, hc i hi⟩
theorem BRead.below {w w1 : World} {A : Option Addr} {n : Nat} {l : List UInt8} (h : BRead w A n l) (hb : Below w.heap.size w w1) : BRead w1 A n l :=
  ⟨h.1, h.2.1, fun hn => by
    obtain ⟨ad, e, hc⟩ := h.2.2 hn
    exact ⟨ad, e, fun i hi => keepC hb (hc i hi)⟩⟩
theorem xor_nat (a b : Nat) (ha : a < 4294967296) (hb : b < 4294967296) : bits .xor .u32 (a : Int) (b : Int) = ((a ^^^ b : Nat) : Int) := by
  have h32 : IntKind.u32.bits = 32 := rfl
  simp only [bits, BitVec.ofInt_natCast, BitVec.toNat_xor, BitVec.toNat_ofNat, h32]
  rw [Nat.mod_eq_of_lt (by omega), Nat.mod_eq_of_lt (by omega), IntKind.wrap_u32]
  have := xor_lt ha hb
  omega
theorem and_one (y : Nat) (h : y < 4294967296) : bits .and .u32 (y : Int) 1 = (y : Int) % 2 := by
  have h32 : IntKind.u32.bits = 32 := rfl
  have := bits_mask .u32 32 (by rw [h32]; exact Nat.le_refl _) (fun n h0 h1 => by rw [IntKind.wrap_u32]; omega) 1 (by omega) (y : Int) (by omega) (by omega)
  simpa using this
theorem step_int (y : Nat) (h : y < 4294967296) : bits .xor .u32 ((y : Int) / 2) (bits .and .u32 3988292384 (-bits .and .u32 (y : Int) 1 % 4294967296)) = ((stepN y : Nat) : Int) := by
  rw [and_one y h]
  unfold stepN
  have e : (y : Int) / 2 = ((y / 2 : Nat) : Int) := by omega
  rw [e]
  by_cases hy : y % 2 = 1
  · rw [if_pos hy]
    have e1 : -((y : Int) % 2) % 4294967296 = 4294967295 := by omega
    rw [e1]
    have e2 : bits .and .u32 3988292384 4294967295 = 3988292384 := by decide +kernel
    rw [e2]
    exact xor_nat (y / 2) 3988292384 (by omega) (by omega)
  · rw [if_neg hy]
    have e1 : -((y : Int) % 2) % 4294967296 = 0 := by omega
    rw [e1]
    have e2 : bits .and .u32 3988292384 0 = ((0 : Nat) : Int) := by decide +kernel
    rw [e2, xor_nat (y / 2) 0 (by omega) (by omega), Nat.xor_zero]
theorem by_nat (l : List UInt8) (k : Nat) : by' l k = (((l.getD k 0).toNat : Nat) : Int) := rfl

set_option maxHeartbeats 1000000 in
theorem Crc_calls (A : Option Addr) (n c : Nat) (l : List UInt8) (w : World) (hr : BRead w A n l) :
    Calls Tryd.prog 20 #[.slice A n c] w fun e w' => e = .returned (.int .u32 (crcF l : Nat)) ∧ w = w' := by
  have hn : n ≤ 9223372036854775807 := by have := hr.2.1; omega
  have HR := Lib.hid hr; clear hr
  go_enter Tryd.func20, Tryd.ntmps20
  go_wp2
  go_loop [3, 8] (fun v3 v8 => ∃ k : Nat, ∃ x : Nat, k ≤ n ∧ v8 = .int .i64 k ∧ v3 = .int .u32 (x : Int) ∧ Asd (x = crcN (l.take k)) ∧ x < 4294967296) (fun _ v8 => n - (intOf v8).toNat)
  case atStart => exact ⟨0, 4294967295, Nat.zero_le _, rfl, rfl, ⟨rfl⟩, by omega⟩
  case round =>
    obtain ⟨k, x, hk, rfl, rfl, hx, hlt⟩ := hrel
    by_cases hkn : k < n
    · obtain ⟨ad, rfl, hcell⟩ := HR.out.at_ k hkn
      obtain ⟨b0, b1⟩ := by_range l k
      have hx0 := Lib.hid (show bits .xor .u32 (x : Int) (by' l k) = ((x ^^^ (l.getD k 0).toNat : Nat) : Int) from xor_nat x _ hlt (by have := (l.getD k 0).toNat_lt; omega))
      go_wp2
      go_loop [3, 16] (fun v3 v16 => ∃ j : Nat, ∃ y : Nat, j ≤ 8 ∧ v16 = .int .i64 j ∧ v3 = .int .u32 (y : Int) ∧ Asd (y = stepsN j (x ^^^ (l.getD k 0).toNat)) ∧ y < 4294967296) (fun _ v16 => 8 - (intOf v16).toNat)
      case atStart => exact ⟨0, x ^^^ (l.getD k 0).toNat, by omega, rfl, by rw [← hx0.out], ⟨rfl⟩, xor_lt hlt (by have := (l.getD k 0).toNat_lt; omega)⟩
      case round =>
        obtain ⟨j, y, hj, rfl, rfl, hy, hyl⟩ := hrel
        by_cases hj8 : j < 8
        · have hs := Lib.hid (step_int y hyl)
          go_wp2
          exact ⟨⟨j + 1, stepN y, by omega, by go_num, by rw [hs.out], ⟨by rw [stepsN_succ, hy.out]⟩, stepN_lt hyl⟩, by simp [intOf]; omega⟩
        · have ej : j = 8 := by omega
          have hb := Lib.hid (show y = crcN (l.take (k + 1)) by rw [crcN_take l k (by rw [HR.out.1]; exact hkn), hy.out, ej, hx.out]; rfl)
          go_wp2
          exact ⟨⟨k + 1, y, by omega, by go_num, rfl, ⟨hb.out⟩, hyl⟩, by simp [intOf]; omega⟩
    · have hk' := Lib.hid (show bits .xor .u32 IntKind.u32.max (x : Int) = ((crcF l : Nat) : Int) by
        have e : l.take k = l := List.take_of_length_le (by rw [HR.out.1]; omega)
        have em : IntKind.u32.max = ((4294967295 : Nat) : Int) := by decide +kernel
        rw [em, xor_nat 4294967295 x (by omega) hlt, hx.out, e]
        unfold crcF; rw [Nat.xor_comm])
      go_wp2
      all_goals first
        | (exfalso; revert ‹IntKind.u32.signed = true›; decide)
        | (go_ret; exact ⟨by rw [← hk'.out]; rfl, rfl⟩)

set_option maxHeartbeats 1000000 in
theorem refCrc_calls (A : Option Addr) (n c : Nat) (l : List UInt8) (w : World) (hr : BRead w A n l) :
    Calls Tryd.prog 21 #[.slice A n c] w fun e w' => e = .returned (.int .u32 (crcF l : Nat)) ∧ w = w' := by
  have hn : n ≤ 9223372036854775807 := by have := hr.2.1; omega
  have HR := Lib.hid hr; clear hr
  go_enter Tryd.func21, Tryd.ntmps21
  go_wp2
  go_loop [3, 4] (fun v3 v4 => ∃ k : Nat, ∃ x : Nat, k ≤ n ∧ v4 = .int .i64 k ∧ v3 = .int .u32 (x : Int) ∧ Asd (x = crcN (l.take k)) ∧ x < 4294967296) (fun _ v4 => n - (intOf v4).toNat)
  case atStart => exact ⟨0, 4294967295, Nat.zero_le _, rfl, rfl, ⟨rfl⟩, by omega⟩
  case round =>
    obtain ⟨k, x, hk, rfl, rfl, hx, hlt⟩ := hrel
    by_cases hkn : k < n
    · obtain ⟨ad, rfl, hcell⟩ := HR.out.at_ k hkn
      obtain ⟨b0, b1⟩ := by_range l k
      have hx0 := Lib.hid (show bits .xor .u32 (x : Int) (by' l k) = ((x ^^^ (l.getD k 0).toNat : Nat) : Int) from xor_nat x _ hlt (by have := (l.getD k 0).toNat_lt; omega))
      go_wp2
      go_loop [3, 5, 6] (fun v3 v5 _ => ∃ j : Nat, ∃ y : Nat, j ≤ 8 ∧ v5 = .int .i64 j ∧ v3 = .int .u32 (y : Int) ∧ Asd (y = stepsN j (x ^^^ (l.getD k 0).toNat)) ∧ y < 4294967296) (fun _ v5 _ => 8 - (intOf v5).toNat)
      case atStart => exact ⟨0, x ^^^ (l.getD k 0).toNat, by omega, rfl, by rw [← hx0.out], ⟨rfl⟩, xor_lt hlt (by have := (l.getD k 0).toNat_lt; omega)⟩
      case round =>
        obtain ⟨j, y, hj, rfl, rfl, hy, hyl⟩ := hrel
        by_cases hj8 : j < 8
        · by_cases hodd : y % 2 = 1
          · have ho : ((y : Int) % 2 == 1) = true := beq_iff_eq.2 (by omega)
            have hs := Lib.hid (show bits .xor .u32 ((y : Int) / 2) 3988292384 = ((stepN y : Nat) : Int) by
              have e : (y : Int) / 2 = ((y / 2 : Nat) : Int) := by omega
              unfold stepN
              rw [if_pos hodd, e]
              exact xor_nat (y / 2) 3988292384 (by omega) (by omega))
            go_wp2
            exact ⟨⟨j + 1, stepN y, by omega, by go_num, by rw [hs.out], ⟨by rw [stepsN_succ, hy.out]⟩, stepN_lt hyl⟩, by simp [intOf]; omega⟩
          · have ho : ((y : Int) % 2 == 1) = false := beq_eq_false_iff_ne.2 (by omega)
            have hs := Lib.hid (show (y : Int) / 2 = ((stepN y : Nat) : Int) by
              unfold stepN
              rw [if_neg hodd]; omega)
            go_wp2
            exact ⟨⟨j + 1, stepN y, by omega, by go_num, by rw [hs.out], ⟨by rw [stepsN_succ, hy.out]⟩, stepN_lt hyl⟩, by simp [intOf]; omega⟩
        · have ej : j = 8 := by omega
          have hb := Lib.hid (show y = crcN (l.take (k + 1)) by rw [crcN_take l k (by rw [HR.out.1]; exact hkn), hy.out, ej, hx.out]; rfl)
          go_wp2
          exact ⟨⟨k + 1, y, by omega, by go_num, rfl, ⟨hb.out⟩, hyl⟩, by simp [intOf]; omega⟩
    · have hk' := Lib.hid (show bits .xor .u32 (x : Int) 4294967295 = ((crcF l : Nat) : Int) by
        have e : l.take k = l := List.take_of_length_le (by rw [HR.out.1]; omega)
        have := xor_nat x 4294967295 hlt (by omega)
        rw [show (4294967295 : Int) = ((4294967295 : Nat) : Int) from rfl, this, hx.out, e]
        rfl)
      go_wp2
      go_ret
      exact ⟨by rw [← hk'.out]; rfl, rfl⟩
end Go.Proofs.YteaapekkoahilaaDoor.Nu

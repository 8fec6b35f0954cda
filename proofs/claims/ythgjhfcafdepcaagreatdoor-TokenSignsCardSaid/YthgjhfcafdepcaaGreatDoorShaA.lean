/-
  SHA-256: rotating (the program's and the document's). Printed by wip/tools/gen_sha_a.py.
-/
import Derived.Test.YthgjhfcafdepcaaGreatDoorShaS
import Derived.Test.YthgjhfcafdepcaaGreatDoorMem
import Derived.Laws.BitsLemmas
namespace Go.Proofs.YthgjhfcafdepcaaGreatDoor.Sh
open Go.RowKit Go.Proofs.YthgjhfcafdepcaaGreatDoor.B
open Go.Proofs.YthgjhfcafdepcaaGreatDoor.M hiding Bs
set_option linter.unusedVariables false
set_option linter.unusedSimpArgs false

abbrev uw (x : UInt32) : Value := .int .u32 (x.toNat : Int)
theorem u32_lt (x : UInt32) : (x.toNat : Int) < 4294967296 := by have := x.toNat_lt; omega
theorem wraps_u32 (n : Int) (h₀ : 0 ≤ n) (h₁ : n < 2 ^ 32) : IntKind.u32.wrap n = n := by rw [IntKind.wrap_u32]; omega
theorem or_u (a b : UInt32) : bits .or .u32 (a.toNat : Int) (b.toNat : Int) = ((a ||| b).toNat : Int) := by
  rw [(bits_nat .u32 32 (by decide) wraps_u32 a.toNat b.toNat a.toNat_lt b.toNat_lt).2, UInt32.toNat_or]
theorem and_u (a b : UInt32) : bits .and .u32 (a.toNat : Int) (b.toNat : Int) = ((a &&& b).toNat : Int) := by
  rw [(bits_nat .u32 32 (by decide) wraps_u32 a.toNat b.toNat a.toNat_lt b.toNat_lt).1, UInt32.toNat_and]
theorem xor_u (a b : UInt32) : bits .xor .u32 (a.toNat : Int) (b.toNat : Int) = ((a ^^^ b).toNat : Int) := by
  have h32 : IntKind.u32.bits = 32 := rfl
  have ha := a.toNat_lt
  have hb := b.toNat_lt
  have hx := (a ^^^ b).toNat_lt
  rw [UInt32.toNat_xor] at hx ⊢
  simp only [bits, BitVec.ofInt_natCast, BitVec.toNat_xor, BitVec.toNat_ofNat, h32]
  rw [Nat.mod_eq_of_lt (by omega), Nat.mod_eq_of_lt (by omega), IntKind.wrap_u32]
  omega
theorem add_u (a b : UInt32) : ((a.toNat : Int) + (b.toNat : Int)) % (4294967296 : Int) = ((a + b).toNat : Int) := by
  rw [UInt32.toNat_add]; omega
theorem rot_comm (x k j : UInt32) (h : 32 - k = j) : x <<< j ||| x >>> k = rot x k := by
  unfold rot
  rw [h, UInt32.or_comm]
theorem rot_same (x k j : UInt32) (h : 32 - k = j) : x >>> k ||| x <<< j = rot x k := by
  unfold rot
  rw [h]
theorem shr2 (x : UInt32) : (x.toNat : Int) / (4 : Int) = ((x >>> 2).toNat : Int) := by
  rw [UInt32.toNat_shiftRight, show ((2 : UInt32).toNat % 32) = 2 from rfl, Nat.shiftRight_eq_div_pow]
  omega
theorem shr3 (x : UInt32) : (x.toNat : Int) / (8 : Int) = ((x >>> 3).toNat : Int) := by
  rw [UInt32.toNat_shiftRight, show ((3 : UInt32).toNat % 32) = 3 from rfl, Nat.shiftRight_eq_div_pow]
  omega
theorem shr6 (x : UInt32) : (x.toNat : Int) / (64 : Int) = ((x >>> 6).toNat : Int) := by
  rw [UInt32.toNat_shiftRight, show ((6 : UInt32).toNat % 32) = 6 from rfl, Nat.shiftRight_eq_div_pow]
  omega
theorem shr7 (x : UInt32) : (x.toNat : Int) / (128 : Int) = ((x >>> 7).toNat : Int) := by
  rw [UInt32.toNat_shiftRight, show ((7 : UInt32).toNat % 32) = 7 from rfl, Nat.shiftRight_eq_div_pow]
  omega
theorem shr10 (x : UInt32) : (x.toNat : Int) / (1024 : Int) = ((x >>> 10).toNat : Int) := by
  rw [UInt32.toNat_shiftRight, show ((10 : UInt32).toNat % 32) = 10 from rfl, Nat.shiftRight_eq_div_pow]
  omega
theorem shr11 (x : UInt32) : (x.toNat : Int) / (2048 : Int) = ((x >>> 11).toNat : Int) := by
  rw [UInt32.toNat_shiftRight, show ((11 : UInt32).toNat % 32) = 11 from rfl, Nat.shiftRight_eq_div_pow]
  omega
theorem shr13 (x : UInt32) : (x.toNat : Int) / (8192 : Int) = ((x >>> 13).toNat : Int) := by
  rw [UInt32.toNat_shiftRight, show ((13 : UInt32).toNat % 32) = 13 from rfl, Nat.shiftRight_eq_div_pow]
  omega
theorem shr14 (x : UInt32) : (x.toNat : Int) / (16384 : Int) = ((x >>> 14).toNat : Int) := by
  rw [UInt32.toNat_shiftRight, show ((14 : UInt32).toNat % 32) = 14 from rfl, Nat.shiftRight_eq_div_pow]
  omega
theorem shr15 (x : UInt32) : (x.toNat : Int) / (32768 : Int) = ((x >>> 15).toNat : Int) := by
  rw [UInt32.toNat_shiftRight, show ((15 : UInt32).toNat % 32) = 15 from rfl, Nat.shiftRight_eq_div_pow]
  omega
theorem shr17 (x : UInt32) : (x.toNat : Int) / (131072 : Int) = ((x >>> 17).toNat : Int) := by
  rw [UInt32.toNat_shiftRight, show ((17 : UInt32).toNat % 32) = 17 from rfl, Nat.shiftRight_eq_div_pow]
  omega
theorem shr18 (x : UInt32) : (x.toNat : Int) / (262144 : Int) = ((x >>> 18).toNat : Int) := by
  rw [UInt32.toNat_shiftRight, show ((18 : UInt32).toNat % 32) = 18 from rfl, Nat.shiftRight_eq_div_pow]
  omega
theorem shr19 (x : UInt32) : (x.toNat : Int) / (524288 : Int) = ((x >>> 19).toNat : Int) := by
  rw [UInt32.toNat_shiftRight, show ((19 : UInt32).toNat % 32) = 19 from rfl, Nat.shiftRight_eq_div_pow]
  omega
theorem shr21 (x : UInt32) : (x.toNat : Int) / (2097152 : Int) = ((x >>> 21).toNat : Int) := by
  rw [UInt32.toNat_shiftRight, show ((21 : UInt32).toNat % 32) = 21 from rfl, Nat.shiftRight_eq_div_pow]
  omega
theorem shr22 (x : UInt32) : (x.toNat : Int) / (4194304 : Int) = ((x >>> 22).toNat : Int) := by
  rw [UInt32.toNat_shiftRight, show ((22 : UInt32).toNat % 32) = 22 from rfl, Nat.shiftRight_eq_div_pow]
  omega
theorem shr25 (x : UInt32) : (x.toNat : Int) / (33554432 : Int) = ((x >>> 25).toNat : Int) := by
  rw [UInt32.toNat_shiftRight, show ((25 : UInt32).toNat % 32) = 25 from rfl, Nat.shiftRight_eq_div_pow]
  omega
theorem shr26 (x : UInt32) : (x.toNat : Int) / (67108864 : Int) = ((x >>> 26).toNat : Int) := by
  rw [UInt32.toNat_shiftRight, show ((26 : UInt32).toNat % 32) = 26 from rfl, Nat.shiftRight_eq_div_pow]
  omega
theorem shr30 (x : UInt32) : (x.toNat : Int) / (1073741824 : Int) = ((x >>> 30).toNat : Int) := by
  rw [UInt32.toNat_shiftRight, show ((30 : UInt32).toNat % 32) = 30 from rfl, Nat.shiftRight_eq_div_pow]
  omega
theorem shl7 (x : UInt32) : (x.toNat : Int) * (128 : Int) % (4294967296 : Int) = ((x <<< 7).toNat : Int) := by
  rw [UInt32.toNat_shiftLeft, show ((7 : UInt32).toNat % 32) = 7 from rfl, Nat.shiftLeft_eq]
  omega
theorem shl10 (x : UInt32) : (x.toNat : Int) * (1024 : Int) % (4294967296 : Int) = ((x <<< 10).toNat : Int) := by
  rw [UInt32.toNat_shiftLeft, show ((10 : UInt32).toNat % 32) = 10 from rfl, Nat.shiftLeft_eq]
  omega
theorem shl13 (x : UInt32) : (x.toNat : Int) * (8192 : Int) % (4294967296 : Int) = ((x <<< 13).toNat : Int) := by
  rw [UInt32.toNat_shiftLeft, show ((13 : UInt32).toNat % 32) = 13 from rfl, Nat.shiftLeft_eq]
  omega
theorem shl14 (x : UInt32) : (x.toNat : Int) * (16384 : Int) % (4294967296 : Int) = ((x <<< 14).toNat : Int) := by
  rw [UInt32.toNat_shiftLeft, show ((14 : UInt32).toNat % 32) = 14 from rfl, Nat.shiftLeft_eq]
  omega
theorem shl15 (x : UInt32) : (x.toNat : Int) * (32768 : Int) % (4294967296 : Int) = ((x <<< 15).toNat : Int) := by
  rw [UInt32.toNat_shiftLeft, show ((15 : UInt32).toNat % 32) = 15 from rfl, Nat.shiftLeft_eq]
  omega
theorem shl19 (x : UInt32) : (x.toNat : Int) * (524288 : Int) % (4294967296 : Int) = ((x <<< 19).toNat : Int) := by
  rw [UInt32.toNat_shiftLeft, show ((19 : UInt32).toNat % 32) = 19 from rfl, Nat.shiftLeft_eq]
  omega
theorem shl21 (x : UInt32) : (x.toNat : Int) * (2097152 : Int) % (4294967296 : Int) = ((x <<< 21).toNat : Int) := by
  rw [UInt32.toNat_shiftLeft, show ((21 : UInt32).toNat % 32) = 21 from rfl, Nat.shiftLeft_eq]
  omega
theorem shl25 (x : UInt32) : (x.toNat : Int) * (33554432 : Int) % (4294967296 : Int) = ((x <<< 25).toNat : Int) := by
  rw [UInt32.toNat_shiftLeft, show ((25 : UInt32).toNat % 32) = 25 from rfl, Nat.shiftLeft_eq]
  omega
theorem shl26 (x : UInt32) : (x.toNat : Int) * (67108864 : Int) % (4294967296 : Int) = ((x <<< 26).toNat : Int) := by
  rw [UInt32.toNat_shiftLeft, show ((26 : UInt32).toNat % 32) = 26 from rfl, Nat.shiftLeft_eq]
  omega
theorem shl30 (x : UInt32) : (x.toNat : Int) * (1073741824 : Int) % (4294967296 : Int) = ((x <<< 30).toNat : Int) := by
  rw [UInt32.toNat_shiftLeft, show ((30 : UInt32).toNat % 32) = 30 from rfl, Nat.shiftLeft_eq]
  omega
set_option maxRecDepth 100000 in
set_option maxHeartbeats 1000000 in
theorem turn17 (x : UInt32) (w : World) : Calls Tryz.prog 85 #[uw x, .int .i64 17] w fun e w' => e = .returned (uw (rot x 17)) ∧ w' = w := by
  have hx0 : (0 : Int) ≤ (x.toNat : Int) := by omega
  have hx1 := u32_lt x
  have hb : bits .and .u64 (IntKind.u64.wrap (-17)) 31 = 15 := by decide +kernel
  have HE := Lib.hid (show bits .or .u32 ((x.toNat : Int) * (32768 : Int) % (4294967296 : Int)) ((x.toNat : Int) / (131072 : Int)) = ((rot x 17).toNat : Int) by
    rw [shl15, shr17, or_u, rot_comm x 17 15 rfl])
  have HC : Hid (Calls Tryz.prog 101 #[uw x, .int .i64 (-17)] w fun e w' => e = .returned (uw (rot x 17)) ∧ w' = w) := Lib.hid (by
    go_enter Tryz.func101, Tryz.ntmps101
    go_wp2
    go_ret
    exact ⟨by rw [HE.out] <;> rfl, rfl⟩)
  clear hb HE
  go_enter Tryz.func85, Tryz.ntmps85
  go_wp2_with fail
  refine HC.out.mono ?_
  rintro e w' ⟨rfl, rfl⟩
  go_wp2
  go_ret
  exact ⟨rfl, rfl⟩
set_option maxRecDepth 100000 in
set_option maxHeartbeats 1000000 in
theorem turned17 (x : UInt32) (w : World) : Calls Tryz.prog 89 #[uw x, .int .u64 17] w fun e w' => e = .returned (uw (rot x 17)) ∧ w' = w := by
  have hx0 : (0 : Int) ≤ (x.toNat : Int) := by omega
  have hx1 := u32_lt x
  have HE := Lib.hid (show bits .or .u32 ((x.toNat : Int) / (131072 : Int)) ((x.toNat : Int) * (32768 : Int) % (4294967296 : Int)) = ((rot x 17).toNat : Int) by
    rw [shl15, shr17, or_u, rot_same x 17 15 rfl])
  go_enter Tryz.func89, Tryz.ntmps89
  go_wp2
  go_ret
  exact ⟨by rw [HE.out] <;> rfl, rfl⟩
set_option maxRecDepth 100000 in
set_option maxHeartbeats 1000000 in
theorem turn19 (x : UInt32) (w : World) : Calls Tryz.prog 85 #[uw x, .int .i64 19] w fun e w' => e = .returned (uw (rot x 19)) ∧ w' = w := by
  have hx0 : (0 : Int) ≤ (x.toNat : Int) := by omega
  have hx1 := u32_lt x
  have hb : bits .and .u64 (IntKind.u64.wrap (-19)) 31 = 13 := by decide +kernel
  have HE := Lib.hid (show bits .or .u32 ((x.toNat : Int) * (8192 : Int) % (4294967296 : Int)) ((x.toNat : Int) / (524288 : Int)) = ((rot x 19).toNat : Int) by
    rw [shl13, shr19, or_u, rot_comm x 19 13 rfl])
  have HC : Hid (Calls Tryz.prog 101 #[uw x, .int .i64 (-19)] w fun e w' => e = .returned (uw (rot x 19)) ∧ w' = w) := Lib.hid (by
    go_enter Tryz.func101, Tryz.ntmps101
    go_wp2
    go_ret
    exact ⟨by rw [HE.out] <;> rfl, rfl⟩)
  clear hb HE
  go_enter Tryz.func85, Tryz.ntmps85
  go_wp2_with fail
  refine HC.out.mono ?_
  rintro e w' ⟨rfl, rfl⟩
  go_wp2
  go_ret
  exact ⟨rfl, rfl⟩
set_option maxRecDepth 100000 in
set_option maxHeartbeats 1000000 in
theorem turned19 (x : UInt32) (w : World) : Calls Tryz.prog 89 #[uw x, .int .u64 19] w fun e w' => e = .returned (uw (rot x 19)) ∧ w' = w := by
  have hx0 : (0 : Int) ≤ (x.toNat : Int) := by omega
  have hx1 := u32_lt x
  have HE := Lib.hid (show bits .or .u32 ((x.toNat : Int) / (524288 : Int)) ((x.toNat : Int) * (8192 : Int) % (4294967296 : Int)) = ((rot x 19).toNat : Int) by
    rw [shl13, shr19, or_u, rot_same x 19 13 rfl])
  go_enter Tryz.func89, Tryz.ntmps89
  go_wp2
  go_ret
  exact ⟨by rw [HE.out] <;> rfl, rfl⟩
set_option maxRecDepth 100000 in
set_option maxHeartbeats 1000000 in
theorem turn7 (x : UInt32) (w : World) : Calls Tryz.prog 85 #[uw x, .int .i64 7] w fun e w' => e = .returned (uw (rot x 7)) ∧ w' = w := by
  have hx0 : (0 : Int) ≤ (x.toNat : Int) := by omega
  have hx1 := u32_lt x
  have hb : bits .and .u64 (IntKind.u64.wrap (-7)) 31 = 25 := by decide +kernel
  have HE := Lib.hid (show bits .or .u32 ((x.toNat : Int) * (33554432 : Int) % (4294967296 : Int)) ((x.toNat : Int) / (128 : Int)) = ((rot x 7).toNat : Int) by
    rw [shl25, shr7, or_u, rot_comm x 7 25 rfl])
  have HC : Hid (Calls Tryz.prog 101 #[uw x, .int .i64 (-7)] w fun e w' => e = .returned (uw (rot x 7)) ∧ w' = w) := Lib.hid (by
    go_enter Tryz.func101, Tryz.ntmps101
    go_wp2
    go_ret
    exact ⟨by rw [HE.out] <;> rfl, rfl⟩)
  clear hb HE
  go_enter Tryz.func85, Tryz.ntmps85
  go_wp2_with fail
  refine HC.out.mono ?_
  rintro e w' ⟨rfl, rfl⟩
  go_wp2
  go_ret
  exact ⟨rfl, rfl⟩
set_option maxRecDepth 100000 in
set_option maxHeartbeats 1000000 in
theorem turned7 (x : UInt32) (w : World) : Calls Tryz.prog 89 #[uw x, .int .u64 7] w fun e w' => e = .returned (uw (rot x 7)) ∧ w' = w := by
  have hx0 : (0 : Int) ≤ (x.toNat : Int) := by omega
  have hx1 := u32_lt x
  have HE := Lib.hid (show bits .or .u32 ((x.toNat : Int) / (128 : Int)) ((x.toNat : Int) * (33554432 : Int) % (4294967296 : Int)) = ((rot x 7).toNat : Int) by
    rw [shl25, shr7, or_u, rot_same x 7 25 rfl])
  go_enter Tryz.func89, Tryz.ntmps89
  go_wp2
  go_ret
  exact ⟨by rw [HE.out] <;> rfl, rfl⟩
set_option maxRecDepth 100000 in
set_option maxHeartbeats 1000000 in
theorem turn18 (x : UInt32) (w : World) : Calls Tryz.prog 85 #[uw x, .int .i64 18] w fun e w' => e = .returned (uw (rot x 18)) ∧ w' = w := by
  have hx0 : (0 : Int) ≤ (x.toNat : Int) := by omega
  have hx1 := u32_lt x
  have hb : bits .and .u64 (IntKind.u64.wrap (-18)) 31 = 14 := by decide +kernel
  have HE := Lib.hid (show bits .or .u32 ((x.toNat : Int) * (16384 : Int) % (4294967296 : Int)) ((x.toNat : Int) / (262144 : Int)) = ((rot x 18).toNat : Int) by
    rw [shl14, shr18, or_u, rot_comm x 18 14 rfl])
  have HC : Hid (Calls Tryz.prog 101 #[uw x, .int .i64 (-18)] w fun e w' => e = .returned (uw (rot x 18)) ∧ w' = w) := Lib.hid (by
    go_enter Tryz.func101, Tryz.ntmps101
    go_wp2
    go_ret
    exact ⟨by rw [HE.out] <;> rfl, rfl⟩)
  clear hb HE
  go_enter Tryz.func85, Tryz.ntmps85
  go_wp2_with fail
  refine HC.out.mono ?_
  rintro e w' ⟨rfl, rfl⟩
  go_wp2
  go_ret
  exact ⟨rfl, rfl⟩
set_option maxRecDepth 100000 in
set_option maxHeartbeats 1000000 in
theorem turned18 (x : UInt32) (w : World) : Calls Tryz.prog 89 #[uw x, .int .u64 18] w fun e w' => e = .returned (uw (rot x 18)) ∧ w' = w := by
  have hx0 : (0 : Int) ≤ (x.toNat : Int) := by omega
  have hx1 := u32_lt x
  have HE := Lib.hid (show bits .or .u32 ((x.toNat : Int) / (262144 : Int)) ((x.toNat : Int) * (16384 : Int) % (4294967296 : Int)) = ((rot x 18).toNat : Int) by
    rw [shl14, shr18, or_u, rot_same x 18 14 rfl])
  go_enter Tryz.func89, Tryz.ntmps89
  go_wp2
  go_ret
  exact ⟨by rw [HE.out] <;> rfl, rfl⟩
set_option maxRecDepth 100000 in
set_option maxHeartbeats 1000000 in
theorem turn6 (x : UInt32) (w : World) : Calls Tryz.prog 85 #[uw x, .int .i64 6] w fun e w' => e = .returned (uw (rot x 6)) ∧ w' = w := by
  have hx0 : (0 : Int) ≤ (x.toNat : Int) := by omega
  have hx1 := u32_lt x
  have hb : bits .and .u64 (IntKind.u64.wrap (-6)) 31 = 26 := by decide +kernel
  have HE := Lib.hid (show bits .or .u32 ((x.toNat : Int) * (67108864 : Int) % (4294967296 : Int)) ((x.toNat : Int) / (64 : Int)) = ((rot x 6).toNat : Int) by
    rw [shl26, shr6, or_u, rot_comm x 6 26 rfl])
  have HC : Hid (Calls Tryz.prog 101 #[uw x, .int .i64 (-6)] w fun e w' => e = .returned (uw (rot x 6)) ∧ w' = w) := Lib.hid (by
    go_enter Tryz.func101, Tryz.ntmps101
    go_wp2
    go_ret
    exact ⟨by rw [HE.out] <;> rfl, rfl⟩)
  clear hb HE
  go_enter Tryz.func85, Tryz.ntmps85
  go_wp2_with fail
  refine HC.out.mono ?_
  rintro e w' ⟨rfl, rfl⟩
  go_wp2
  go_ret
  exact ⟨rfl, rfl⟩
set_option maxRecDepth 100000 in
set_option maxHeartbeats 1000000 in
theorem turned6 (x : UInt32) (w : World) : Calls Tryz.prog 89 #[uw x, .int .u64 6] w fun e w' => e = .returned (uw (rot x 6)) ∧ w' = w := by
  have hx0 : (0 : Int) ≤ (x.toNat : Int) := by omega
  have hx1 := u32_lt x
  have HE := Lib.hid (show bits .or .u32 ((x.toNat : Int) / (64 : Int)) ((x.toNat : Int) * (67108864 : Int) % (4294967296 : Int)) = ((rot x 6).toNat : Int) by
    rw [shl26, shr6, or_u, rot_same x 6 26 rfl])
  go_enter Tryz.func89, Tryz.ntmps89
  go_wp2
  go_ret
  exact ⟨by rw [HE.out] <;> rfl, rfl⟩
set_option maxRecDepth 100000 in
set_option maxHeartbeats 1000000 in
theorem turn11 (x : UInt32) (w : World) : Calls Tryz.prog 85 #[uw x, .int .i64 11] w fun e w' => e = .returned (uw (rot x 11)) ∧ w' = w := by
  have hx0 : (0 : Int) ≤ (x.toNat : Int) := by omega
  have hx1 := u32_lt x
  have hb : bits .and .u64 (IntKind.u64.wrap (-11)) 31 = 21 := by decide +kernel
  have HE := Lib.hid (show bits .or .u32 ((x.toNat : Int) * (2097152 : Int) % (4294967296 : Int)) ((x.toNat : Int) / (2048 : Int)) = ((rot x 11).toNat : Int) by
    rw [shl21, shr11, or_u, rot_comm x 11 21 rfl])
  have HC : Hid (Calls Tryz.prog 101 #[uw x, .int .i64 (-11)] w fun e w' => e = .returned (uw (rot x 11)) ∧ w' = w) := Lib.hid (by
    go_enter Tryz.func101, Tryz.ntmps101
    go_wp2
    go_ret
    exact ⟨by rw [HE.out] <;> rfl, rfl⟩)
  clear hb HE
  go_enter Tryz.func85, Tryz.ntmps85
  go_wp2_with fail
  refine HC.out.mono ?_
  rintro e w' ⟨rfl, rfl⟩
  go_wp2
  go_ret
  exact ⟨rfl, rfl⟩
set_option maxRecDepth 100000 in
set_option maxHeartbeats 1000000 in
theorem turned11 (x : UInt32) (w : World) : Calls Tryz.prog 89 #[uw x, .int .u64 11] w fun e w' => e = .returned (uw (rot x 11)) ∧ w' = w := by
  have hx0 : (0 : Int) ≤ (x.toNat : Int) := by omega
  have hx1 := u32_lt x
  have HE := Lib.hid (show bits .or .u32 ((x.toNat : Int) / (2048 : Int)) ((x.toNat : Int) * (2097152 : Int) % (4294967296 : Int)) = ((rot x 11).toNat : Int) by
    rw [shl21, shr11, or_u, rot_same x 11 21 rfl])
  go_enter Tryz.func89, Tryz.ntmps89
  go_wp2
  go_ret
  exact ⟨by rw [HE.out] <;> rfl, rfl⟩
set_option maxRecDepth 100000 in
set_option maxHeartbeats 1000000 in
theorem turn25 (x : UInt32) (w : World) : Calls Tryz.prog 85 #[uw x, .int .i64 25] w fun e w' => e = .returned (uw (rot x 25)) ∧ w' = w := by
  have hx0 : (0 : Int) ≤ (x.toNat : Int) := by omega
  have hx1 := u32_lt x
  have hb : bits .and .u64 (IntKind.u64.wrap (-25)) 31 = 7 := by decide +kernel
  have HE := Lib.hid (show bits .or .u32 ((x.toNat : Int) * (128 : Int) % (4294967296 : Int)) ((x.toNat : Int) / (33554432 : Int)) = ((rot x 25).toNat : Int) by
    rw [shl7, shr25, or_u, rot_comm x 25 7 rfl])
  have HC : Hid (Calls Tryz.prog 101 #[uw x, .int .i64 (-25)] w fun e w' => e = .returned (uw (rot x 25)) ∧ w' = w) := Lib.hid (by
    go_enter Tryz.func101, Tryz.ntmps101
    go_wp2
    go_ret
    exact ⟨by rw [HE.out] <;> rfl, rfl⟩)
  clear hb HE
  go_enter Tryz.func85, Tryz.ntmps85
  go_wp2_with fail
  refine HC.out.mono ?_
  rintro e w' ⟨rfl, rfl⟩
  go_wp2
  go_ret
  exact ⟨rfl, rfl⟩
set_option maxRecDepth 100000 in
set_option maxHeartbeats 1000000 in
theorem turned25 (x : UInt32) (w : World) : Calls Tryz.prog 89 #[uw x, .int .u64 25] w fun e w' => e = .returned (uw (rot x 25)) ∧ w' = w := by
  have hx0 : (0 : Int) ≤ (x.toNat : Int) := by omega
  have hx1 := u32_lt x
  have HE := Lib.hid (show bits .or .u32 ((x.toNat : Int) / (33554432 : Int)) ((x.toNat : Int) * (128 : Int) % (4294967296 : Int)) = ((rot x 25).toNat : Int) by
    rw [shl7, shr25, or_u, rot_same x 25 7 rfl])
  go_enter Tryz.func89, Tryz.ntmps89
  go_wp2
  go_ret
  exact ⟨by rw [HE.out] <;> rfl, rfl⟩
set_option maxRecDepth 100000 in
set_option maxHeartbeats 1000000 in
theorem turn2 (x : UInt32) (w : World) : Calls Tryz.prog 85 #[uw x, .int .i64 2] w fun e w' => e = .returned (uw (rot x 2)) ∧ w' = w := by
  have hx0 : (0 : Int) ≤ (x.toNat : Int) := by omega
  have hx1 := u32_lt x
  have hb : bits .and .u64 (IntKind.u64.wrap (-2)) 31 = 30 := by decide +kernel
  have HE := Lib.hid (show bits .or .u32 ((x.toNat : Int) * (1073741824 : Int) % (4294967296 : Int)) ((x.toNat : Int) / (4 : Int)) = ((rot x 2).toNat : Int) by
    rw [shl30, shr2, or_u, rot_comm x 2 30 rfl])
  have HC : Hid (Calls Tryz.prog 101 #[uw x, .int .i64 (-2)] w fun e w' => e = .returned (uw (rot x 2)) ∧ w' = w) := Lib.hid (by
    go_enter Tryz.func101, Tryz.ntmps101
    go_wp2
    go_ret
    exact ⟨by rw [HE.out] <;> rfl, rfl⟩)
  clear hb HE
  go_enter Tryz.func85, Tryz.ntmps85
  go_wp2_with fail
  refine HC.out.mono ?_
  rintro e w' ⟨rfl, rfl⟩
  go_wp2
  go_ret
  exact ⟨rfl, rfl⟩
set_option maxRecDepth 100000 in
set_option maxHeartbeats 1000000 in
theorem turned2 (x : UInt32) (w : World) : Calls Tryz.prog 89 #[uw x, .int .u64 2] w fun e w' => e = .returned (uw (rot x 2)) ∧ w' = w := by
  have hx0 : (0 : Int) ≤ (x.toNat : Int) := by omega
  have hx1 := u32_lt x
  have HE := Lib.hid (show bits .or .u32 ((x.toNat : Int) / (4 : Int)) ((x.toNat : Int) * (1073741824 : Int) % (4294967296 : Int)) = ((rot x 2).toNat : Int) by
    rw [shl30, shr2, or_u, rot_same x 2 30 rfl])
  go_enter Tryz.func89, Tryz.ntmps89
  go_wp2
  go_ret
  exact ⟨by rw [HE.out] <;> rfl, rfl⟩
set_option maxRecDepth 100000 in
set_option maxHeartbeats 1000000 in
theorem turn13 (x : UInt32) (w : World) : Calls Tryz.prog 85 #[uw x, .int .i64 13] w fun e w' => e = .returned (uw (rot x 13)) ∧ w' = w := by
  have hx0 : (0 : Int) ≤ (x.toNat : Int) := by omega
  have hx1 := u32_lt x
  have hb : bits .and .u64 (IntKind.u64.wrap (-13)) 31 = 19 := by decide +kernel
  have HE := Lib.hid (show bits .or .u32 ((x.toNat : Int) * (524288 : Int) % (4294967296 : Int)) ((x.toNat : Int) / (8192 : Int)) = ((rot x 13).toNat : Int) by
    rw [shl19, shr13, or_u, rot_comm x 13 19 rfl])
  have HC : Hid (Calls Tryz.prog 101 #[uw x, .int .i64 (-13)] w fun e w' => e = .returned (uw (rot x 13)) ∧ w' = w) := Lib.hid (by
    go_enter Tryz.func101, Tryz.ntmps101
    go_wp2
    go_ret
    exact ⟨by rw [HE.out] <;> rfl, rfl⟩)
  clear hb HE
  go_enter Tryz.func85, Tryz.ntmps85
  go_wp2_with fail
  refine HC.out.mono ?_
  rintro e w' ⟨rfl, rfl⟩
  go_wp2
  go_ret
  exact ⟨rfl, rfl⟩
set_option maxRecDepth 100000 in
set_option maxHeartbeats 1000000 in
theorem turned13 (x : UInt32) (w : World) : Calls Tryz.prog 89 #[uw x, .int .u64 13] w fun e w' => e = .returned (uw (rot x 13)) ∧ w' = w := by
  have hx0 : (0 : Int) ≤ (x.toNat : Int) := by omega
  have hx1 := u32_lt x
  have HE := Lib.hid (show bits .or .u32 ((x.toNat : Int) / (8192 : Int)) ((x.toNat : Int) * (524288 : Int) % (4294967296 : Int)) = ((rot x 13).toNat : Int) by
    rw [shl19, shr13, or_u, rot_same x 13 19 rfl])
  go_enter Tryz.func89, Tryz.ntmps89
  go_wp2
  go_ret
  exact ⟨by rw [HE.out] <;> rfl, rfl⟩
set_option maxRecDepth 100000 in
set_option maxHeartbeats 1000000 in
theorem turn22 (x : UInt32) (w : World) : Calls Tryz.prog 85 #[uw x, .int .i64 22] w fun e w' => e = .returned (uw (rot x 22)) ∧ w' = w := by
  have hx0 : (0 : Int) ≤ (x.toNat : Int) := by omega
  have hx1 := u32_lt x
  have hb : bits .and .u64 (IntKind.u64.wrap (-22)) 31 = 10 := by decide +kernel
  have HE := Lib.hid (show bits .or .u32 ((x.toNat : Int) * (1024 : Int) % (4294967296 : Int)) ((x.toNat : Int) / (4194304 : Int)) = ((rot x 22).toNat : Int) by
    rw [shl10, shr22, or_u, rot_comm x 22 10 rfl])
  have HC : Hid (Calls Tryz.prog 101 #[uw x, .int .i64 (-22)] w fun e w' => e = .returned (uw (rot x 22)) ∧ w' = w) := Lib.hid (by
    go_enter Tryz.func101, Tryz.ntmps101
    go_wp2
    go_ret
    exact ⟨by rw [HE.out] <;> rfl, rfl⟩)
  clear hb HE
  go_enter Tryz.func85, Tryz.ntmps85
  go_wp2_with fail
  refine HC.out.mono ?_
  rintro e w' ⟨rfl, rfl⟩
  go_wp2
  go_ret
  exact ⟨rfl, rfl⟩
set_option maxRecDepth 100000 in
set_option maxHeartbeats 1000000 in
theorem turned22 (x : UInt32) (w : World) : Calls Tryz.prog 89 #[uw x, .int .u64 22] w fun e w' => e = .returned (uw (rot x 22)) ∧ w' = w := by
  have hx0 : (0 : Int) ≤ (x.toNat : Int) := by omega
  have hx1 := u32_lt x
  have HE := Lib.hid (show bits .or .u32 ((x.toNat : Int) / (4194304 : Int)) ((x.toNat : Int) * (1024 : Int) % (4294967296 : Int)) = ((rot x 22).toNat : Int) by
    rw [shl10, shr22, or_u, rot_same x 22 10 rfl])
  go_enter Tryz.func89, Tryz.ntmps89
  go_wp2
  go_ret
  exact ⟨by rw [HE.out] <;> rfl, rfl⟩
end Go.Proofs.YthgjhfcafdepcaaGreatDoor.Sh

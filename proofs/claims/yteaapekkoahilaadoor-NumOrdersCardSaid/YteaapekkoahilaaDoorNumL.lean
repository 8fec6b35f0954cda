/-
  The laws of layer 1, walked: NumOrders.
-/
import Derived.Test.YteaapekkoahilaaDoorNumJ
namespace Go.Proofs.YteaapekkoahilaaDoor.Nu
open Go.RowKit Go.Proofs.YteaapekkoahilaaDoor.B Go.Proofs.YteaapekkoahilaaDoor.S01
set_option linter.unusedVariables false
set_option linter.unusedSimpArgs false

/-! The plain law: eight bytes order as their numbers. -/
def dg : Nat → Nat → List UInt8
  | 0, _ => []
  | k + 1, n => UInt8.ofNat (n / 256 ^ k % 256) :: dg k n
theorem mod_split (n k : Nat) : n % 256 ^ (k + 1) = (n / 256 ^ k % 256) * 256 ^ k + n % 256 ^ k := by
  rw [Nat.pow_succ, Nat.mod_mul, Nat.mul_comm]; omega
theorem lex_lt {A B r s p : Nat} (hr : r < p) (hs : s < p) : (A * p + r < B * p + s) ↔ (A < B ∨ A = B ∧ r < s) := by
  rcases Nat.lt_trichotomy A B with h | h | h
  · have := Nat.mul_le_mul_right p (show A + 1 ≤ B from h)
    rw [Nat.add_mul] at this
    constructor
    · intro _; exact .inl h
    · intro _; omega
  · subst h
    constructor
    · intro h2; exact .inr ⟨rfl, by omega⟩
    · rintro (h2 | ⟨_, h2⟩) <;> omega
  · have := Nat.mul_le_mul_right p (show B + 1 ≤ A from h)
    rw [Nat.add_mul] at this
    constructor
    · intro _; omega
    · rintro (h2 | ⟨h2, _⟩) <;> omega
theorem lex_eq {A B r s p : Nat} (hr : r < p) (hs : s < p) : (A * p + r = B * p + s) ↔ (A = B ∧ r = s) := by
  rcases Nat.lt_trichotomy A B with h | h | h
  · have := Nat.mul_le_mul_right p (show A + 1 ≤ B from h)
    rw [Nat.add_mul] at this
    constructor
    · intro _; omega
    · rintro ⟨h2, _⟩; omega
  · subst h
    constructor
    · intro h2; exact ⟨rfl, by omega⟩
    · rintro ⟨_, rfl⟩; rfl
  · have := Nat.mul_le_mul_right p (show B + 1 ≤ A from h)
    rw [Nat.add_mul] at this
    constructor
    · intro _; omega
    · rintro ⟨h2, _⟩; omega
theorem u8_lt (a b : Nat) : (UInt8.ofNat (a % 256) < UInt8.ofNat (b % 256)) ↔ a % 256 < b % 256 := by
  rw [UInt8.lt_iff_toNat_lt, UInt8.toNat_ofNat', UInt8.toNat_ofNat']; omega
theorem u8_eq (a b : Nat) : (UInt8.ofNat (a % 256) = UInt8.ofNat (b % 256)) ↔ a % 256 = b % 256 := by
  rw [← UInt8.toNat_inj, UInt8.toNat_ofNat', UInt8.toNat_ofNat']; omega
theorem dg_lt (n m : Nat) : ∀ k, Op.bytesLess (dg k n) (dg k m) = decide (n % 256 ^ k < m % 256 ^ k)
  | 0 => by simp [dg, Op.bytesLess, Nat.mod_one]
  | k + 1 => by
    have hp : 0 < 256 ^ k := Nat.pow_pos (by omega)
    rw [dg, dg, Op.bytesLess, dg_lt n m k, mod_split, mod_split]
    apply Bool.eq_iff_iff.2
    simp only [Bool.or_eq_true, Bool.and_eq_true, decide_eq_true_eq, beq_iff_eq]
    rw [lex_lt (Nat.mod_lt _ hp) (Nat.mod_lt _ hp), u8_lt, u8_eq]
theorem dg_eq (n m : Nat) : ∀ k, dg k n = dg k m ↔ n % 256 ^ k = m % 256 ^ k
  | 0 => by simp [dg, Nat.mod_one]
  | k + 1 => by
    have hp : 0 < 256 ^ k := Nat.pow_pos (by omega)
    rw [dg, dg, mod_split, mod_split, List.cons.injEq, dg_eq n m k, lex_eq (Nat.mod_lt _ hp) (Nat.mod_lt _ hp), u8_eq]
theorem wrap_of {x : Int} (h0 : 0 ≤ x) (h1 : x ≤ 9223372036854775807) : IntKind.u64.wrap x = x := by
  simp [IntKind.wrap, IntKind.bits, IntKind.signed]; omega
theorem wide_dg (n : Nat) (h : n ≤ 9223372036854775807) : wideF (n : Int) = dg 8 n := by
  have e : ∀ k : Nat, UInt8.ofNat (n / 256 ^ k % 256) = toB ((n : Int) / ((256 ^ k : Nat) : Int) % 256) := by
    intro k
    unfold toB
    congr 1
  have hw := wrap_of (x := (n : Int)) (by omega) (by omega)
  unfold wideF wb
  rw [hw]
  simp only [dg, e]
  rfl
theorem wide_lt {a b : Int} (a0 : 0 ≤ a) (a1 : a ≤ 9223372036854775807) (b0 : 0 ≤ b) (b1 : b ≤ 9223372036854775807) : Op.bytesLess (wideF a) (wideF b) = decide (a < b) ∧ (wideF a == wideF b) = (a == b) := by
  obtain ⟨n, rfl⟩ := Int.eq_ofNat_of_zero_le a0
  obtain ⟨m, rfl⟩ := Int.eq_ofNat_of_zero_le b0
  rw [wide_dg n (by omega), wide_dg m (by omega)]
  have e1 : n % 256 ^ 8 = n := Nat.mod_eq_of_lt (by rw [show (256 : Nat) ^ 8 = 18446744073709551616 by decide]; omega)
  have e2 : m % 256 ^ 8 = m := Nat.mod_eq_of_lt (by rw [show (256 : Nat) ^ 8 = 18446744073709551616 by decide]; omega)
  constructor
  · rw [dg_lt, e1, e2]
    apply Bool.eq_iff_iff.2
    simp only [decide_eq_true_eq]; omega
  · apply Bool.eq_iff_iff.2
    simp only [beq_iff_eq]
    rw [dg_eq, e1, e2]; omega
set_option maxRecDepth 100000 in
set_option maxHeartbeats 1000000 in
theorem NumOrders_calls (a b : Int) (w : World) (a1 : a ≤ 9223372036854775807) (b1 : b ≤ 9223372036854775807) (ht : Tab w) :
    Calls Tryd.prog 6 #[.int .i64 a, .int .i64 b] w (TruePost w) := by
  by_cases ha : a < 0
  · go_enter Tryd.func6, Tryd.ntmps6
    go_wp2_with fail
    refine (awake_calls w ht).mono ?_
    rintro e w1 ⟨rfl, hb1⟩
    go_wp2
    go_ret
    exact ⟨rfl, hb1⟩
  · by_cases hb : b < 0
    · go_enter Tryd.func6, Tryd.ntmps6
      go_wp2_with fail
      refine (awake_calls w ht).mono ?_
      rintro e w1 ⟨rfl, hb1⟩
      go_wp2
      go_ret
      exact ⟨rfl, hb1⟩
    · go_enter Tryd.func6, Tryd.ntmps6
      go_wp2_with fail
      refine (awake_calls w ht).mono ?_
      rintro e w1 ⟨rfl, hb1⟩
      go_wp2_with fail
      refine (Wide_own a w1).mono ?_
      rintro e w2 ⟨v2, rfl, hown2, hb2'⟩
      have hb2 := keepB hb1 hb2'
      have hcv2 := own_conv hown2
      clear hown2 hb2'
      go_wp2_with fail
      refine (Wide_own b w2).mono ?_
      rintro e w3 ⟨v3, rfl, hown3, hb3'⟩
      have hb3 := keepB hb2 hb3'
      have hcv3 := own_conv hown3
      clear hown3 hb3'
      obtain ⟨f1, f2⟩ := wide_lt (show 0 ≤ a by omega) a1 (show 0 ≤ b by omega) b1
      generalize wideF a = x at *
      generalize wideF b = y at *
      go_wp2
      all_goals go_ret
      all_goals exact ⟨rfl, hb3⟩
end Go.Proofs.YteaapekkoahilaaDoor.Nu

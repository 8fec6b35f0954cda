/-
  Contracts of package num and of its reference: eight bytes read; a number in groups read.
-/
import Derived.Test.YteaapekkoahilaaDoorNumB
namespace Go.Proofs.YteaapekkoahilaaDoor.Nu
open Go.RowKit Go.Proofs.YteaapekkoahilaaDoor.B Go.Proofs.YteaapekkoahilaaDoor.S01
set_option linter.unusedVariables false
set_option linter.unusedSimpArgs false

theorem w64 (x : Int) : wrap64 x = IntKind.i64.wrap x := by rw [IntKind.wrap_i64]; unfold wrap64; omega
theorem join64 (x : Int) (y : Int) (hx0 : 0 ≤ x) (hx : x < 72057594037927936) (h0 : 0 ≤ y) (h1 : y ≤ 255) : bits .or .u64 (x * 256) y = x * 256 + y := by
  have h64 : IntKind.u64.bits = 64 := rfl
  exact bits_join .u64 64 (by rw [h64]; exact Nat.le_refl _) (fun n h0 h1 => by simp [IntKind.wrap, IntKind.bits, IntKind.signed]; omega) 8 _ _ (by omega) (by omega) (by omega) h0 (by omega) (by omega)

set_option maxRecDepth 100000 in
set_option maxHeartbeats 1000000 in
theorem Narrow_calls (A : Option Addr) (n c : Nat) (l : List UInt8) (w : World) (hr : BRead w A n l) :
    Calls Tryd.prog 23 #[.slice A n c] w fun e w' => e = .returned (.tuple #[.int .i64 (narrowF l).1, .int .i64 (narrowF l).2]) ∧ w = w' := by
  have hn : n ≤ 9223372036854775807 := by have := hr.2.1; omega
  by_cases h8 : n = 8
  · subst h8
    have hf : Hid (narrowF l = (IntKind.i64.wrap (accN l 8 : Nat), 0)) := Lib.hid (by unfold narrowF; rw [if_pos hr.1])
    have HR := Lib.hid hr; clear hr
    go_enter Tryd.func23, Tryd.ntmps23
    go_wp2
    go_loop [4, 12] (fun v4 vi => ∃ k : Nat, ∃ x : Int, k ≤ 8 ∧ vi = .int .i64 k ∧ v4 = .int .u64 x ∧ Asd (x = (accN l k : Nat))) (fun _ vi => 8 - (intOf vi).toNat)
    case atStart => exact ⟨0, 0, Nat.zero_le _, rfl, rfl, ⟨rfl⟩⟩
    case round =>
      obtain ⟨k, x, hk, rfl, rfl, hx⟩ := hrel
      by_cases hkn : k < 8
      · obtain ⟨ad, rfl, hcell⟩ := HR.out.at_ k hkn
        obtain ⟨b0, b1⟩ := by_range l k
        have hx0 : 0 ≤ x := by rw [hx.out]; omega
        have hlt : x < 72057594037927936 := by have := accN_lt7 l k (by omega); rw [hx.out]; omega
        have hor := Lib.hid (join64 x (by' l k) hx0 hlt b0 b1)
        have hs := Lib.hid (show ((accN l (k + 1) : Nat) : Int) = x * 256 + by' l k by rw [hx.out]; unfold by'; simp [accN])
        go_wp2
        exact ⟨⟨k + 1, _, by omega, by go_num, rfl, ⟨by rw [hs.out, hor.out]⟩⟩, by simp [intOf]; omega⟩
      · have ek : k = 8 := by omega
        subst ek
        go_wp2
        go_ret2
        exact ⟨by rw [hf.out, ← hx.out]; simp [w64], rfl⟩
  · have hf : Hid (narrowF l = (0, 1)) := Lib.hid (by unfold narrowF; rw [if_neg (by rw [hr.1]; exact h8)])
    have hne : ((n : Int) != 8) = true := by rw [bne_iff_ne]; omega
    go_enter Tryd.func23, Tryd.ntmps23
    go_wp2
    go_ret2
    exact ⟨by rw [hf.out]; rfl, rfl⟩

set_option maxRecDepth 100000 in
set_option maxHeartbeats 1000000 in
theorem refNarrow_calls (A : Option Addr) (n c : Nat) (l : List UInt8) (w : World) (hr : BRead w A n l) :
    Calls Tryd.prog 24 #[.slice A n c] w fun e w' => e = .returned (.tuple #[.int .i64 (narrowF l).1, .int .i64 (narrowF l).2]) ∧ w = w' := by
  have hn : n ≤ 9223372036854775807 := by have := hr.2.1; omega
  by_cases h8 : n = 8
  · subst h8
    have hf : Hid (narrowF l = (IntKind.i64.wrap (accN l 8 : Nat), 0)) := Lib.hid (by unfold narrowF; rw [if_pos hr.1])
    have HR := Lib.hid hr; clear hr
    go_enter Tryd.func24, Tryd.ntmps24
    go_wp2
    go_loop [4, 5] (fun v4 vi => ∃ k : Nat, ∃ x : Int, k ≤ 8 ∧ vi = .int .i64 k ∧ v4 = .int .u64 x ∧ Asd (x = (accN l k : Nat))) (fun _ vi => 8 - (intOf vi).toNat)
    case atStart => exact ⟨0, 0, Nat.zero_le _, rfl, rfl, ⟨rfl⟩⟩
    case round =>
      obtain ⟨k, x, hk, rfl, rfl, hx⟩ := hrel
      by_cases hkn : k < 8
      · obtain ⟨ad, rfl, hcell⟩ := HR.out.at_ k hkn
        obtain ⟨b0, b1⟩ := by_range l k
        have hx0 : 0 ≤ x := by rw [hx.out]; omega
        have hlt : x < 72057594037927936 := by have := accN_lt7 l k (by omega); rw [hx.out]; omega
        have hor := Lib.hid (join64 x (by' l k) hx0 hlt b0 b1)
        have hs := Lib.hid (show ((accN l (k + 1) : Nat) : Int) = x * 256 + by' l k by rw [hx.out]; unfold by'; simp [accN])
        go_wp2
        exact ⟨⟨k + 1, _, by omega, by go_num, rfl, ⟨by rw [hs.out]⟩⟩, by simp [intOf]; omega⟩
      · have ek : k = 8 := by omega
        subst ek
        go_wp2
        go_ret2
        exact ⟨by rw [hf.out, ← hx.out]; simp [w64], rfl⟩
  · have hf : Hid (narrowF l = (0, 1)) := Lib.hid (by unfold narrowF; rw [if_neg (by rw [hr.1]; exact h8)])
    have hne : ((n : Int) != 8) = true := by rw [bne_iff_ne]; omega
    go_enter Tryd.func24, Tryd.ntmps24
    go_wp2
    go_ret2
    exact ⟨by rw [hf.out]; rfl, rfl⟩
end Go.Proofs.YteaapekkoahilaaDoor.Nu

/-
  Contracts of package num and of its reference: a number in groups read.
-/
import Derived.Test.YteaapekkoahilaaDoorNumC
namespace Go.Proofs.YteaapekkoahilaaDoor.Nu
open Go.RowKit Go.Proofs.YteaapekkoahilaaDoor.B Go.Proofs.YteaapekkoahilaaDoor.S01
set_option linter.unusedVariables false
set_option linter.unusedSimpArgs false

theorem val_next (l : List UInt8) (k : Nat) : ((valN l (k + 1) : Nat) : Int) = (valN l k : Nat) + by' l k % 128 * (128 ^ k : Nat) := by
  unfold by'
  show ((valN l k + (l.getD k 0).toNat % 128 * 128 ^ k : Nat) : Int) = _
  push_cast
  rfl
theorem ge_step {l : List UInt8} {k : Nat} (ha : ∀ j, j < k → ¬ (l.getD j 0).toNat < 128) (h : 128 ≤ by' l k) : ∀ j, j < k + 1 → ¬ (l.getD j 0).toNat < 128 := by
  intro j hj
  by_cases e : j = k
  · subst e; unfold by' at h; omega
  · exact ha j (by omega)
theorem or64 (x y m p : Int) (i : Nat) (hi : i ≤ 63) (h0 : 0 ≤ x) (hx : x < 2 ^ i) (hm0 : 0 ≤ m) (hp : p = 2 ^ i) (hy : m * p < 9223372036854775808) : bits .or .i64 x (m * p) = x + m * p := by
  have h64 : IntKind.i64.bits = 64 := rfl
  have hpp : (0 : Int) < 2 ^ i := Int.pow_pos (by omega)
  have hmp : 0 ≤ m * p := by rw [hp]; exact Int.mul_nonneg hm0 (Int.le_of_lt hpp)
  have hle : (2 : Int) ^ i ≤ 2 ^ 63 := by
    have := Nat.pow_le_pow_right (n := 2) (by omega) hi
    exact_mod_cast this
  have hc : bits .or .i64 x (m * p) = bits .or .i64 (m * p) x := by unfold bits; simp only [BitVec.or_comm]
  rw [hc, bits_join .i64 63 (by rw [h64]; omega) (fun n h0 h1 => by rw [IntKind.wrap_i64]; omega) i (m * p) x hmp (by rw [hp]; exact Int.mul_emod_left _ _) (by omega) h0 hx (by omega)]
  omega
theorem val_bound (l : List UInt8) (k : Nat) (B : Int) (h : ((128 ^ k : Nat) : Int) = B) : 0 ≤ ((valN l k : Nat) : Int) ∧ ((valN l k : Nat) : Int) < B := by
  have := valN_lt l k
  omega

set_option maxRecDepth 100000 in
set_option maxHeartbeats 16000000 in
theorem Get_calls (A : Option Addr) (n c : Nat) (l : List UInt8) (w : World) (hr : BRead w A n l) :
    Calls Tryd.prog 16 #[.slice A n c] w fun e w' => e = .returned (.tuple #[.int .i64 ((getF l).1 : Nat), .int .i64 ((getF l).2 : Nat)]) ∧ w = w' := by
  have hn : n ≤ 9223372036854775807 := by have := hr.2.1; omega
  have HR := Lib.hid hr; clear hr
  by_cases h9 : (n : Int) < 9
  · go_enter Tryd.func16, Tryd.ntmps16
    go_wp2
    go_loop [4, 10] (fun v4 v10 => ∃ k : Nat, ∃ x : Int, k ≤ n ∧ v10 = .int .i64 k ∧ v4 = .int .i64 x ∧ Asd (x = (valN l k : Nat) ∧ ∀ j, j < k → ¬ (l.getD j 0).toNat < 128)) (fun _ v10 => n - (intOf v10).toNat)
    case atStart => exact ⟨0, 0, Nat.zero_le _, rfl, rfl, ⟨rfl, fun j hj => by omega⟩⟩
    case round =>
      obtain ⟨k, x, hk, rfl, rfl, hx⟩ := hrel
      by_cases hkn : k < n
      · obtain ⟨ad, rfl, hcell⟩ := HR.out.at_ k (by omega)
        obtain ⟨b0, b1⟩ := by_range l k
        have q0 : 0 ≤ by' l k % 128 := by omega
        have q1 : by' l k % 128 ≤ 127 := by omega
        have hnx := Lib.hid (val_next l k)
        have hkl : k < l.length := by rw [HR.out.1]; omega
        have h9k : k < 9 := by omega
        have hhit := Lib.hid (fun h => getF_hit h9k hkl hx.out.2 h)
        clear hkl
        match k, h9k, hk, hkn, hcell, b0, b1, q0, q1, hnx, hx, hhit with
        | 0, _, hk, hkn, hcell, b0, b1, q0, q1, hnx, hx, hhit =>
          obtain ⟨x0, x1⟩ : 0 ≤ x ∧ x < 1 := by rw [hx.out.1]; exact val_bound l 0 1 (by decide)
          have hcell0 : w.cell? ad = some (.int .u8 (by' l 0)) := by simpa [Addr.add] using hcell
          have hor := Lib.hid (show bits .or .i64 x (by' l 0 % 128) = ((valN l 1 : Nat) : Int) by have := or64 x 0 (by' l 0 % 128) 1 0 (by omega) x0 (by omega) q0 rfl (by omega); rw [Int.mul_one] at this; rw [this, hnx.out, hx.out.1]; simp)
          by_cases hc : by' l 0 < 128
          · have hg := Lib.hid (show getF l = (valN l 1, 1) by rw [hhit.out (by unfold by' at hc; omega), if_neg (by omega)])
            by_cases hz : by' l 0 = 0
            · have hz' : (by' l 0 == 0) = true := beq_iff_eq.2 hz
              clear hz
              go_wp2
              go_ret2
              exact ⟨by rw [hg.out, ← hor.out]; first | rfl | simp, rfl⟩
            · have hz' : (by' l 0 == 0) = false := beq_eq_false_iff_ne.2 hz
              clear hz
              go_wp2
              go_ret2
              exact ⟨by rw [hg.out, ← hor.out]; first | rfl | simp, rfl⟩
          · have hge := Lib.hid (ge_step hx.out.2 (by omega))
            go_wp2
            all_goals exact ⟨⟨1, _, by omega, by go_num, rfl, ⟨by rw [← hor.out]; try simp, hge.out⟩⟩, by simp [intOf] <;> omega⟩
        | 1, _, hk, hkn, hcell, b0, b1, q0, q1, hnx, hx, hhit =>
          obtain ⟨x0, x1⟩ : 0 ≤ x ∧ x < 128 := by rw [hx.out.1]; exact val_bound l 1 128 (by decide)
          have hcell0 : w.cell? ⟨ad.block, ad.off + 1, none⟩ = some (.int .u8 (by' l 1)) := by simpa [Addr.add] using hcell
          have hor := Lib.hid (show bits .or .i64 x (by' l 1 % 128 * 128) = ((valN l 2 : Nat) : Int) by rw [or64 x 0 (by' l 1 % 128) 128 7 (by omega) x0 (by omega) q0 (by decide) (by omega), hnx.out, hx.out.1]; rfl)
          by_cases hc : by' l 1 < 128
          · by_cases hz : by' l 1 = 0
            · have hg := Lib.hid (show getF l = (0, 0) by rw [hhit.out (by unfold by' at hc; omega), if_pos ⟨by unfold by' at hz; omega, by omega⟩])
              have hz' : (by' l 1 == 0) = true := beq_iff_eq.2 hz
              have HZ := Lib.hid hz; clear hz
              go_wp2
              all_goals (go_ret2; exact ⟨by rw [hg.out]; rfl, rfl⟩)
            · have hg := Lib.hid (show getF l = (valN l 2, 2) by rw [hhit.out (by unfold by' at hc; omega), if_neg (by unfold by' at hz; omega)])
              have hz' : (by' l 1 == 0) = false := beq_eq_false_iff_ne.2 hz
              clear hz
              go_wp2
              all_goals (go_ret2; exact ⟨by rw [hg.out, ← hor.out]; first | rfl | simp, rfl⟩)
          · have hge := Lib.hid (ge_step hx.out.2 (by omega))
            go_wp2
            all_goals exact ⟨⟨2, _, by omega, by go_num, rfl, ⟨by rw [← hor.out]; try simp, hge.out⟩⟩, by simp [intOf] <;> omega⟩
        | 2, _, hk, hkn, hcell, b0, b1, q0, q1, hnx, hx, hhit =>
          obtain ⟨x0, x1⟩ : 0 ≤ x ∧ x < 16384 := by rw [hx.out.1]; exact val_bound l 2 16384 (by decide)
          have hcell0 : w.cell? ⟨ad.block, ad.off + 2, none⟩ = some (.int .u8 (by' l 2)) := by simpa [Addr.add] using hcell
          have hor := Lib.hid (show bits .or .i64 x (by' l 2 % 128 * 16384) = ((valN l 3 : Nat) : Int) by rw [or64 x 0 (by' l 2 % 128) 16384 14 (by omega) x0 (by omega) q0 (by decide) (by omega), hnx.out, hx.out.1]; rfl)
          by_cases hc : by' l 2 < 128
          · by_cases hz : by' l 2 = 0
            · have hg := Lib.hid (show getF l = (0, 0) by rw [hhit.out (by unfold by' at hc; omega), if_pos ⟨by unfold by' at hz; omega, by omega⟩])
              have hz' : (by' l 2 == 0) = true := beq_iff_eq.2 hz
              have HZ := Lib.hid hz; clear hz
              go_wp2
              all_goals (go_ret2; exact ⟨by rw [hg.out]; rfl, rfl⟩)
            · have hg := Lib.hid (show getF l = (valN l 3, 3) by rw [hhit.out (by unfold by' at hc; omega), if_neg (by unfold by' at hz; omega)])
              have hz' : (by' l 2 == 0) = false := beq_eq_false_iff_ne.2 hz
              clear hz
              go_wp2
              all_goals (go_ret2; exact ⟨by rw [hg.out, ← hor.out]; first | rfl | simp, rfl⟩)
          · have hge := Lib.hid (ge_step hx.out.2 (by omega))
            go_wp2
            all_goals exact ⟨⟨3, _, by omega, by go_num, rfl, ⟨by rw [← hor.out]; try simp, hge.out⟩⟩, by simp [intOf] <;> omega⟩
        | 3, _, hk, hkn, hcell, b0, b1, q0, q1, hnx, hx, hhit =>
          obtain ⟨x0, x1⟩ : 0 ≤ x ∧ x < 2097152 := by rw [hx.out.1]; exact val_bound l 3 2097152 (by decide)
          have hcell0 : w.cell? ⟨ad.block, ad.off + 3, none⟩ = some (.int .u8 (by' l 3)) := by simpa [Addr.add] using hcell
          have hor := Lib.hid (show bits .or .i64 x (by' l 3 % 128 * 2097152) = ((valN l 4 : Nat) : Int) by rw [or64 x 0 (by' l 3 % 128) 2097152 21 (by omega) x0 (by omega) q0 (by decide) (by omega), hnx.out, hx.out.1]; rfl)
          by_cases hc : by' l 3 < 128
          · by_cases hz : by' l 3 = 0
            · have hg := Lib.hid (show getF l = (0, 0) by rw [hhit.out (by unfold by' at hc; omega), if_pos ⟨by unfold by' at hz; omega, by omega⟩])
              have hz' : (by' l 3 == 0) = true := beq_iff_eq.2 hz
              have HZ := Lib.hid hz; clear hz
              go_wp2
              all_goals (go_ret2; exact ⟨by rw [hg.out]; rfl, rfl⟩)
            · have hg := Lib.hid (show getF l = (valN l 4, 4) by rw [hhit.out (by unfold by' at hc; omega), if_neg (by unfold by' at hz; omega)])
              have hz' : (by' l 3 == 0) = false := beq_eq_false_iff_ne.2 hz
              clear hz
              go_wp2
              all_goals (go_ret2; exact ⟨by rw [hg.out, ← hor.out]; first | rfl | simp, rfl⟩)
          · have hge := Lib.hid (ge_step hx.out.2 (by omega))
            go_wp2
            all_goals exact ⟨⟨4, _, by omega, by go_num, rfl, ⟨by rw [← hor.out]; try simp, hge.out⟩⟩, by simp [intOf] <;> omega⟩
        | 4, _, hk, hkn, hcell, b0, b1, q0, q1, hnx, hx, hhit =>
          obtain ⟨x0, x1⟩ : 0 ≤ x ∧ x < 268435456 := by rw [hx.out.1]; exact val_bound l 4 268435456 (by decide)
          have hcell0 : w.cell? ⟨ad.block, ad.off + 4, none⟩ = some (.int .u8 (by' l 4)) := by simpa [Addr.add] using hcell
          have hor := Lib.hid (show bits .or .i64 x (by' l 4 % 128 * 268435456) = ((valN l 5 : Nat) : Int) by rw [or64 x 0 (by' l 4 % 128) 268435456 28 (by omega) x0 (by omega) q0 (by decide) (by omega), hnx.out, hx.out.1]; rfl)
          by_cases hc : by' l 4 < 128
          · by_cases hz : by' l 4 = 0
            · have hg := Lib.hid (show getF l = (0, 0) by rw [hhit.out (by unfold by' at hc; omega), if_pos ⟨by unfold by' at hz; omega, by omega⟩])
              have hz' : (by' l 4 == 0) = true := beq_iff_eq.2 hz
              have HZ := Lib.hid hz; clear hz
              go_wp2
              all_goals (go_ret2; exact ⟨by rw [hg.out]; rfl, rfl⟩)
            · have hg := Lib.hid (show getF l = (valN l 5, 5) by rw [hhit.out (by unfold by' at hc; omega), if_neg (by unfold by' at hz; omega)])
              have hz' : (by' l 4 == 0) = false := beq_eq_false_iff_ne.2 hz
              clear hz
              go_wp2
              all_goals (go_ret2; exact ⟨by rw [hg.out, ← hor.out]; first | rfl | simp, rfl⟩)
          · have hge := Lib.hid (ge_step hx.out.2 (by omega))
            go_wp2
            all_goals exact ⟨⟨5, _, by omega, by go_num, rfl, ⟨by rw [← hor.out]; try simp, hge.out⟩⟩, by simp [intOf] <;> omega⟩
        | 5, _, hk, hkn, hcell, b0, b1, q0, q1, hnx, hx, hhit =>
          obtain ⟨x0, x1⟩ : 0 ≤ x ∧ x < 34359738368 := by rw [hx.out.1]; exact val_bound l 5 34359738368 (by decide)
          have hcell0 : w.cell? ⟨ad.block, ad.off + 5, none⟩ = some (.int .u8 (by' l 5)) := by simpa [Addr.add] using hcell
          have hor := Lib.hid (show bits .or .i64 x (by' l 5 % 128 * 34359738368) = ((valN l 6 : Nat) : Int) by rw [or64 x 0 (by' l 5 % 128) 34359738368 35 (by omega) x0 (by omega) q0 (by decide) (by omega), hnx.out, hx.out.1]; rfl)
          by_cases hc : by' l 5 < 128
          · by_cases hz : by' l 5 = 0
            · have hg := Lib.hid (show getF l = (0, 0) by rw [hhit.out (by unfold by' at hc; omega), if_pos ⟨by unfold by' at hz; omega, by omega⟩])
              have hz' : (by' l 5 == 0) = true := beq_iff_eq.2 hz
              have HZ := Lib.hid hz; clear hz
              go_wp2
              all_goals (go_ret2; exact ⟨by rw [hg.out]; rfl, rfl⟩)
            · have hg := Lib.hid (show getF l = (valN l 6, 6) by rw [hhit.out (by unfold by' at hc; omega), if_neg (by unfold by' at hz; omega)])
              have hz' : (by' l 5 == 0) = false := beq_eq_false_iff_ne.2 hz
              clear hz
              go_wp2
              all_goals (go_ret2; exact ⟨by rw [hg.out, ← hor.out]; first | rfl | simp, rfl⟩)
          · have hge := Lib.hid (ge_step hx.out.2 (by omega))
            go_wp2
            all_goals exact ⟨⟨6, _, by omega, by go_num, rfl, ⟨by rw [← hor.out]; try simp, hge.out⟩⟩, by simp [intOf] <;> omega⟩
        | 6, _, hk, hkn, hcell, b0, b1, q0, q1, hnx, hx, hhit =>
          obtain ⟨x0, x1⟩ : 0 ≤ x ∧ x < 4398046511104 := by rw [hx.out.1]; exact val_bound l 6 4398046511104 (by decide)
          have hcell0 : w.cell? ⟨ad.block, ad.off + 6, none⟩ = some (.int .u8 (by' l 6)) := by simpa [Addr.add] using hcell
          have hor := Lib.hid (show bits .or .i64 x (by' l 6 % 128 * 4398046511104) = ((valN l 7 : Nat) : Int) by rw [or64 x 0 (by' l 6 % 128) 4398046511104 42 (by omega) x0 (by omega) q0 (by decide) (by omega), hnx.out, hx.out.1]; rfl)
          by_cases hc : by' l 6 < 128
          · by_cases hz : by' l 6 = 0
            · have hg := Lib.hid (show getF l = (0, 0) by rw [hhit.out (by unfold by' at hc; omega), if_pos ⟨by unfold by' at hz; omega, by omega⟩])
              have hz' : (by' l 6 == 0) = true := beq_iff_eq.2 hz
              have HZ := Lib.hid hz; clear hz
              go_wp2
              all_goals (go_ret2; exact ⟨by rw [hg.out]; rfl, rfl⟩)
            · have hg := Lib.hid (show getF l = (valN l 7, 7) by rw [hhit.out (by unfold by' at hc; omega), if_neg (by unfold by' at hz; omega)])
              have hz' : (by' l 6 == 0) = false := beq_eq_false_iff_ne.2 hz
              clear hz
              go_wp2
              all_goals (go_ret2; exact ⟨by rw [hg.out, ← hor.out]; first | rfl | simp, rfl⟩)
          · have hge := Lib.hid (ge_step hx.out.2 (by omega))
            go_wp2
            all_goals exact ⟨⟨7, _, by omega, by go_num, rfl, ⟨by rw [← hor.out]; try simp, hge.out⟩⟩, by simp [intOf] <;> omega⟩
        | 7, _, hk, hkn, hcell, b0, b1, q0, q1, hnx, hx, hhit =>
          obtain ⟨x0, x1⟩ : 0 ≤ x ∧ x < 562949953421312 := by rw [hx.out.1]; exact val_bound l 7 562949953421312 (by decide)
          have hcell0 : w.cell? ⟨ad.block, ad.off + 7, none⟩ = some (.int .u8 (by' l 7)) := by simpa [Addr.add] using hcell
          have hor := Lib.hid (show bits .or .i64 x (by' l 7 % 128 * 562949953421312) = ((valN l 8 : Nat) : Int) by rw [or64 x 0 (by' l 7 % 128) 562949953421312 49 (by omega) x0 (by omega) q0 (by decide) (by omega), hnx.out, hx.out.1]; rfl)
          by_cases hc : by' l 7 < 128
          · by_cases hz : by' l 7 = 0
            · have hg := Lib.hid (show getF l = (0, 0) by rw [hhit.out (by unfold by' at hc; omega), if_pos ⟨by unfold by' at hz; omega, by omega⟩])
              have hz' : (by' l 7 == 0) = true := beq_iff_eq.2 hz
              have HZ := Lib.hid hz; clear hz
              go_wp2
              all_goals (go_ret2; exact ⟨by rw [hg.out]; rfl, rfl⟩)
            · have hg := Lib.hid (show getF l = (valN l 8, 8) by rw [hhit.out (by unfold by' at hc; omega), if_neg (by unfold by' at hz; omega)])
              have hz' : (by' l 7 == 0) = false := beq_eq_false_iff_ne.2 hz
              clear hz
              go_wp2
              all_goals (go_ret2; exact ⟨by rw [hg.out, ← hor.out]; first | rfl | simp, rfl⟩)
          · have hge := Lib.hid (ge_step hx.out.2 (by omega))
            go_wp2
            all_goals exact ⟨⟨8, _, by omega, by go_num, rfl, ⟨by rw [← hor.out]; try simp, hge.out⟩⟩, by simp [intOf] <;> omega⟩
        | 8, _, hk, hkn, hcell, b0, b1, q0, q1, hnx, hx, hhit =>
          obtain ⟨x0, x1⟩ : 0 ≤ x ∧ x < 72057594037927936 := by rw [hx.out.1]; exact val_bound l 8 72057594037927936 (by decide)
          have hcell0 : w.cell? ⟨ad.block, ad.off + 8, none⟩ = some (.int .u8 (by' l 8)) := by simpa [Addr.add] using hcell
          have hor := Lib.hid (show bits .or .i64 x (by' l 8 % 128 * 72057594037927936) = ((valN l 9 : Nat) : Int) by rw [or64 x 0 (by' l 8 % 128) 72057594037927936 56 (by omega) x0 (by omega) q0 (by decide) (by omega), hnx.out, hx.out.1]; rfl)
          by_cases hc : by' l 8 < 128
          · by_cases hz : by' l 8 = 0
            · have hg := Lib.hid (show getF l = (0, 0) by rw [hhit.out (by unfold by' at hc; omega), if_pos ⟨by unfold by' at hz; omega, by omega⟩])
              have hz' : (by' l 8 == 0) = true := beq_iff_eq.2 hz
              have HZ := Lib.hid hz; clear hz
              go_wp2
              all_goals (go_ret2; exact ⟨by rw [hg.out]; rfl, rfl⟩)
            · have hg := Lib.hid (show getF l = (valN l 9, 9) by rw [hhit.out (by unfold by' at hc; omega), if_neg (by unfold by' at hz; omega)])
              have hz' : (by' l 8 == 0) = false := beq_eq_false_iff_ne.2 hz
              clear hz
              go_wp2
              all_goals (go_ret2; exact ⟨by rw [hg.out, ← hor.out]; first | rfl | simp, rfl⟩)
          · have hge := Lib.hid (ge_step hx.out.2 (by omega))
            go_wp2
            all_goals exact ⟨⟨9, _, by omega, by go_num, rfl, ⟨by rw [← hor.out]; try simp, hge.out⟩⟩, by simp [intOf] <;> omega⟩
      · have hg := Lib.hid (getF_none (l := l) (k := k) (by rw [HR.out.1]; omega) (by rw [HR.out.1]; omega) hx.out.2)
        obtain rfl : k = n := by omega
        go_wp2
        all_goals (go_ret2; exact ⟨by rw [hg.out]; rfl, rfl⟩)
  · have h9' : (9 : Int) ≤ (n : Int) := by omega
    go_enter Tryd.func16, Tryd.ntmps16
    go_wp2
    go_loop [4, 10] (fun v4 v10 => ∃ k : Nat, ∃ x : Int, k ≤ 9 ∧ v10 = .int .i64 k ∧ v4 = .int .i64 x ∧ Asd (x = (valN l k : Nat) ∧ ∀ j, j < k → ¬ (l.getD j 0).toNat < 128)) (fun _ v10 => 9 - (intOf v10).toNat)
    case atStart => exact ⟨0, 0, Nat.zero_le _, rfl, rfl, ⟨rfl, fun j hj => by omega⟩⟩
    case round =>
      obtain ⟨k, x, hk, rfl, rfl, hx⟩ := hrel
      by_cases hkn : k < 9
      · obtain ⟨ad, rfl, hcell⟩ := HR.out.at_ k (by omega)
        obtain ⟨b0, b1⟩ := by_range l k
        have q0 : 0 ≤ by' l k % 128 := by omega
        have q1 : by' l k % 128 ≤ 127 := by omega
        have hnx := Lib.hid (val_next l k)
        have hkl : k < l.length := by rw [HR.out.1]; omega
        have h9k : k < 9 := by omega
        have hhit := Lib.hid (fun h => getF_hit h9k hkl hx.out.2 h)
        clear hkl
        match k, h9k, hk, hkn, hcell, b0, b1, q0, q1, hnx, hx, hhit with
        | 0, _, hk, hkn, hcell, b0, b1, q0, q1, hnx, hx, hhit =>
          obtain ⟨x0, x1⟩ : 0 ≤ x ∧ x < 1 := by rw [hx.out.1]; exact val_bound l 0 1 (by decide)
          have hcell0 : w.cell? ad = some (.int .u8 (by' l 0)) := by simpa [Addr.add] using hcell
          have hor := Lib.hid (show bits .or .i64 x (by' l 0 % 128) = ((valN l 1 : Nat) : Int) by have := or64 x 0 (by' l 0 % 128) 1 0 (by omega) x0 (by omega) q0 rfl (by omega); rw [Int.mul_one] at this; rw [this, hnx.out, hx.out.1]; simp)
          by_cases hc : by' l 0 < 128
          · have hg := Lib.hid (show getF l = (valN l 1, 1) by rw [hhit.out (by unfold by' at hc; omega), if_neg (by omega)])
            by_cases hz : by' l 0 = 0
            · have hz' : (by' l 0 == 0) = true := beq_iff_eq.2 hz
              clear hz
              go_wp2
              go_ret2
              exact ⟨by rw [hg.out, ← hor.out]; first | rfl | simp, rfl⟩
            · have hz' : (by' l 0 == 0) = false := beq_eq_false_iff_ne.2 hz
              clear hz
              go_wp2
              go_ret2
              exact ⟨by rw [hg.out, ← hor.out]; first | rfl | simp, rfl⟩
          · have hge := Lib.hid (ge_step hx.out.2 (by omega))
            go_wp2
            all_goals exact ⟨⟨1, _, by omega, by go_num, rfl, ⟨by rw [← hor.out]; try simp, hge.out⟩⟩, by simp [intOf] <;> omega⟩
        | 1, _, hk, hkn, hcell, b0, b1, q0, q1, hnx, hx, hhit =>
          obtain ⟨x0, x1⟩ : 0 ≤ x ∧ x < 128 := by rw [hx.out.1]; exact val_bound l 1 128 (by decide)
          have hcell0 : w.cell? ⟨ad.block, ad.off + 1, none⟩ = some (.int .u8 (by' l 1)) := by simpa [Addr.add] using hcell
          have hor := Lib.hid (show bits .or .i64 x (by' l 1 % 128 * 128) = ((valN l 2 : Nat) : Int) by rw [or64 x 0 (by' l 1 % 128) 128 7 (by omega) x0 (by omega) q0 (by decide) (by omega), hnx.out, hx.out.1]; rfl)
          by_cases hc : by' l 1 < 128
          · by_cases hz : by' l 1 = 0
            · have hg := Lib.hid (show getF l = (0, 0) by rw [hhit.out (by unfold by' at hc; omega), if_pos ⟨by unfold by' at hz; omega, by omega⟩])
              have hz' : (by' l 1 == 0) = true := beq_iff_eq.2 hz
              have HZ := Lib.hid hz; clear hz
              go_wp2
              all_goals (go_ret2; exact ⟨by rw [hg.out]; rfl, rfl⟩)
            · have hg := Lib.hid (show getF l = (valN l 2, 2) by rw [hhit.out (by unfold by' at hc; omega), if_neg (by unfold by' at hz; omega)])
              have hz' : (by' l 1 == 0) = false := beq_eq_false_iff_ne.2 hz
              clear hz
              go_wp2
              all_goals (go_ret2; exact ⟨by rw [hg.out, ← hor.out]; first | rfl | simp, rfl⟩)
          · have hge := Lib.hid (ge_step hx.out.2 (by omega))
            go_wp2
            all_goals exact ⟨⟨2, _, by omega, by go_num, rfl, ⟨by rw [← hor.out]; try simp, hge.out⟩⟩, by simp [intOf] <;> omega⟩
        | 2, _, hk, hkn, hcell, b0, b1, q0, q1, hnx, hx, hhit =>
          obtain ⟨x0, x1⟩ : 0 ≤ x ∧ x < 16384 := by rw [hx.out.1]; exact val_bound l 2 16384 (by decide)
          have hcell0 : w.cell? ⟨ad.block, ad.off + 2, none⟩ = some (.int .u8 (by' l 2)) := by simpa [Addr.add] using hcell
          have hor := Lib.hid (show bits .or .i64 x (by' l 2 % 128 * 16384) = ((valN l 3 : Nat) : Int) by rw [or64 x 0 (by' l 2 % 128) 16384 14 (by omega) x0 (by omega) q0 (by decide) (by omega), hnx.out, hx.out.1]; rfl)
          by_cases hc : by' l 2 < 128
          · by_cases hz : by' l 2 = 0
            · have hg := Lib.hid (show getF l = (0, 0) by rw [hhit.out (by unfold by' at hc; omega), if_pos ⟨by unfold by' at hz; omega, by omega⟩])
              have hz' : (by' l 2 == 0) = true := beq_iff_eq.2 hz
              have HZ := Lib.hid hz; clear hz
              go_wp2
              all_goals (go_ret2; exact ⟨by rw [hg.out]; rfl, rfl⟩)
            · have hg := Lib.hid (show getF l = (valN l 3, 3) by rw [hhit.out (by unfold by' at hc; omega), if_neg (by unfold by' at hz; omega)])
              have hz' : (by' l 2 == 0) = false := beq_eq_false_iff_ne.2 hz
              clear hz
              go_wp2
              all_goals (go_ret2; exact ⟨by rw [hg.out, ← hor.out]; first | rfl | simp, rfl⟩)
          · have hge := Lib.hid (ge_step hx.out.2 (by omega))
            go_wp2
            all_goals exact ⟨⟨3, _, by omega, by go_num, rfl, ⟨by rw [← hor.out]; try simp, hge.out⟩⟩, by simp [intOf] <;> omega⟩
        | 3, _, hk, hkn, hcell, b0, b1, q0, q1, hnx, hx, hhit =>
          obtain ⟨x0, x1⟩ : 0 ≤ x ∧ x < 2097152 := by rw [hx.out.1]; exact val_bound l 3 2097152 (by decide)
          have hcell0 : w.cell? ⟨ad.block, ad.off + 3, none⟩ = some (.int .u8 (by' l 3)) := by simpa [Addr.add] using hcell
          have hor := Lib.hid (show bits .or .i64 x (by' l 3 % 128 * 2097152) = ((valN l 4 : Nat) : Int) by rw [or64 x 0 (by' l 3 % 128) 2097152 21 (by omega) x0 (by omega) q0 (by decide) (by omega), hnx.out, hx.out.1]; rfl)
          by_cases hc : by' l 3 < 128
          · by_cases hz : by' l 3 = 0
            · have hg := Lib.hid (show getF l = (0, 0) by rw [hhit.out (by unfold by' at hc; omega), if_pos ⟨by unfold by' at hz; omega, by omega⟩])
              have hz' : (by' l 3 == 0) = true := beq_iff_eq.2 hz
              have HZ := Lib.hid hz; clear hz
              go_wp2
              all_goals (go_ret2; exact ⟨by rw [hg.out]; rfl, rfl⟩)
            · have hg := Lib.hid (show getF l = (valN l 4, 4) by rw [hhit.out (by unfold by' at hc; omega), if_neg (by unfold by' at hz; omega)])
              have hz' : (by' l 3 == 0) = false := beq_eq_false_iff_ne.2 hz
              clear hz
              go_wp2
              all_goals (go_ret2; exact ⟨by rw [hg.out, ← hor.out]; first | rfl | simp, rfl⟩)
          · have hge := Lib.hid (ge_step hx.out.2 (by omega))
            go_wp2
            all_goals exact ⟨⟨4, _, by omega, by go_num, rfl, ⟨by rw [← hor.out]; try simp, hge.out⟩⟩, by simp [intOf] <;> omega⟩
        | 4, _, hk, hkn, hcell, b0, b1, q0, q1, hnx, hx, hhit =>
          obtain ⟨x0, x1⟩ : 0 ≤ x ∧ x < 268435456 := by rw [hx.out.1]; exact val_bound l 4 268435456 (by decide)
          have hcell0 : w.cell? ⟨ad.block, ad.off + 4, none⟩ = some (.int .u8 (by' l 4)) := by simpa [Addr.add] using hcell
          have hor := Lib.hid (show bits .or .i64 x (by' l 4 % 128 * 268435456) = ((valN l 5 : Nat) : Int) by rw [or64 x 0 (by' l 4 % 128) 268435456 28 (by omega) x0 (by omega) q0 (by decide) (by omega), hnx.out, hx.out.1]; rfl)
          by_cases hc : by' l 4 < 128
          · by_cases hz : by' l 4 = 0
            · have hg := Lib.hid (show getF l = (0, 0) by rw [hhit.out (by unfold by' at hc; omega), if_pos ⟨by unfold by' at hz; omega, by omega⟩])
              have hz' : (by' l 4 == 0) = true := beq_iff_eq.2 hz
              have HZ := Lib.hid hz; clear hz
              go_wp2
              all_goals (go_ret2; exact ⟨by rw [hg.out]; rfl, rfl⟩)
            · have hg := Lib.hid (show getF l = (valN l 5, 5) by rw [hhit.out (by unfold by' at hc; omega), if_neg (by unfold by' at hz; omega)])
              have hz' : (by' l 4 == 0) = false := beq_eq_false_iff_ne.2 hz
              clear hz
              go_wp2
              all_goals (go_ret2; exact ⟨by rw [hg.out, ← hor.out]; first | rfl | simp, rfl⟩)
          · have hge := Lib.hid (ge_step hx.out.2 (by omega))
            go_wp2
            all_goals exact ⟨⟨5, _, by omega, by go_num, rfl, ⟨by rw [← hor.out]; try simp, hge.out⟩⟩, by simp [intOf] <;> omega⟩
        | 5, _, hk, hkn, hcell, b0, b1, q0, q1, hnx, hx, hhit =>
          obtain ⟨x0, x1⟩ : 0 ≤ x ∧ x < 34359738368 := by rw [hx.out.1]; exact val_bound l 5 34359738368 (by decide)
          have hcell0 : w.cell? ⟨ad.block, ad.off + 5, none⟩ = some (.int .u8 (by' l 5)) := by simpa [Addr.add] using hcell
          have hor := Lib.hid (show bits .or .i64 x (by' l 5 % 128 * 34359738368) = ((valN l 6 : Nat) : Int) by rw [or64 x 0 (by' l 5 % 128) 34359738368 35 (by omega) x0 (by omega) q0 (by decide) (by omega), hnx.out, hx.out.1]; rfl)
          by_cases hc : by' l 5 < 128
          · by_cases hz : by' l 5 = 0
            · have hg := Lib.hid (show getF l = (0, 0) by rw [hhit.out (by unfold by' at hc; omega), if_pos ⟨by unfold by' at hz; omega, by omega⟩])
              have hz' : (by' l 5 == 0) = true := beq_iff_eq.2 hz
              have HZ := Lib.hid hz; clear hz
              go_wp2
              all_goals (go_ret2; exact ⟨by rw [hg.out]; rfl, rfl⟩)
            · have hg := Lib.hid (show getF l = (valN l 6, 6) by rw [hhit.out (by unfold by' at hc; omega), if_neg (by unfold by' at hz; omega)])
              have hz' : (by' l 5 == 0) = false := beq_eq_false_iff_ne.2 hz
              clear hz
              go_wp2
              all_goals (go_ret2; exact ⟨by rw [hg.out, ← hor.out]; first | rfl | simp, rfl⟩)
          · have hge := Lib.hid (ge_step hx.out.2 (by omega))
            go_wp2
            all_goals exact ⟨⟨6, _, by omega, by go_num, rfl, ⟨by rw [← hor.out]; try simp, hge.out⟩⟩, by simp [intOf] <;> omega⟩
        | 6, _, hk, hkn, hcell, b0, b1, q0, q1, hnx, hx, hhit =>
          obtain ⟨x0, x1⟩ : 0 ≤ x ∧ x < 4398046511104 := by rw [hx.out.1]; exact val_bound l 6 4398046511104 (by decide)
          have hcell0 : w.cell? ⟨ad.block, ad.off + 6, none⟩ = some (.int .u8 (by' l 6)) := by simpa [Addr.add] using hcell
          have hor := Lib.hid (show bits .or .i64 x (by' l 6 % 128 * 4398046511104) = ((valN l 7 : Nat) : Int) by rw [or64 x 0 (by' l 6 % 128) 4398046511104 42 (by omega) x0 (by omega) q0 (by decide) (by omega), hnx.out, hx.out.1]; rfl)
          by_cases hc : by' l 6 < 128
          · by_cases hz : by' l 6 = 0
            · have hg := Lib.hid (show getF l = (0, 0) by rw [hhit.out (by unfold by' at hc; omega), if_pos ⟨by unfold by' at hz; omega, by omega⟩])
              have hz' : (by' l 6 == 0) = true := beq_iff_eq.2 hz
              have HZ := Lib.hid hz; clear hz
              go_wp2
              all_goals (go_ret2; exact ⟨by rw [hg.out]; rfl, rfl⟩)
            · have hg := Lib.hid (show getF l = (valN l 7, 7) by rw [hhit.out (by unfold by' at hc; omega), if_neg (by unfold by' at hz; omega)])
              have hz' : (by' l 6 == 0) = false := beq_eq_false_iff_ne.2 hz
              clear hz
              go_wp2
              all_goals (go_ret2; exact ⟨by rw [hg.out, ← hor.out]; first | rfl | simp, rfl⟩)
          · have hge := Lib.hid (ge_step hx.out.2 (by omega))
            go_wp2
            all_goals exact ⟨⟨7, _, by omega, by go_num, rfl, ⟨by rw [← hor.out]; try simp, hge.out⟩⟩, by simp [intOf] <;> omega⟩
        | 7, _, hk, hkn, hcell, b0, b1, q0, q1, hnx, hx, hhit =>
          obtain ⟨x0, x1⟩ : 0 ≤ x ∧ x < 562949953421312 := by rw [hx.out.1]; exact val_bound l 7 562949953421312 (by decide)
          have hcell0 : w.cell? ⟨ad.block, ad.off + 7, none⟩ = some (.int .u8 (by' l 7)) := by simpa [Addr.add] using hcell
          have hor := Lib.hid (show bits .or .i64 x (by' l 7 % 128 * 562949953421312) = ((valN l 8 : Nat) : Int) by rw [or64 x 0 (by' l 7 % 128) 562949953421312 49 (by omega) x0 (by omega) q0 (by decide) (by omega), hnx.out, hx.out.1]; rfl)
          by_cases hc : by' l 7 < 128
          · by_cases hz : by' l 7 = 0
            · have hg := Lib.hid (show getF l = (0, 0) by rw [hhit.out (by unfold by' at hc; omega), if_pos ⟨by unfold by' at hz; omega, by omega⟩])
              have hz' : (by' l 7 == 0) = true := beq_iff_eq.2 hz
              have HZ := Lib.hid hz; clear hz
              go_wp2
              all_goals (go_ret2; exact ⟨by rw [hg.out]; rfl, rfl⟩)
            · have hg := Lib.hid (show getF l = (valN l 8, 8) by rw [hhit.out (by unfold by' at hc; omega), if_neg (by unfold by' at hz; omega)])
              have hz' : (by' l 7 == 0) = false := beq_eq_false_iff_ne.2 hz
              clear hz
              go_wp2
              all_goals (go_ret2; exact ⟨by rw [hg.out, ← hor.out]; first | rfl | simp, rfl⟩)
          · have hge := Lib.hid (ge_step hx.out.2 (by omega))
            go_wp2
            all_goals exact ⟨⟨8, _, by omega, by go_num, rfl, ⟨by rw [← hor.out]; try simp, hge.out⟩⟩, by simp [intOf] <;> omega⟩
        | 8, _, hk, hkn, hcell, b0, b1, q0, q1, hnx, hx, hhit =>
          obtain ⟨x0, x1⟩ : 0 ≤ x ∧ x < 72057594037927936 := by rw [hx.out.1]; exact val_bound l 8 72057594037927936 (by decide)
          have hcell0 : w.cell? ⟨ad.block, ad.off + 8, none⟩ = some (.int .u8 (by' l 8)) := by simpa [Addr.add] using hcell
          have hor := Lib.hid (show bits .or .i64 x (by' l 8 % 128 * 72057594037927936) = ((valN l 9 : Nat) : Int) by rw [or64 x 0 (by' l 8 % 128) 72057594037927936 56 (by omega) x0 (by omega) q0 (by decide) (by omega), hnx.out, hx.out.1]; rfl)
          by_cases hc : by' l 8 < 128
          · by_cases hz : by' l 8 = 0
            · have hg := Lib.hid (show getF l = (0, 0) by rw [hhit.out (by unfold by' at hc; omega), if_pos ⟨by unfold by' at hz; omega, by omega⟩])
              have hz' : (by' l 8 == 0) = true := beq_iff_eq.2 hz
              have HZ := Lib.hid hz; clear hz
              go_wp2
              all_goals (go_ret2; exact ⟨by rw [hg.out]; rfl, rfl⟩)
            · have hg := Lib.hid (show getF l = (valN l 9, 9) by rw [hhit.out (by unfold by' at hc; omega), if_neg (by unfold by' at hz; omega)])
              have hz' : (by' l 8 == 0) = false := beq_eq_false_iff_ne.2 hz
              clear hz
              go_wp2
              all_goals (go_ret2; exact ⟨by rw [hg.out, ← hor.out]; first | rfl | simp, rfl⟩)
          · have hge := Lib.hid (ge_step hx.out.2 (by omega))
            go_wp2
            all_goals exact ⟨⟨9, _, by omega, by go_num, rfl, ⟨by rw [← hor.out]; try simp, hge.out⟩⟩, by simp [intOf] <;> omega⟩
      · have hg := Lib.hid (getF_none (l := l) (k := k) (by rw [HR.out.1]; omega) (by rw [HR.out.1]; omega) hx.out.2)
        obtain rfl : k = 9 := by omega
        go_wp2
        all_goals (go_ret2; exact ⟨by rw [hg.out]; rfl, rfl⟩)

set_option maxRecDepth 100000 in
set_option maxHeartbeats 16000000 in
theorem refGet_calls (A : Option Addr) (n c : Nat) (l : List UInt8) (w : World) (hr : BRead w A n l) :
    Calls Tryd.prog 17 #[.slice A n c] w fun e w' => e = .returned (.tuple #[.int .i64 ((getF l).1 : Nat), .int .i64 ((getF l).2 : Nat)]) ∧ w = w' := by
  have hn : n ≤ 9223372036854775807 := by have := hr.2.1; omega
  have HR := Lib.hid hr; clear hr
  by_cases h9 : (n : Int) < 9
  · go_enter Tryd.func17, Tryd.ntmps17
    go_wp2
    go_loop [4, 5, 6] (fun v4 v5 v6 => ∃ k : Nat, ∃ x p : Int, k ≤ n ∧ v6 = .int .i64 k ∧ v4 = .int .i64 x ∧ v5 = .int .i64 p ∧ Asd (x = (valN l k : Nat) ∧ (k < 9 → p = (128 ^ k : Nat)) ∧ ∀ j, j < k → ¬ (l.getD j 0).toNat < 128)) (fun _ _ v6 => n - (intOf v6).toNat)
    case atStart => exact ⟨0, 0, 1, Nat.zero_le _, rfl, rfl, rfl, ⟨rfl, fun _ => rfl, fun j hj => by omega⟩⟩
    case round =>
      obtain ⟨k, x, p, hk, rfl, rfl, rfl, hx⟩ := hrel
      by_cases hkn : k < n
      · obtain ⟨ad, rfl, hcell⟩ := HR.out.at_ k (by omega)
        obtain ⟨b0, b1⟩ := by_range l k
        have q0 : 0 ≤ by' l k % 128 := by omega
        have q1 : by' l k % 128 ≤ 127 := by omega
        have hnx := Lib.hid (val_next l k)
        have hkl : k < l.length := by rw [HR.out.1]; omega
        have h9k : k < 9 := by omega
        have hhit := Lib.hid (fun h => getF_hit h9k hkl hx.out.2.2 h)
        clear hkl
        match k, h9k, hk, hkn, hcell, b0, b1, q0, q1, hnx, hx, hhit with
        | 0, _, hk, hkn, hcell, b0, b1, q0, q1, hnx, hx, hhit =>
          obtain ⟨x0, x1⟩ : 0 ≤ x ∧ x < 1 := by rw [hx.out.1]; exact val_bound l 0 1 (by decide)
          obtain rfl : p = 1 := by rw [hx.out.2.1 (by omega)]; decide
          have hcell0 : w.cell? ad = some (.int .u8 (by' l 0)) := by simpa [Addr.add] using hcell
          have hor := Lib.hid (show x + by' l 0 % 128 = ((valN l 1 : Nat) : Int) by rw [hnx.out, hx.out.1]; simp)
          by_cases hc : by' l 0 < 128
          · have hg := Lib.hid (show getF l = (valN l 1, 1) by rw [hhit.out (by unfold by' at hc; omega), if_neg (by omega)])
            by_cases hz : by' l 0 = 0
            · have hz' : (by' l 0 == 0) = true := beq_iff_eq.2 hz
              clear hz
              go_wp2
              go_ret2
              exact ⟨by rw [hg.out, ← hor.out]; first | rfl | simp, rfl⟩
            · have hz' : (by' l 0 == 0) = false := beq_eq_false_iff_ne.2 hz
              clear hz
              go_wp2
              go_ret2
              exact ⟨by rw [hg.out, ← hor.out]; first | rfl | simp, rfl⟩
          · have hge := Lib.hid (ge_step hx.out.2.2 (by omega))
            go_wp2
            all_goals exact ⟨⟨1, _, _, by omega, by go_num, rfl, rfl, ⟨by rw [← hor.out]; try simp, fun h => by first | rfl | decide | (exfalso; omega), hge.out⟩⟩, by simp [intOf] <;> omega⟩
        | 1, _, hk, hkn, hcell, b0, b1, q0, q1, hnx, hx, hhit =>
          obtain ⟨x0, x1⟩ : 0 ≤ x ∧ x < 128 := by rw [hx.out.1]; exact val_bound l 1 128 (by decide)
          obtain rfl : p = 128 := by rw [hx.out.2.1 (by omega)]; decide
          have hcell0 : w.cell? ⟨ad.block, ad.off + 1, none⟩ = some (.int .u8 (by' l 1)) := by simpa [Addr.add] using hcell
          have hor := Lib.hid (show x + by' l 1 % 128 * 128 = ((valN l 2 : Nat) : Int) by rw [hnx.out, hx.out.1]; rfl)
          by_cases hc : by' l 1 < 128
          · by_cases hz : by' l 1 = 0
            · have hg := Lib.hid (show getF l = (0, 0) by rw [hhit.out (by unfold by' at hc; omega), if_pos ⟨by unfold by' at hz; omega, by omega⟩])
              have hz' : (by' l 1 == 0) = true := beq_iff_eq.2 hz
              have HZ := Lib.hid hz; clear hz
              go_wp2
              all_goals (go_ret2; exact ⟨by rw [hg.out]; rfl, rfl⟩)
            · have hg := Lib.hid (show getF l = (valN l 2, 2) by rw [hhit.out (by unfold by' at hc; omega), if_neg (by unfold by' at hz; omega)])
              have hz' : (by' l 1 == 0) = false := beq_eq_false_iff_ne.2 hz
              clear hz
              go_wp2
              all_goals (go_ret2; exact ⟨by rw [hg.out, ← hor.out]; first | rfl | simp, rfl⟩)
          · have hge := Lib.hid (ge_step hx.out.2.2 (by omega))
            go_wp2
            all_goals exact ⟨⟨2, _, _, by omega, by go_num, rfl, rfl, ⟨by rw [← hor.out]; try simp, fun h => by first | rfl | decide | (exfalso; omega), hge.out⟩⟩, by simp [intOf] <;> omega⟩
        | 2, _, hk, hkn, hcell, b0, b1, q0, q1, hnx, hx, hhit =>
          obtain ⟨x0, x1⟩ : 0 ≤ x ∧ x < 16384 := by rw [hx.out.1]; exact val_bound l 2 16384 (by decide)
          obtain rfl : p = 16384 := by rw [hx.out.2.1 (by omega)]; decide
          have hcell0 : w.cell? ⟨ad.block, ad.off + 2, none⟩ = some (.int .u8 (by' l 2)) := by simpa [Addr.add] using hcell
          have hor := Lib.hid (show x + by' l 2 % 128 * 16384 = ((valN l 3 : Nat) : Int) by rw [hnx.out, hx.out.1]; rfl)
          by_cases hc : by' l 2 < 128
          · by_cases hz : by' l 2 = 0
            · have hg := Lib.hid (show getF l = (0, 0) by rw [hhit.out (by unfold by' at hc; omega), if_pos ⟨by unfold by' at hz; omega, by omega⟩])
              have hz' : (by' l 2 == 0) = true := beq_iff_eq.2 hz
              have HZ := Lib.hid hz; clear hz
              go_wp2
              all_goals (go_ret2; exact ⟨by rw [hg.out]; rfl, rfl⟩)
            · have hg := Lib.hid (show getF l = (valN l 3, 3) by rw [hhit.out (by unfold by' at hc; omega), if_neg (by unfold by' at hz; omega)])
              have hz' : (by' l 2 == 0) = false := beq_eq_false_iff_ne.2 hz
              clear hz
              go_wp2
              all_goals (go_ret2; exact ⟨by rw [hg.out, ← hor.out]; first | rfl | simp, rfl⟩)
          · have hge := Lib.hid (ge_step hx.out.2.2 (by omega))
            go_wp2
            all_goals exact ⟨⟨3, _, _, by omega, by go_num, rfl, rfl, ⟨by rw [← hor.out]; try simp, fun h => by first | rfl | decide | (exfalso; omega), hge.out⟩⟩, by simp [intOf] <;> omega⟩
        | 3, _, hk, hkn, hcell, b0, b1, q0, q1, hnx, hx, hhit =>
          obtain ⟨x0, x1⟩ : 0 ≤ x ∧ x < 2097152 := by rw [hx.out.1]; exact val_bound l 3 2097152 (by decide)
          obtain rfl : p = 2097152 := by rw [hx.out.2.1 (by omega)]; decide
          have hcell0 : w.cell? ⟨ad.block, ad.off + 3, none⟩ = some (.int .u8 (by' l 3)) := by simpa [Addr.add] using hcell
          have hor := Lib.hid (show x + by' l 3 % 128 * 2097152 = ((valN l 4 : Nat) : Int) by rw [hnx.out, hx.out.1]; rfl)
          by_cases hc : by' l 3 < 128
          · by_cases hz : by' l 3 = 0
            · have hg := Lib.hid (show getF l = (0, 0) by rw [hhit.out (by unfold by' at hc; omega), if_pos ⟨by unfold by' at hz; omega, by omega⟩])
              have hz' : (by' l 3 == 0) = true := beq_iff_eq.2 hz
              have HZ := Lib.hid hz; clear hz
              go_wp2
              all_goals (go_ret2; exact ⟨by rw [hg.out]; rfl, rfl⟩)
            · have hg := Lib.hid (show getF l = (valN l 4, 4) by rw [hhit.out (by unfold by' at hc; omega), if_neg (by unfold by' at hz; omega)])
              have hz' : (by' l 3 == 0) = false := beq_eq_false_iff_ne.2 hz
              clear hz
              go_wp2
              all_goals (go_ret2; exact ⟨by rw [hg.out, ← hor.out]; first | rfl | simp, rfl⟩)
          · have hge := Lib.hid (ge_step hx.out.2.2 (by omega))
            go_wp2
            all_goals exact ⟨⟨4, _, _, by omega, by go_num, rfl, rfl, ⟨by rw [← hor.out]; try simp, fun h => by first | rfl | decide | (exfalso; omega), hge.out⟩⟩, by simp [intOf] <;> omega⟩
        | 4, _, hk, hkn, hcell, b0, b1, q0, q1, hnx, hx, hhit =>
          obtain ⟨x0, x1⟩ : 0 ≤ x ∧ x < 268435456 := by rw [hx.out.1]; exact val_bound l 4 268435456 (by decide)
          obtain rfl : p = 268435456 := by rw [hx.out.2.1 (by omega)]; decide
          have hcell0 : w.cell? ⟨ad.block, ad.off + 4, none⟩ = some (.int .u8 (by' l 4)) := by simpa [Addr.add] using hcell
          have hor := Lib.hid (show x + by' l 4 % 128 * 268435456 = ((valN l 5 : Nat) : Int) by rw [hnx.out, hx.out.1]; rfl)
          by_cases hc : by' l 4 < 128
          · by_cases hz : by' l 4 = 0
            · have hg := Lib.hid (show getF l = (0, 0) by rw [hhit.out (by unfold by' at hc; omega), if_pos ⟨by unfold by' at hz; omega, by omega⟩])
              have hz' : (by' l 4 == 0) = true := beq_iff_eq.2 hz
              have HZ := Lib.hid hz; clear hz
              go_wp2
              all_goals (go_ret2; exact ⟨by rw [hg.out]; rfl, rfl⟩)
            · have hg := Lib.hid (show getF l = (valN l 5, 5) by rw [hhit.out (by unfold by' at hc; omega), if_neg (by unfold by' at hz; omega)])
              have hz' : (by' l 4 == 0) = false := beq_eq_false_iff_ne.2 hz
              clear hz
              go_wp2
              all_goals (go_ret2; exact ⟨by rw [hg.out, ← hor.out]; first | rfl | simp, rfl⟩)
          · have hge := Lib.hid (ge_step hx.out.2.2 (by omega))
            go_wp2
            all_goals exact ⟨⟨5, _, _, by omega, by go_num, rfl, rfl, ⟨by rw [← hor.out]; try simp, fun h => by first | rfl | decide | (exfalso; omega), hge.out⟩⟩, by simp [intOf] <;> omega⟩
        | 5, _, hk, hkn, hcell, b0, b1, q0, q1, hnx, hx, hhit =>
          obtain ⟨x0, x1⟩ : 0 ≤ x ∧ x < 34359738368 := by rw [hx.out.1]; exact val_bound l 5 34359738368 (by decide)
          obtain rfl : p = 34359738368 := by rw [hx.out.2.1 (by omega)]; decide
          have hcell0 : w.cell? ⟨ad.block, ad.off + 5, none⟩ = some (.int .u8 (by' l 5)) := by simpa [Addr.add] using hcell
          have hor := Lib.hid (show x + by' l 5 % 128 * 34359738368 = ((valN l 6 : Nat) : Int) by rw [hnx.out, hx.out.1]; rfl)
          by_cases hc : by' l 5 < 128
          · by_cases hz : by' l 5 = 0
            · have hg := Lib.hid (show getF l = (0, 0) by rw [hhit.out (by unfold by' at hc; omega), if_pos ⟨by unfold by' at hz; omega, by omega⟩])
              have hz' : (by' l 5 == 0) = true := beq_iff_eq.2 hz
              have HZ := Lib.hid hz; clear hz
              go_wp2
              all_goals (go_ret2; exact ⟨by rw [hg.out]; rfl, rfl⟩)
            · have hg := Lib.hid (show getF l = (valN l 6, 6) by rw [hhit.out (by unfold by' at hc; omega), if_neg (by unfold by' at hz; omega)])
              have hz' : (by' l 5 == 0) = false := beq_eq_false_iff_ne.2 hz
              clear hz
              go_wp2
              all_goals (go_ret2; exact ⟨by rw [hg.out, ← hor.out]; first | rfl | simp, rfl⟩)
          · have hge := Lib.hid (ge_step hx.out.2.2 (by omega))
            go_wp2
            all_goals exact ⟨⟨6, _, _, by omega, by go_num, rfl, rfl, ⟨by rw [← hor.out]; try simp, fun h => by first | rfl | decide | (exfalso; omega), hge.out⟩⟩, by simp [intOf] <;> omega⟩
        | 6, _, hk, hkn, hcell, b0, b1, q0, q1, hnx, hx, hhit =>
          obtain ⟨x0, x1⟩ : 0 ≤ x ∧ x < 4398046511104 := by rw [hx.out.1]; exact val_bound l 6 4398046511104 (by decide)
          obtain rfl : p = 4398046511104 := by rw [hx.out.2.1 (by omega)]; decide
          have hcell0 : w.cell? ⟨ad.block, ad.off + 6, none⟩ = some (.int .u8 (by' l 6)) := by simpa [Addr.add] using hcell
          have hor := Lib.hid (show x + by' l 6 % 128 * 4398046511104 = ((valN l 7 : Nat) : Int) by rw [hnx.out, hx.out.1]; rfl)
          by_cases hc : by' l 6 < 128
          · by_cases hz : by' l 6 = 0
            · have hg := Lib.hid (show getF l = (0, 0) by rw [hhit.out (by unfold by' at hc; omega), if_pos ⟨by unfold by' at hz; omega, by omega⟩])
              have hz' : (by' l 6 == 0) = true := beq_iff_eq.2 hz
              have HZ := Lib.hid hz; clear hz
              go_wp2
              all_goals (go_ret2; exact ⟨by rw [hg.out]; rfl, rfl⟩)
            · have hg := Lib.hid (show getF l = (valN l 7, 7) by rw [hhit.out (by unfold by' at hc; omega), if_neg (by unfold by' at hz; omega)])
              have hz' : (by' l 6 == 0) = false := beq_eq_false_iff_ne.2 hz
              clear hz
              go_wp2
              all_goals (go_ret2; exact ⟨by rw [hg.out, ← hor.out]; first | rfl | simp, rfl⟩)
          · have hge := Lib.hid (ge_step hx.out.2.2 (by omega))
            go_wp2
            all_goals exact ⟨⟨7, _, _, by omega, by go_num, rfl, rfl, ⟨by rw [← hor.out]; try simp, fun h => by first | rfl | decide | (exfalso; omega), hge.out⟩⟩, by simp [intOf] <;> omega⟩
        | 7, _, hk, hkn, hcell, b0, b1, q0, q1, hnx, hx, hhit =>
          obtain ⟨x0, x1⟩ : 0 ≤ x ∧ x < 562949953421312 := by rw [hx.out.1]; exact val_bound l 7 562949953421312 (by decide)
          obtain rfl : p = 562949953421312 := by rw [hx.out.2.1 (by omega)]; decide
          have hcell0 : w.cell? ⟨ad.block, ad.off + 7, none⟩ = some (.int .u8 (by' l 7)) := by simpa [Addr.add] using hcell
          have hor := Lib.hid (show x + by' l 7 % 128 * 562949953421312 = ((valN l 8 : Nat) : Int) by rw [hnx.out, hx.out.1]; rfl)
          by_cases hc : by' l 7 < 128
          · by_cases hz : by' l 7 = 0
            · have hg := Lib.hid (show getF l = (0, 0) by rw [hhit.out (by unfold by' at hc; omega), if_pos ⟨by unfold by' at hz; omega, by omega⟩])
              have hz' : (by' l 7 == 0) = true := beq_iff_eq.2 hz
              have HZ := Lib.hid hz; clear hz
              go_wp2
              all_goals (go_ret2; exact ⟨by rw [hg.out]; rfl, rfl⟩)
            · have hg := Lib.hid (show getF l = (valN l 8, 8) by rw [hhit.out (by unfold by' at hc; omega), if_neg (by unfold by' at hz; omega)])
              have hz' : (by' l 7 == 0) = false := beq_eq_false_iff_ne.2 hz
              clear hz
              go_wp2
              all_goals (go_ret2; exact ⟨by rw [hg.out, ← hor.out]; first | rfl | simp, rfl⟩)
          · have hge := Lib.hid (ge_step hx.out.2.2 (by omega))
            go_wp2
            all_goals exact ⟨⟨8, _, _, by omega, by go_num, rfl, rfl, ⟨by rw [← hor.out]; try simp, fun h => by first | rfl | decide | (exfalso; omega), hge.out⟩⟩, by simp [intOf] <;> omega⟩
        | 8, _, hk, hkn, hcell, b0, b1, q0, q1, hnx, hx, hhit =>
          obtain ⟨x0, x1⟩ : 0 ≤ x ∧ x < 72057594037927936 := by rw [hx.out.1]; exact val_bound l 8 72057594037927936 (by decide)
          obtain rfl : p = 72057594037927936 := by rw [hx.out.2.1 (by omega)]; decide
          have hcell0 : w.cell? ⟨ad.block, ad.off + 8, none⟩ = some (.int .u8 (by' l 8)) := by simpa [Addr.add] using hcell
          have hor := Lib.hid (show x + by' l 8 % 128 * 72057594037927936 = ((valN l 9 : Nat) : Int) by rw [hnx.out, hx.out.1]; rfl)
          by_cases hc : by' l 8 < 128
          · by_cases hz : by' l 8 = 0
            · have hg := Lib.hid (show getF l = (0, 0) by rw [hhit.out (by unfold by' at hc; omega), if_pos ⟨by unfold by' at hz; omega, by omega⟩])
              have hz' : (by' l 8 == 0) = true := beq_iff_eq.2 hz
              have HZ := Lib.hid hz; clear hz
              go_wp2
              all_goals (go_ret2; exact ⟨by rw [hg.out]; rfl, rfl⟩)
            · have hg := Lib.hid (show getF l = (valN l 9, 9) by rw [hhit.out (by unfold by' at hc; omega), if_neg (by unfold by' at hz; omega)])
              have hz' : (by' l 8 == 0) = false := beq_eq_false_iff_ne.2 hz
              clear hz
              go_wp2
              all_goals (go_ret2; exact ⟨by rw [hg.out, ← hor.out]; first | rfl | simp, rfl⟩)
          · have hge := Lib.hid (ge_step hx.out.2.2 (by omega))
            go_wp2
            all_goals exact ⟨⟨9, _, _, by omega, by go_num, rfl, rfl, ⟨by rw [← hor.out]; try simp, fun h => by first | rfl | decide | (exfalso; omega), hge.out⟩⟩, by simp [intOf] <;> omega⟩
      · have hg := Lib.hid (getF_none (l := l) (k := k) (by rw [HR.out.1]; omega) (by rw [HR.out.1]; omega) hx.out.2.2)
        obtain rfl : k = n := by omega
        go_wp2
        all_goals (go_ret2; exact ⟨by rw [hg.out]; rfl, rfl⟩)
  · have h9' : (9 : Int) ≤ (n : Int) := by omega
    go_enter Tryd.func17, Tryd.ntmps17
    go_wp2
    go_loop [4, 5, 6] (fun v4 v5 v6 => ∃ k : Nat, ∃ x p : Int, k ≤ 9 ∧ v6 = .int .i64 k ∧ v4 = .int .i64 x ∧ v5 = .int .i64 p ∧ Asd (x = (valN l k : Nat) ∧ (k < 9 → p = (128 ^ k : Nat)) ∧ ∀ j, j < k → ¬ (l.getD j 0).toNat < 128)) (fun _ _ v6 => 9 - (intOf v6).toNat)
    case atStart => exact ⟨0, 0, 1, Nat.zero_le _, rfl, rfl, rfl, ⟨rfl, fun _ => rfl, fun j hj => by omega⟩⟩
    case round =>
      obtain ⟨k, x, p, hk, rfl, rfl, rfl, hx⟩ := hrel
      by_cases hkn : k < 9
      · obtain ⟨ad, rfl, hcell⟩ := HR.out.at_ k (by omega)
        obtain ⟨b0, b1⟩ := by_range l k
        have q0 : 0 ≤ by' l k % 128 := by omega
        have q1 : by' l k % 128 ≤ 127 := by omega
        have hnx := Lib.hid (val_next l k)
        have hkl : k < l.length := by rw [HR.out.1]; omega
        have h9k : k < 9 := by omega
        have hhit := Lib.hid (fun h => getF_hit h9k hkl hx.out.2.2 h)
        clear hkl
        match k, h9k, hk, hkn, hcell, b0, b1, q0, q1, hnx, hx, hhit with
        | 0, _, hk, hkn, hcell, b0, b1, q0, q1, hnx, hx, hhit =>
          obtain ⟨x0, x1⟩ : 0 ≤ x ∧ x < 1 := by rw [hx.out.1]; exact val_bound l 0 1 (by decide)
          obtain rfl : p = 1 := by rw [hx.out.2.1 (by omega)]; decide
          have hcell0 : w.cell? ad = some (.int .u8 (by' l 0)) := by simpa [Addr.add] using hcell
          have hor := Lib.hid (show x + by' l 0 % 128 = ((valN l 1 : Nat) : Int) by rw [hnx.out, hx.out.1]; simp)
          by_cases hc : by' l 0 < 128
          · have hg := Lib.hid (show getF l = (valN l 1, 1) by rw [hhit.out (by unfold by' at hc; omega), if_neg (by omega)])
            by_cases hz : by' l 0 = 0
            · have hz' : (by' l 0 == 0) = true := beq_iff_eq.2 hz
              clear hz
              go_wp2
              go_ret2
              exact ⟨by rw [hg.out, ← hor.out]; first | rfl | simp, rfl⟩
            · have hz' : (by' l 0 == 0) = false := beq_eq_false_iff_ne.2 hz
              clear hz
              go_wp2
              go_ret2
              exact ⟨by rw [hg.out, ← hor.out]; first | rfl | simp, rfl⟩
          · have hge := Lib.hid (ge_step hx.out.2.2 (by omega))
            go_wp2
            all_goals exact ⟨⟨1, _, _, by omega, by go_num, rfl, rfl, ⟨by rw [← hor.out]; try simp, fun h => by first | rfl | decide | (exfalso; omega), hge.out⟩⟩, by simp [intOf] <;> omega⟩
        | 1, _, hk, hkn, hcell, b0, b1, q0, q1, hnx, hx, hhit =>
          obtain ⟨x0, x1⟩ : 0 ≤ x ∧ x < 128 := by rw [hx.out.1]; exact val_bound l 1 128 (by decide)
          obtain rfl : p = 128 := by rw [hx.out.2.1 (by omega)]; decide
          have hcell0 : w.cell? ⟨ad.block, ad.off + 1, none⟩ = some (.int .u8 (by' l 1)) := by simpa [Addr.add] using hcell
          have hor := Lib.hid (show x + by' l 1 % 128 * 128 = ((valN l 2 : Nat) : Int) by rw [hnx.out, hx.out.1]; rfl)
          by_cases hc : by' l 1 < 128
          · by_cases hz : by' l 1 = 0
            · have hg := Lib.hid (show getF l = (0, 0) by rw [hhit.out (by unfold by' at hc; omega), if_pos ⟨by unfold by' at hz; omega, by omega⟩])
              have hz' : (by' l 1 == 0) = true := beq_iff_eq.2 hz
              have HZ := Lib.hid hz; clear hz
              go_wp2
              all_goals (go_ret2; exact ⟨by rw [hg.out]; rfl, rfl⟩)
            · have hg := Lib.hid (show getF l = (valN l 2, 2) by rw [hhit.out (by unfold by' at hc; omega), if_neg (by unfold by' at hz; omega)])
              have hz' : (by' l 1 == 0) = false := beq_eq_false_iff_ne.2 hz
              clear hz
              go_wp2
              all_goals (go_ret2; exact ⟨by rw [hg.out, ← hor.out]; first | rfl | simp, rfl⟩)
          · have hge := Lib.hid (ge_step hx.out.2.2 (by omega))
            go_wp2
            all_goals exact ⟨⟨2, _, _, by omega, by go_num, rfl, rfl, ⟨by rw [← hor.out]; try simp, fun h => by first | rfl | decide | (exfalso; omega), hge.out⟩⟩, by simp [intOf] <;> omega⟩
        | 2, _, hk, hkn, hcell, b0, b1, q0, q1, hnx, hx, hhit =>
          obtain ⟨x0, x1⟩ : 0 ≤ x ∧ x < 16384 := by rw [hx.out.1]; exact val_bound l 2 16384 (by decide)
          obtain rfl : p = 16384 := by rw [hx.out.2.1 (by omega)]; decide
          have hcell0 : w.cell? ⟨ad.block, ad.off + 2, none⟩ = some (.int .u8 (by' l 2)) := by simpa [Addr.add] using hcell
          have hor := Lib.hid (show x + by' l 2 % 128 * 16384 = ((valN l 3 : Nat) : Int) by rw [hnx.out, hx.out.1]; rfl)
          by_cases hc : by' l 2 < 128
          · by_cases hz : by' l 2 = 0
            · have hg := Lib.hid (show getF l = (0, 0) by rw [hhit.out (by unfold by' at hc; omega), if_pos ⟨by unfold by' at hz; omega, by omega⟩])
              have hz' : (by' l 2 == 0) = true := beq_iff_eq.2 hz
              have HZ := Lib.hid hz; clear hz
              go_wp2
              all_goals (go_ret2; exact ⟨by rw [hg.out]; rfl, rfl⟩)
            · have hg := Lib.hid (show getF l = (valN l 3, 3) by rw [hhit.out (by unfold by' at hc; omega), if_neg (by unfold by' at hz; omega)])
              have hz' : (by' l 2 == 0) = false := beq_eq_false_iff_ne.2 hz
              clear hz
              go_wp2
              all_goals (go_ret2; exact ⟨by rw [hg.out, ← hor.out]; first | rfl | simp, rfl⟩)
          · have hge := Lib.hid (ge_step hx.out.2.2 (by omega))
            go_wp2
            all_goals exact ⟨⟨3, _, _, by omega, by go_num, rfl, rfl, ⟨by rw [← hor.out]; try simp, fun h => by first | rfl | decide | (exfalso; omega), hge.out⟩⟩, by simp [intOf] <;> omega⟩
        | 3, _, hk, hkn, hcell, b0, b1, q0, q1, hnx, hx, hhit =>
          obtain ⟨x0, x1⟩ : 0 ≤ x ∧ x < 2097152 := by rw [hx.out.1]; exact val_bound l 3 2097152 (by decide)
          obtain rfl : p = 2097152 := by rw [hx.out.2.1 (by omega)]; decide
          have hcell0 : w.cell? ⟨ad.block, ad.off + 3, none⟩ = some (.int .u8 (by' l 3)) := by simpa [Addr.add] using hcell
          have hor := Lib.hid (show x + by' l 3 % 128 * 2097152 = ((valN l 4 : Nat) : Int) by rw [hnx.out, hx.out.1]; rfl)
          by_cases hc : by' l 3 < 128
          · by_cases hz : by' l 3 = 0
            · have hg := Lib.hid (show getF l = (0, 0) by rw [hhit.out (by unfold by' at hc; omega), if_pos ⟨by unfold by' at hz; omega, by omega⟩])
              have hz' : (by' l 3 == 0) = true := beq_iff_eq.2 hz
              have HZ := Lib.hid hz; clear hz
              go_wp2
              all_goals (go_ret2; exact ⟨by rw [hg.out]; rfl, rfl⟩)
            · have hg := Lib.hid (show getF l = (valN l 4, 4) by rw [hhit.out (by unfold by' at hc; omega), if_neg (by unfold by' at hz; omega)])
              have hz' : (by' l 3 == 0) = false := beq_eq_false_iff_ne.2 hz
              clear hz
              go_wp2
              all_goals (go_ret2; exact ⟨by rw [hg.out, ← hor.out]; first | rfl | simp, rfl⟩)
          · have hge := Lib.hid (ge_step hx.out.2.2 (by omega))
            go_wp2
            all_goals exact ⟨⟨4, _, _, by omega, by go_num, rfl, rfl, ⟨by rw [← hor.out]; try simp, fun h => by first | rfl | decide | (exfalso; omega), hge.out⟩⟩, by simp [intOf] <;> omega⟩
        | 4, _, hk, hkn, hcell, b0, b1, q0, q1, hnx, hx, hhit =>
          obtain ⟨x0, x1⟩ : 0 ≤ x ∧ x < 268435456 := by rw [hx.out.1]; exact val_bound l 4 268435456 (by decide)
          obtain rfl : p = 268435456 := by rw [hx.out.2.1 (by omega)]; decide
          have hcell0 : w.cell? ⟨ad.block, ad.off + 4, none⟩ = some (.int .u8 (by' l 4)) := by simpa [Addr.add] using hcell
          have hor := Lib.hid (show x + by' l 4 % 128 * 268435456 = ((valN l 5 : Nat) : Int) by rw [hnx.out, hx.out.1]; rfl)
          by_cases hc : by' l 4 < 128
          · by_cases hz : by' l 4 = 0
            · have hg := Lib.hid (show getF l = (0, 0) by rw [hhit.out (by unfold by' at hc; omega), if_pos ⟨by unfold by' at hz; omega, by omega⟩])
              have hz' : (by' l 4 == 0) = true := beq_iff_eq.2 hz
              have HZ := Lib.hid hz; clear hz
              go_wp2
              all_goals (go_ret2; exact ⟨by rw [hg.out]; rfl, rfl⟩)
            · have hg := Lib.hid (show getF l = (valN l 5, 5) by rw [hhit.out (by unfold by' at hc; omega), if_neg (by unfold by' at hz; omega)])
              have hz' : (by' l 4 == 0) = false := beq_eq_false_iff_ne.2 hz
              clear hz
              go_wp2
              all_goals (go_ret2; exact ⟨by rw [hg.out, ← hor.out]; first | rfl | simp, rfl⟩)
          · have hge := Lib.hid (ge_step hx.out.2.2 (by omega))
            go_wp2
            all_goals exact ⟨⟨5, _, _, by omega, by go_num, rfl, rfl, ⟨by rw [← hor.out]; try simp, fun h => by first | rfl | decide | (exfalso; omega), hge.out⟩⟩, by simp [intOf] <;> omega⟩
        | 5, _, hk, hkn, hcell, b0, b1, q0, q1, hnx, hx, hhit =>
          obtain ⟨x0, x1⟩ : 0 ≤ x ∧ x < 34359738368 := by rw [hx.out.1]; exact val_bound l 5 34359738368 (by decide)
          obtain rfl : p = 34359738368 := by rw [hx.out.2.1 (by omega)]; decide
          have hcell0 : w.cell? ⟨ad.block, ad.off + 5, none⟩ = some (.int .u8 (by' l 5)) := by simpa [Addr.add] using hcell
          have hor := Lib.hid (show x + by' l 5 % 128 * 34359738368 = ((valN l 6 : Nat) : Int) by rw [hnx.out, hx.out.1]; rfl)
          by_cases hc : by' l 5 < 128
          · by_cases hz : by' l 5 = 0
            · have hg := Lib.hid (show getF l = (0, 0) by rw [hhit.out (by unfold by' at hc; omega), if_pos ⟨by unfold by' at hz; omega, by omega⟩])
              have hz' : (by' l 5 == 0) = true := beq_iff_eq.2 hz
              have HZ := Lib.hid hz; clear hz
              go_wp2
              all_goals (go_ret2; exact ⟨by rw [hg.out]; rfl, rfl⟩)
            · have hg := Lib.hid (show getF l = (valN l 6, 6) by rw [hhit.out (by unfold by' at hc; omega), if_neg (by unfold by' at hz; omega)])
              have hz' : (by' l 5 == 0) = false := beq_eq_false_iff_ne.2 hz
              clear hz
              go_wp2
              all_goals (go_ret2; exact ⟨by rw [hg.out, ← hor.out]; first | rfl | simp, rfl⟩)
          · have hge := Lib.hid (ge_step hx.out.2.2 (by omega))
            go_wp2
            all_goals exact ⟨⟨6, _, _, by omega, by go_num, rfl, rfl, ⟨by rw [← hor.out]; try simp, fun h => by first | rfl | decide | (exfalso; omega), hge.out⟩⟩, by simp [intOf] <;> omega⟩
        | 6, _, hk, hkn, hcell, b0, b1, q0, q1, hnx, hx, hhit =>
          obtain ⟨x0, x1⟩ : 0 ≤ x ∧ x < 4398046511104 := by rw [hx.out.1]; exact val_bound l 6 4398046511104 (by decide)
          obtain rfl : p = 4398046511104 := by rw [hx.out.2.1 (by omega)]; decide
          have hcell0 : w.cell? ⟨ad.block, ad.off + 6, none⟩ = some (.int .u8 (by' l 6)) := by simpa [Addr.add] using hcell
          have hor := Lib.hid (show x + by' l 6 % 128 * 4398046511104 = ((valN l 7 : Nat) : Int) by rw [hnx.out, hx.out.1]; rfl)
          by_cases hc : by' l 6 < 128
          · by_cases hz : by' l 6 = 0
            · have hg := Lib.hid (show getF l = (0, 0) by rw [hhit.out (by unfold by' at hc; omega), if_pos ⟨by unfold by' at hz; omega, by omega⟩])
              have hz' : (by' l 6 == 0) = true := beq_iff_eq.2 hz
              have HZ := Lib.hid hz; clear hz
              go_wp2
              all_goals (go_ret2; exact ⟨by rw [hg.out]; rfl, rfl⟩)
            · have hg := Lib.hid (show getF l = (valN l 7, 7) by rw [hhit.out (by unfold by' at hc; omega), if_neg (by unfold by' at hz; omega)])
              have hz' : (by' l 6 == 0) = false := beq_eq_false_iff_ne.2 hz
              clear hz
              go_wp2
              all_goals (go_ret2; exact ⟨by rw [hg.out, ← hor.out]; first | rfl | simp, rfl⟩)
          · have hge := Lib.hid (ge_step hx.out.2.2 (by omega))
            go_wp2
            all_goals exact ⟨⟨7, _, _, by omega, by go_num, rfl, rfl, ⟨by rw [← hor.out]; try simp, fun h => by first | rfl | decide | (exfalso; omega), hge.out⟩⟩, by simp [intOf] <;> omega⟩
        | 7, _, hk, hkn, hcell, b0, b1, q0, q1, hnx, hx, hhit =>
          obtain ⟨x0, x1⟩ : 0 ≤ x ∧ x < 562949953421312 := by rw [hx.out.1]; exact val_bound l 7 562949953421312 (by decide)
          obtain rfl : p = 562949953421312 := by rw [hx.out.2.1 (by omega)]; decide
          have hcell0 : w.cell? ⟨ad.block, ad.off + 7, none⟩ = some (.int .u8 (by' l 7)) := by simpa [Addr.add] using hcell
          have hor := Lib.hid (show x + by' l 7 % 128 * 562949953421312 = ((valN l 8 : Nat) : Int) by rw [hnx.out, hx.out.1]; rfl)
          by_cases hc : by' l 7 < 128
          · by_cases hz : by' l 7 = 0
            · have hg := Lib.hid (show getF l = (0, 0) by rw [hhit.out (by unfold by' at hc; omega), if_pos ⟨by unfold by' at hz; omega, by omega⟩])
              have hz' : (by' l 7 == 0) = true := beq_iff_eq.2 hz
              have HZ := Lib.hid hz; clear hz
              go_wp2
              all_goals (go_ret2; exact ⟨by rw [hg.out]; rfl, rfl⟩)
            · have hg := Lib.hid (show getF l = (valN l 8, 8) by rw [hhit.out (by unfold by' at hc; omega), if_neg (by unfold by' at hz; omega)])
              have hz' : (by' l 7 == 0) = false := beq_eq_false_iff_ne.2 hz
              clear hz
              go_wp2
              all_goals (go_ret2; exact ⟨by rw [hg.out, ← hor.out]; first | rfl | simp, rfl⟩)
          · have hge := Lib.hid (ge_step hx.out.2.2 (by omega))
            go_wp2
            all_goals exact ⟨⟨8, _, _, by omega, by go_num, rfl, rfl, ⟨by rw [← hor.out]; try simp, fun h => by first | rfl | decide | (exfalso; omega), hge.out⟩⟩, by simp [intOf] <;> omega⟩
        | 8, _, hk, hkn, hcell, b0, b1, q0, q1, hnx, hx, hhit =>
          obtain ⟨x0, x1⟩ : 0 ≤ x ∧ x < 72057594037927936 := by rw [hx.out.1]; exact val_bound l 8 72057594037927936 (by decide)
          obtain rfl : p = 72057594037927936 := by rw [hx.out.2.1 (by omega)]; decide
          have hcell0 : w.cell? ⟨ad.block, ad.off + 8, none⟩ = some (.int .u8 (by' l 8)) := by simpa [Addr.add] using hcell
          have hor := Lib.hid (show x + by' l 8 % 128 * 72057594037927936 = ((valN l 9 : Nat) : Int) by rw [hnx.out, hx.out.1]; rfl)
          by_cases hc : by' l 8 < 128
          · by_cases hz : by' l 8 = 0
            · have hg := Lib.hid (show getF l = (0, 0) by rw [hhit.out (by unfold by' at hc; omega), if_pos ⟨by unfold by' at hz; omega, by omega⟩])
              have hz' : (by' l 8 == 0) = true := beq_iff_eq.2 hz
              have HZ := Lib.hid hz; clear hz
              go_wp2
              all_goals (go_ret2; exact ⟨by rw [hg.out]; rfl, rfl⟩)
            · have hg := Lib.hid (show getF l = (valN l 9, 9) by rw [hhit.out (by unfold by' at hc; omega), if_neg (by unfold by' at hz; omega)])
              have hz' : (by' l 8 == 0) = false := beq_eq_false_iff_ne.2 hz
              clear hz
              go_wp2
              all_goals (go_ret2; exact ⟨by rw [hg.out, ← hor.out]; first | rfl | simp, rfl⟩)
          · have hge := Lib.hid (ge_step hx.out.2.2 (by omega))
            go_wp2
            all_goals exact ⟨⟨9, _, _, by omega, by go_num, rfl, rfl, ⟨by rw [← hor.out]; try simp, fun h => by first | rfl | decide | (exfalso; omega), hge.out⟩⟩, by simp [intOf] <;> omega⟩
      · have hg := Lib.hid (getF_none (l := l) (k := k) (by rw [HR.out.1]; omega) (by rw [HR.out.1]; omega) hx.out.2.2)
        obtain rfl : k = 9 := by omega
        go_wp2
        all_goals (go_ret2; exact ⟨by rw [hg.out]; rfl, rfl⟩)
end Go.Proofs.YteaapekkoahilaaDoor.Nu

/-
  Contracts of package num and of its reference: bytes as hexadecimal text, the reference.
-/
import Derived.Test.YteaapekkoahilaaDoorNumG
namespace Go.Proofs.YteaapekkoahilaaDoor.Nu
open Go.RowKit Go.Proofs.YteaapekkoahilaaDoor.B Go.Proofs.YteaapekkoahilaaDoor.S01
set_option linter.unusedVariables false
set_option linter.unusedSimpArgs false

theorem hexF_by (l : List UInt8) (k : Nat) (hk : k < l.length) : hexF (l.take (k + 1)) = hexF (l.take k) ++ [sgn (by' l k / 16).toNat] ++ [sgn (by' l k % 16).toNat] := by
  rw [hexF_take l k hk]
  have e1 : (by' l k / 16).toNat = (l.getD k 0).toNat / 16 := by unfold by'; omega
  have e2 : (by' l k % 16).toNat = (l.getD k 0).toNat % 16 := by unfold by'; omega
  rw [e1, e2, List.append_assoc]; rfl
set_option maxRecDepth 100000 in
set_option maxHeartbeats 4000000 in
theorem refHex_calls (A : Option Addr) (n c : Nat) (l : List UInt8) (w : World) (hr : BRead w A n l) (hn : n ≤ 1099511627776) :
    Calls Tryd.prog 15 #[.slice A n c] w fun e w' => e = .returned (.string ⟨(hexF l).toArray⟩) ∧ Below w.heap.size w w' := by
  obtain ⟨i0, hi, hz0, hz1, hz2⟩ := info_parts info_u8
  obtain ⟨w1, hmk, hown, hg⟩ := run_make_own (P := Tryd.prog) w w.heap.size 22 5 i0 (.int .u8 0) 1 Tryd.underlying22 hi hz0 hz1 .i64 .i64 (2 * n) (by rw [hz2]; omega) (by unfold maxLen; omega) (Nat.le_refl _)
  have HI := Lib.hid hi; clear hi
  have HZ0 := Lib.hid hz0; clear hz0
  have HZ1 := Lib.hid hz1; clear hz1
  have HZ2 := Lib.hid hz2; clear hz2
  have e2 : ((2 * n : Nat) : Int) = 2 * (n : Int) := by omega
  rw [e2] at hmk
  clear e2
  have hb1 : Below w.heap.size w w1 := (Below.refl _ _).grown hg (Nat.le_refl _) (fun b hb => by cases hb)
  have HRW := Lib.hid hr
  have HO := Lib.hid (show BOwn w1 w.heap.size (.slice (some ⟨w.heap.size, 0, none⟩) 0 (2 * n)) (hexF (l.take 0)) from hown)
  clear hown hr hg
  go_enter Tryd.func15, Tryd.ntmps15
  go_wp2
  go_loopw [4, 5] (fun v4 v5 wr => ∃ k : Nat, k ≤ n ∧ v5 = .int .i64 k ∧ BOwn wr w.heap.size v4 (hexF (l.take k)) ∧ Below w.heap.size w wr) (fun _ v5 _ => n - (intOf v5).toNat)
  case atStart => exact ⟨0, Nat.zero_le _, rfl, HO.out, hb1⟩
  case round =>
    clear hmk HO
    obtain ⟨k, hk, rfl, hown, hbel⟩ := hrel
    have HR := Lib.hid (HRW.out.below hbel)
    have hbz := hbel.size
    by_cases hkn : k < n
    · obtain ⟨ad, rfl, hcell⟩ := HR.out.at_ k hkn
      obtain ⟨b0, b1⟩ := by_range l k
      have q0 : 0 ≤ by' l k / 16 := by omega
      have q1 : by' l k / 16 < 16 := by omega
      have HL2 := Lib.hid (show (hexF (l.take k)).length = 2 * k by rw [hexF_len, List.length_take, HR.out.1]; omega)
      have HLn := Lib.hid HR.out.1
      have HO := Lib.hid (BOwn.row hown HL2.out); clear hown
      have i1 := idx_hex (by' l k / 16) (by' l k / 16).toNat (by omega) (by omega)
      have i2 := idx_hex (by' l k % 16) (by' l k % 16).toNat (by omega) (by omega)
      go_wp2_with (at_builtin; refine wpList_append_own _ rfl _ _ 22 rfl w.heap.size 5 i0 (.int .u8 0) 1 1 Tryd.underlying22 HI.out HZ0.out HZ1.out HZ2.out rfl (by decide) _ _ _ rfl (HO.out.alloc _) ⟨wr.heap.size, 0, none⟩ 1 1 [.int .u8 ((sgn (by' l k / 16).toNat).toNat : Int)] rfl rfl ?c1 ?c2 ?c3 ?c4 ?c5 ?_)
      case c1 => exact cell_one_new _ _ _
      case c2 => intro u hu; simp at hu; subst hu; rfl
      case c3 => unfold maxLen; omega
      case c4 => omega
      case c5 => simp; omega
      intro v3 w3 hown1 hgrow1 _
      have hb3 : Below w.heap.size w w3 := ((hbel.alloc hbel.size _).grown hgrow1 (by simp; omega) (fun b hb => own_base' HO.out b hb))
      have HL3 := Lib.hid (show (hexF (l.take k) ++ [sgn (by' l k / 16).toNat]).length = 2 * k + 1 by rw [List.length_append, HL2.out]; rfl)
      have hq3 := BOwn.snoc (c := sgn (by' l k / 16).toNat) hown1 (HL2.out) rfl
      obtain ⟨q, hq⟩ : ∃ q, hexF (l.take k) ++ [sgn (by' l k / 16).toNat] = q := ⟨_, rfl⟩
      rw [hq] at hq3 HL3
      have HQ := Lib.hid hq; clear hq
      have HO3 := Lib.hid (BOwn.row hq3 HL3.out); clear hq3
      have hcell3 : w3.cell? (ad.add k) = some (.int .u8 (by' l k)) := by
        obtain ⟨ad', e, h⟩ := (HRW.out.below hb3).at_ k hkn
        cases e; exact h
      clear hown1 hgrow1 HO hcell
      have hbz3 := hb3.size
      go_wp2_with (at_builtin; refine wpList_append_own _ rfl _ _ 22 rfl w.heap.size 5 i0 (.int .u8 0) 1 1 Tryd.underlying22 HI.out HZ0.out HZ1.out HZ2.out rfl (by decide) _ _ _ rfl (HO3.out.alloc _) ⟨w3.heap.size, 0, none⟩ 1 1 [.int .u8 ((sgn (by' l k % 16).toNat).toNat : Int)] rfl rfl ?c1 ?c2 ?c3 ?c4 ?c5 ?_)
      case c1 => exact cell_one_new _ _ _
      case c2 => intro u hu; simp at hu; subst hu; rfl
      case c3 => unfold maxLen; omega
      case c4 => omega
      case c5 => simp; omega
      intro v4 w4 hown1 hgrow1 _
      have hb4 : Below w.heap.size w w4 := ((hb3.alloc hb3.size _).grown hgrow1 (by simp; omega) (fun b hb => own_base' HO3.out b hb))
      have hown2 := Lib.hid (BOwn.snoc (c := sgn (by' l k % 16).toNat) hown1 (HL3.out) rfl)
      have e := Lib.hid (hexF_by l k (by rw [HLn.out]; exact hkn))
      clear hown1 hgrow1 HO3
      go_wp2
      exact ⟨⟨k + 1, by omega, by go_num, by rw [e.out, HQ.out]; exact hown2.out, hb4⟩, by simp [intOf]; omega⟩
    · have hc := own_conv hown
      have e : hexF (l.take k) = hexF l := by rw [List.take_of_length_le (by rw [HR.out.1]; omega)]
      rw [e] at hc
      go_wp2
      go_ret
      exact ⟨rfl, hbel⟩
end Go.Proofs.YteaapekkoahilaaDoor.Nu

/-
  Bytes as hexadecimal text, for all bytes: the appends stay within what was made.
-/
import Derived.Test.YteaapekkoahilaaDoorNumH
import Derived.Test.YteaapekkoahilaaDoorFits
namespace Go.Proofs.YteaapekkoahilaaDoor.Nu
open Go.RowKit Go.Proofs.YteaapekkoahilaaDoor.B Go.Proofs.YteaapekkoahilaaDoor.S01
set_option linter.unusedVariables false
set_option linter.unusedSimpArgs false

set_option maxRecDepth 100000 in
set_option maxHeartbeats 4000000 in
theorem Hex_full (A : Option Addr) (n c : Nat) (l : List UInt8) (w : World) (hr : BRead w A n l) (hn : n ≤ 140737488351232) :
    Calls Tryd.prog 14 #[.slice A n c] w fun e w' => e = .returned (.string ⟨(hexF l).toArray⟩) ∧ Below w.heap.size w w' := by
  obtain ⟨i0, hi, hz0, hz1, hz2⟩ := info_parts info_u8
  obtain ⟨w1, hmk, hown, hg⟩ := run_make_own (P := Tryd.prog) w w.heap.size 22 5 i0 (.int .u8 0) 1 Tryd.underlying22 hi hz0 hz1 .i64 .i64 (2 * n) (by rw [hz2]; omega) (by unfold maxLen; omega) (Nat.le_refl _)
  have HI := Lib.hid hi; clear hi
  have HZ0 := Lib.hid hz0; clear hz0
  have HZ1 := Lib.hid hz1; clear hz1
  have HZ2 := Lib.hid hz2; clear hz2
  have e2 : ((2 * n : Nat) : Int) = 2 * (n : Int) := by omega
  rw [e2] at hmk
  clear e2
  have hb1 : Below w.heap.size w w1 := (Below.refl _ _).grown hg (Nat.le_refl _) (fun b hb => by cases hb)
  have HRW := Lib.hid hr
  have HO := Lib.hid (show BOwn w1 w.heap.size (.slice (some ⟨w.heap.size, 0, none⟩) 0 (2 * n)) (hexF (l.take 0)) from hown)
  clear hown hr hg
  go_enter Tryd.func14, Tryd.ntmps14
  go_wp2
  go_loopw [3, 12] (fun v3 v12 wr => ∃ k : Nat, k ≤ n ∧ v12 = .int .i64 k ∧ v3 = .slice (some ⟨w.heap.size, 0, none⟩) (2 * k) (2 * n) ∧ BOwn wr w.heap.size v3 (hexF (l.take k)) ∧ Below w.heap.size w wr) (fun _ v12 _ => n - (intOf v12).toNat)
  case atStart => exact ⟨0, Nat.zero_le _, rfl, rfl, HO.out, hb1⟩
  case round =>
    clear hmk HO
    obtain ⟨k, hk, rfl, rfl, hown, hbel⟩ := hrel
    have HR := Lib.hid (HRW.out.below hbel)
    have hbz := hbel.size
    by_cases hkn : k < n
    · obtain ⟨ad, rfl, hcell⟩ := HR.out.at_ k hkn
      obtain ⟨b0, b1⟩ := by_range l k
      have q0 : 0 ≤ by' l k / 16 := by omega
      have q1 : by' l k / 16 < 16 := by omega
      have HL2 := Lib.hid (show (hexF (l.take k)).length = 2 * k by rw [hexF_len, List.length_take, HR.out.1]; omega)
      have HLn := Lib.hid HR.out.1
      have HO := Lib.hid (BOwn.row hown HL2.out); clear hown
      have i1 := idx_hex (by' l k / 16) (by' l k / 16).toNat (by omega) (by omega)
      have i2 := idx_hex (by' l k % 16) (by' l k % 16).toNat (by omega) (by omega)
      have i3 := and15 (by' l k) b0 b1
      go_wp2
      have hsp : ∀ (W : World), W.ownsRow w.heap.size 5 1 (.slice (some ⟨w.heap.size, 0, none⟩) (2 * k) (2 * n)) (2 * k) ((hexF (l.take k)).map vb) → ∀ j, j < 2 → (W.cell? ⟨w.heap.size, 0 + (2 * k) * 1 + j, none⟩).isSome = true ∧ W.frozen? ⟨w.heap.size, 0 + (2 * k) * 1 + j, none⟩ = false := fun W hW j hj => own_spare hW _ (by omega)
      have HSP := Lib.hid hsp; clear hsp
      go_region_law ((refine step_append_room (by rfl) (.tmp 16) (.tmp 23) 22 (by rfl) 5 i0 1 Tryd.underlying22 HI.out HZ1.out w.heap.size 0 (2 * k) (2 * n) (by simp [Act.eval, Act.put]) ⟨wr.heap.size, 0, none⟩ 2 2 [(.int .u8 ((sgn (by' l k / 16).toNat).toNat : Int)), (.int .u8 ((sgn (by' l k % 16).toNat).toNat : Int))] (by simp [Act.eval, Act.put]) (by rfl) (cell_two_new _ _ _ _) (by intro u hu; simp at hu; rcases hu with rfl | rfl <;> rfl) (by omega) (HSP.out _ (HO.out.drew.alloc _)) ?_))
      all_goals
        obtain ⟨p1, p2, _, _⟩ := own_push ((HO.out.alloc (.cells #[(.int .u8 ((sgn (by' l k / 16).toNat).toNat : Int)), (.int .u8 ((sgn (by' l k % 16).toNat).toNat : Int))] 5)).drew) (by omega) (.int .u8 ((sgn (by' l k / 16).toNat).toNat : Int))
        obtain ⟨p3, p4, _, _⟩ := own_push p1 (by omega) (.int .u8 ((sgn (by' l k % 16).toNat).toNat : Int))
        have hb3 := ((((hbel.alloc hbel.size (.cells #[(.int .u8 ((sgn (by' l k / 16).toNat).toNat : Int)), (.int .u8 ((sgn (by' l k % 16).toNat).toNat : Int))] 5)).drew).grown p2 (by simp; omega) (fun b hb => by cases hb; exact Nat.le_refl _)).grown p4 (by simp; omega) (fun b hb => by cases hb; exact Nat.le_refl _))
        have hown2 := Lib.hid (BOwn.add (k := 2) (m := hexB (l.getD k 0)) (by rw [hexB_by]; rw [List.append_assoc] at p3; exact p3) (HL2.out) rfl)
        clear p1 p2 p3 p4
        go_wp2
        exact ⟨⟨k + 1, by omega, by go_num, by congr 1, by rw [hexF_take _ _ (by rw [HLn.out]; exact hkn)]; exact hown2.out, hb3⟩, by simp [intOf]; omega⟩
    · have hc := own_conv hown
      have e : hexF (l.take k) = hexF l := by rw [List.take_of_length_le (by rw [HR.out.1]; omega)]
      rw [e] at hc
      go_wp2
      go_ret
      exact ⟨rfl, hbel⟩
set_option maxRecDepth 100000 in
set_option maxHeartbeats 4000000 in
theorem refHex_full (A : Option Addr) (n c : Nat) (l : List UInt8) (w : World) (hr : BRead w A n l) (hn : n ≤ 140737488351232) :
    Calls Tryd.prog 15 #[.slice A n c] w fun e w' => e = .returned (.string ⟨(hexF l).toArray⟩) ∧ Below w.heap.size w w' := by
  obtain ⟨i0, hi, hz0, hz1, hz2⟩ := info_parts info_u8
  obtain ⟨w1, hmk, hown, hg⟩ := run_make_own (P := Tryd.prog) w w.heap.size 22 5 i0 (.int .u8 0) 1 Tryd.underlying22 hi hz0 hz1 .i64 .i64 (2 * n) (by rw [hz2]; omega) (by unfold maxLen; omega) (Nat.le_refl _)
  have HI := Lib.hid hi; clear hi
  have HZ0 := Lib.hid hz0; clear hz0
  have HZ1 := Lib.hid hz1; clear hz1
  have HZ2 := Lib.hid hz2; clear hz2
  have e2 : ((2 * n : Nat) : Int) = 2 * (n : Int) := by omega
  rw [e2] at hmk
  clear e2
  have hb1 : Below w.heap.size w w1 := (Below.refl _ _).grown hg (Nat.le_refl _) (fun b hb => by cases hb)
  have HRW := Lib.hid hr
  have HO := Lib.hid (show BOwn w1 w.heap.size (.slice (some ⟨w.heap.size, 0, none⟩) 0 (2 * n)) (hexF (l.take 0)) from hown)
  clear hown hr hg
  go_enter Tryd.func15, Tryd.ntmps15
  go_wp2
  go_loopw [4, 5] (fun v4 v5 wr => ∃ k : Nat, k ≤ n ∧ v5 = .int .i64 k ∧ v4 = .slice (some ⟨w.heap.size, 0, none⟩) (2 * k) (2 * n) ∧ BOwn wr w.heap.size v4 (hexF (l.take k)) ∧ Below w.heap.size w wr) (fun _ v5 _ => n - (intOf v5).toNat)
  case atStart => exact ⟨0, Nat.zero_le _, rfl, rfl, HO.out, hb1⟩
  case round =>
    clear hmk HO
    obtain ⟨k, hk, rfl, rfl, hown, hbel⟩ := hrel
    have HR := Lib.hid (HRW.out.below hbel)
    have hbz := hbel.size
    by_cases hkn : k < n
    · obtain ⟨ad, rfl, hcell⟩ := HR.out.at_ k hkn
      obtain ⟨b0, b1⟩ := by_range l k
      have q0 : 0 ≤ by' l k / 16 := by omega
      have q1 : by' l k / 16 < 16 := by omega
      have HL2 := Lib.hid (show (hexF (l.take k)).length = 2 * k by rw [hexF_len, List.length_take, HR.out.1]; omega)
      have HLn := Lib.hid HR.out.1
      have HO := Lib.hid (BOwn.row hown HL2.out); clear hown
      have i1 := idx_hex (by' l k / 16) (by' l k / 16).toNat (by omega) (by omega)
      have i2 := idx_hex (by' l k % 16) (by' l k % 16).toNat (by omega) (by omega)
      go_wp2_with (at_builtin; refine wpList_push rfl _ _ rfl w.heap.size i0 HI.out HZ1.out w.heap.size (2 * k) (2 * n) _ rfl (HO.out.alloc _) ⟨wr.heap.size, 0, none⟩ (.int .u8 ((sgn (by' l k / 16).toNat).toNat : Int)) rfl (by simp [go_sem]) rfl (by omega) ?_)
      intro w3 hown1 hgrow1
      have hb3 : Below w.heap.size w w3 := ((hbel.alloc hbel.size _).grown hgrow1 (by simp; omega) (fun b hb => by cases hb; exact Nat.le_refl _))
      have HL3 := Lib.hid (show (hexF (l.take k) ++ [sgn (by' l k / 16).toNat]).length = 2 * k + 1 by rw [List.length_append, HL2.out]; rfl)
      have hq3 := BOwn.snoc (c := sgn (by' l k / 16).toNat) hown1 (HL2.out) rfl
      obtain ⟨q, hq⟩ : ∃ q, hexF (l.take k) ++ [sgn (by' l k / 16).toNat] = q := ⟨_, rfl⟩
      rw [hq] at hq3 HL3
      have HQ := Lib.hid hq; clear hq
      have HO3 := Lib.hid (BOwn.row hq3 HL3.out); clear hq3
      have hcell3 : w3.cell? (ad.add k) = some (.int .u8 (by' l k)) := by
        obtain ⟨ad', e, h⟩ := (HRW.out.below hb3).at_ k hkn
        cases e; exact h
      clear hown1 hgrow1 HO hcell
      have hbz3 := hb3.size
      go_wp2_with (at_builtin; refine wpList_push rfl _ _ rfl w.heap.size i0 HI.out HZ1.out w.heap.size (2 * k + 1) (2 * n) _ rfl (HO3.out.alloc _) ⟨w3.heap.size, 0, none⟩ (.int .u8 ((sgn (by' l k % 16).toNat).toNat : Int)) rfl (by simp [go_sem]) rfl (by omega) ?_)
      intro w4 hown1 hgrow1
      have hb4 : Below w.heap.size w w4 := ((hb3.alloc hb3.size _).grown hgrow1 (by simp; omega) (fun b hb => by cases hb; exact Nat.le_refl _))
      have hown2 := Lib.hid (BOwn.snoc (c := sgn (by' l k % 16).toNat) hown1 (HL3.out) rfl)
      have e := Lib.hid (hexF_by l k (by rw [HLn.out]; exact hkn))
      clear hown1 hgrow1 HO3
      go_wp2
      exact ⟨⟨k + 1, by omega, by go_num, by congr 1, by rw [e.out, HQ.out]; exact hown2.out, hb4⟩, by simp [intOf]; omega⟩
    · have hc := own_conv hown
      have e : hexF (l.take k) = hexF l := by rw [List.take_of_length_le (by rw [HR.out.1]; omega)]
      rw [e] at hc
      go_wp2
      go_ret
      exact ⟨rfl, hbel⟩
end Go.Proofs.YteaapekkoahilaaDoor.Nu

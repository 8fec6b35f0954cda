/-
  The contracts of package names' functions over texts (Name, ID, Cut at one byte, Object, Subject, Tuple), and of its reference's.
-/
import Derived.Test.YtfdhjnbmmckknaaBase
import Derived.Test.YtfdhjnbmmckknaaSpec10
import Derived.Test.YtfdhjnbmmckknaaShelf
namespace Go.Proofs.Ytfdhjnbmmckknaa.Nm
open Go.RowKit Go.Proofs.Ytfdhjnbmmckknaa.B Go.Proofs.Ytfdhjnbmmckknaa.S10
set_option linter.unusedVariables false
set_option linter.unusedSimpArgs false

theorem small_calls (c : Int) (w : World) : Calls Try.prog 45 #[.int .u8 c] w fun e w' => e = .returned (.bool (smallB c)) ∧ w = w' := by
  by_cases h : 97 ≤ c <;> (go_enter Try.func45, Try.ntmps45; go_wp2; go_ret; exact ⟨by simp [smallB, h]; try omega, rfl⟩)
theorem great_calls (c : Int) (w : World) : Calls Try.prog 48 #[.int .u8 c] w fun e w' => e = .returned (.bool (greatB c)) ∧ w = w' := by
  by_cases h : 65 ≤ c <;> (go_enter Try.func48, Try.ntmps48; go_wp2; go_ret; exact ⟨by simp [greatB, h]; try omega, rfl⟩)
theorem digit_calls (c : Int) (w : World) : Calls Try.prog 46 #[.int .u8 c] w fun e w' => e = .returned (.bool (digitB c)) ∧ w = w' := by
  by_cases h : 48 ≤ c <;> (go_enter Try.func46, Try.ntmps46; go_wp2; go_ret; exact ⟨by simp [digitB, h]; try omega, rfl⟩)
theorem nameC_calls (c : Int) (w : World) : Calls Try.prog 44 #[.int .u8 c] w fun e w' => e = .returned (.bool (nameC c)) ∧ w = w' := by
  cases h1 : smallB c <;> cases h2 : digitB c <;>
  (have H1 := Lib.hid h1; have H2 := Lib.hid h2; clear h1 h2
   go_enter Try.func44, Try.ntmps44
   go_wp2_with (first | (go_at_call 45; refine (small_calls _ _).mono ?_; rintro e w' ⟨rfl, rfl⟩; rw [H1.out]) | (go_at_call 46; refine (digit_calls _ _).mono ?_; rintro e w' ⟨rfl, rfl⟩; rw [H2.out]))
   go_ret
   exact ⟨by simp [nameC, H1.out, H2.out], rfl⟩)
theorem index3 (c : Int) (h0 : 0 ≤ c) (h1 : c ≤ 255) : decide (0 ≤ Lib.indexByte [95, 46, 45] c.toNat.toUInt8) = (c == 95 || (c == 46 || c == 45)) := by
  obtain ⟨n, rfl⟩ := Int.eq_ofNat_of_zero_le h0
  have h : ∀ m : Fin 256, decide (0 ≤ Lib.indexByte [95, 46, 45] (m.val : Int).toNat.toUInt8) = ((m.val : Int) == 95 || ((m.val : Int) == 46 || (m.val : Int) == 45)) := by decide +kernel
  exact h ⟨n, by omega⟩
theorem idC_calls (c : Int) (w : World) (h0 : 0 ≤ c) (h1 : c ≤ 255) : Calls Try.prog 47 #[.int .u8 c] w fun e w' => e = .returned (.bool (idC c)) ∧ w = w' := by
  have h3 := Lib.hid (index3 c h0 h1)
  cases h1 : smallB c <;> cases h2 : greatB c <;> cases h4 : digitB c <;>
  (have H1 := Lib.hid h1; have H2 := Lib.hid h2; have H4 := Lib.hid h4; clear h1 h2 h4
   go_enter Try.func47, Try.ntmps47
   go_wp2_with (first | (go_at_call 45; refine (small_calls _ _).mono ?_; rintro e w' ⟨rfl, rfl⟩; rw [H1.out]) | (go_at_call 48; refine (great_calls _ _).mono ?_; rintro e w' ⟨rfl, rfl⟩; rw [H2.out]) | (go_at_call 46; refine (digit_calls _ _).mono ?_; rintro e w' ⟨rfl, rfl⟩; rw [H4.out]) | (go_at_call 49; refine (Try.strings_IndexByte _ _ _).mono ?_; rintro e w' ⟨rfl, rfl⟩))
   go_ret
   exact ⟨by first | (simp [idC, H1.out, H2.out, H4.out]; done) | (have := h3.out; simp [idC, H1.out, H2.out, H4.out] at this ⊢; exact this), rfl⟩)

set_option maxHeartbeats 400000 in
theorem only_Name (s : ByteArray) (m : Int) (srt : Int → Bool) (w : World) (hs : s.size ≤ 9223372036854775807)
    (hf0 : ∀ (c : Int) (W : World), 0 ≤ c → c ≤ 255 → Calls Try.prog 44 #[.int .u8 c] W fun e w' => e = .returned (.bool (srt c)) ∧ W = w') :
    Calls Try.prog 43 #[.string s, .int .i64 m, .func (.func 44) #[] #[]] w fun e w' => e = .returned (.bool (onlyB s m srt)) ∧ w = w' := by
  have hf := Lib.hid hf0
  clear hf0
  go_enter Try.func43, Try.ntmps43
  go_wp2
  go_loop [7, 10] (fun _ v10 => ∃ k : Nat, k ≤ s.size ∧ v10 = .int .i64 k ∧ Asd (∀ j : Nat, j < k → srt (bt s j) = true)) (fun _ v10 => s.size - (intOf v10).toNat)
  case atStart => exact ⟨0, Nat.zero_le _, rfl, ⟨fun j hj => by omega⟩⟩
  case round =>
    obtain ⟨k, hk, rfl, ha⟩ := hrel
    by_cases hlt : k < s.size
    · have hbt : bt s k = (s[k].toNat : Int) := by simp [bt, hlt]
      obtain ⟨b0, b1⟩ := bt_range s k
      rw [hbt] at b0 b1
      cases hsr : srt (s[k].toNat : Int) with
      | true =>
        have HS := Lib.hid hsr; clear hsr
        have HB := Lib.hid hbt; clear hbt
        go_wp2_with (go_at_call 44; refine (hf.out _ _ b0 b1).mono ?_; rintro e w' ⟨rfl, rfl⟩; rw [HS.out])
        go_round
        case rel => exact ⟨k + 1, by omega, by go_num, ⟨onlyB_step ha.out (by rw [HB.out]; exact HS.out)⟩⟩
        case measure => simp [intOf]; omega
      | false =>
        have HS := Lib.hid hsr; clear hsr
        have HB := Lib.hid hbt; clear hbt
        go_wp2_with (go_at_call 44; refine (hf.out _ _ b0 b1).mono ?_; rintro e w' ⟨rfl, rfl⟩; rw [HS.out])
        go_ret
        exact ⟨by rw [onlyB_no' hlt HS.out]; rfl, rfl⟩
    · have HY := Lib.hid (onlyB_yes hlt ha.out)
      by_cases h0 : 0 < s.size
      · go_wp2
        go_ret
        exact ⟨by unfold onlyB; rw [HY.out]; simp [h0], rfl⟩
      · go_wp2
        go_ret
        exact ⟨by unfold onlyB; rw [HY.out]; simp [h0], rfl⟩

set_option maxHeartbeats 400000 in
theorem only_ID (s : ByteArray) (m : Int) (srt : Int → Bool) (w : World) (hs : s.size ≤ 9223372036854775807)
    (hf0 : ∀ (c : Int) (W : World), 0 ≤ c → c ≤ 255 → Calls Try.prog 47 #[.int .u8 c] W fun e w' => e = .returned (.bool (srt c)) ∧ W = w') :
    Calls Try.prog 43 #[.string s, .int .i64 m, .func (.func 47) #[] #[]] w fun e w' => e = .returned (.bool (onlyB s m srt)) ∧ w = w' := by
  have hf := Lib.hid hf0
  clear hf0
  go_enter Try.func43, Try.ntmps43
  go_wp2
  go_loop [7, 10] (fun _ v10 => ∃ k : Nat, k ≤ s.size ∧ v10 = .int .i64 k ∧ Asd (∀ j : Nat, j < k → srt (bt s j) = true)) (fun _ v10 => s.size - (intOf v10).toNat)
  case atStart => exact ⟨0, Nat.zero_le _, rfl, ⟨fun j hj => by omega⟩⟩
  case round =>
    obtain ⟨k, hk, rfl, ha⟩ := hrel
    by_cases hlt : k < s.size
    · have hbt : bt s k = (s[k].toNat : Int) := by simp [bt, hlt]
      obtain ⟨b0, b1⟩ := bt_range s k
      rw [hbt] at b0 b1
      cases hsr : srt (s[k].toNat : Int) with
      | true =>
        have HS := Lib.hid hsr; clear hsr
        have HB := Lib.hid hbt; clear hbt
        go_wp2_with (go_at_call 47; refine (hf.out _ _ b0 b1).mono ?_; rintro e w' ⟨rfl, rfl⟩; rw [HS.out])
        go_round
        case rel => exact ⟨k + 1, by omega, by go_num, ⟨onlyB_step ha.out (by rw [HB.out]; exact HS.out)⟩⟩
        case measure => simp [intOf]; omega
      | false =>
        have HS := Lib.hid hsr; clear hsr
        have HB := Lib.hid hbt; clear hbt
        go_wp2_with (go_at_call 47; refine (hf.out _ _ b0 b1).mono ?_; rintro e w' ⟨rfl, rfl⟩; rw [HS.out])
        go_ret
        exact ⟨by rw [onlyB_no' hlt HS.out]; rfl, rfl⟩
    · have HY := Lib.hid (onlyB_yes hlt ha.out)
      by_cases h0 : 0 < s.size
      · go_wp2
        go_ret
        exact ⟨by unfold onlyB; rw [HY.out]; simp [h0], rfl⟩
      · go_wp2
        go_ret
        exact ⟨by unfold onlyB; rw [HY.out]; simp [h0], rfl⟩

set_option maxHeartbeats 400000 in
theorem Name_calls (s : ByteArray) (w : World) (hs : s.size ≤ 9223372036854775807) :
    Calls Try.prog 23 #[.string s] w fun e w' => e = .returned (.bool (nameB s)) ∧ w = w' := by
  cases h1 : (s.toList == [116, 121, 112, 101]) with
  | true =>
    go_enter Try.func23, Try.ntmps23
    go_wp2
    go_ret
    exact ⟨by unfold nameB; rw [h1]; rfl, rfl⟩
  | false =>
  cases h2 : (s.toList == [114, 101, 108, 97, 116, 105, 111, 110]) with
  | true =>
    go_enter Try.func23, Try.ntmps23
    go_wp2
    go_ret
    exact ⟨by unfold nameB; rw [h1, h2]; rfl, rfl⟩
  | false =>
  cases h3 : (s.toList == [100, 101, 102, 105, 110, 101]) with
  | true =>
    go_enter Try.func23, Try.ntmps23
    go_wp2
    go_ret
    exact ⟨by unfold nameB; rw [h1, h2, h3]; rfl, rfl⟩
  | false =>
  cases ho : onlyB s 16 nameC with
  | true =>
    have hp : 0 < s.size := by simp [onlyB] at ho; omega
    have hbt := Lib.hid (show bt s 0 = (s[0].toNat : Int) by simp [bt, hp])
    have HO := Lib.hid ho; clear ho
    go_enter Try.func23, Try.ntmps23
    go_wp2_with (first | (go_at_call 43; refine (only_Name s 16 nameC _ hs (fun c W _ _ => nameC_calls c W)).mono ?_; rintro e w' ⟨rfl, rfl⟩; rw [HO.out]) | (go_at_call 45; refine (small_calls _ _).mono ?_; rintro e w' ⟨rfl, rfl⟩))
    go_ret
    exact ⟨by unfold nameB; rw [h1, h2, h3, HO.out, hbt.out]; rfl, rfl⟩
  | false =>
    have HO := Lib.hid ho; clear ho
    go_enter Try.func23, Try.ntmps23
    go_wp2_with (first | (go_at_call 43; refine (only_Name s 16 nameC _ hs (fun c W _ _ => nameC_calls c W)).mono ?_; rintro e w' ⟨rfl, rfl⟩; rw [HO.out]) | (go_at_call 45; refine (small_calls _ _).mono ?_; rintro e w' ⟨rfl, rfl⟩))
    go_ret
    exact ⟨by unfold nameB; rw [h1, h2, h3, HO.out]; rfl, rfl⟩
theorem ID_calls (s : ByteArray) (w : World) (hs : s.size ≤ 9223372036854775807) :
    Calls Try.prog 25 #[.string s] w fun e w' => e = .returned (.bool (idB s)) ∧ w = w' := by
  go_enter Try.func25, Try.ntmps25
  go_wp2_with (go_at_call 43; refine (only_ID s 24 idC _ hs (fun c W h0 h1 => idC_calls c W h0 h1)).mono ?_; rintro e w' ⟨rfl, rfl⟩)
  go_ret
  exact ⟨rfl, rfl⟩
end Go.Proofs.Ytfdhjnbmmckknaa.Nm

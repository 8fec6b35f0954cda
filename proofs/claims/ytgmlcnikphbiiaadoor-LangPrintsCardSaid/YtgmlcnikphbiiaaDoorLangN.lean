/-
  The contracts of names.Name and of the document's.
-/
import Derived.Test.YtgmlcnikphbiiaaDoorBase
import Derived.Test.YtgmlcnikphbiiaaDoorSpec10
import Derived.Test.YtgmlcnikphbiiaaDoorShelf
namespace Go.Proofs.YtgmlcnikphbiiaaDoor.Nm
open Go.RowKit Go.Proofs.YtgmlcnikphbiiaaDoor.B Go.Proofs.YtgmlcnikphbiiaaDoor.S10
set_option linter.unusedVariables false
set_option linter.unusedSimpArgs false

theorem small_calls (c : Int) (w : World) : Calls Tryd.prog 62 #[.int .u8 c] w fun e w' => e = .returned (.bool (smallB c)) ∧ w = w' := by
  by_cases h : 97 ≤ c <;> (go_enter Tryd.func62, Tryd.ntmps62; go_wp2; go_ret; exact ⟨by simp [smallB, h]; try omega, rfl⟩)
theorem digit_calls (c : Int) (w : World) : Calls Tryd.prog 63 #[.int .u8 c] w fun e w' => e = .returned (.bool (digitB c)) ∧ w = w' := by
  by_cases h : 48 ≤ c <;> (go_enter Tryd.func63, Tryd.ntmps63; go_wp2; go_ret; exact ⟨by simp [digitB, h]; try omega, rfl⟩)
theorem nameC_calls (c : Int) (w : World) : Calls Tryd.prog 61 #[.int .u8 c] w fun e w' => e = .returned (.bool (nameC c)) ∧ w = w' := by
  cases h1 : smallB c <;> cases h2 : digitB c <;>
  (have H1 := Lib.hid h1; have H2 := Lib.hid h2; clear h1 h2
   go_enter Tryd.func61, Tryd.ntmps61
   go_wp2_with (first | (go_at_call 62; refine (small_calls _ _).mono ?_; rintro e w' ⟨rfl, rfl⟩; rw [H1.out]) | (go_at_call 63; refine (digit_calls _ _).mono ?_; rintro e w' ⟨rfl, rfl⟩; rw [H2.out]))
   go_ret
   exact ⟨by simp [nameC, H1.out, H2.out], rfl⟩)
set_option maxHeartbeats 400000 in
theorem only_Name (s : ByteArray) (m : Int) (srt : Int → Bool) (w : World) (hs : s.size ≤ 9223372036854775807)
    (hf0 : ∀ (c : Int) (W : World), 0 ≤ c → c ≤ 255 → Calls Tryd.prog 61 #[.int .u8 c] W fun e w' => e = .returned (.bool (srt c)) ∧ W = w') :
    Calls Tryd.prog 60 #[.string s, .int .i64 m, .func (.func 61) #[] #[]] w fun e w' => e = .returned (.bool (onlyB s m srt)) ∧ w = w' := by
  have hf := Lib.hid hf0
  clear hf0
  go_enter Tryd.func60, Tryd.ntmps60
  go_wp2
  go_loop [7, 10] (fun _ v10 => ∃ k : Nat, k ≤ s.size ∧ v10 = .int .i64 k ∧ Asd (∀ j : Nat, j < k → srt (bt s j) = true)) (fun _ v10 => s.size - (intOf v10).toNat)
  case atStart => exact ⟨0, Nat.zero_le _, rfl, ⟨fun j hj => by omega⟩⟩
  case round =>
    obtain ⟨k, hk, rfl, ha⟩ := hrel
    by_cases hlt : k < s.size
    · have hbt : bt s k = (s[k].toNat : Int) := by simp [bt, hlt]
      obtain ⟨b0, b1⟩ := bt_range s k
      rw [hbt] at b0 b1
      cases hsr : srt (s[k].toNat : Int) with
      | true =>
        have HS := Lib.hid hsr; clear hsr
        have HB := Lib.hid hbt; clear hbt
        go_wp2_with (go_at_call 61; refine (hf.out _ _ b0 b1).mono ?_; rintro e w' ⟨rfl, rfl⟩; rw [HS.out])
        go_round
        case rel => exact ⟨k + 1, by omega, by go_num, ⟨onlyB_step ha.out (by rw [HB.out]; exact HS.out)⟩⟩
        case measure => simp [intOf]; omega
      | false =>
        have HS := Lib.hid hsr; clear hsr
        have HB := Lib.hid hbt; clear hbt
        go_wp2_with (go_at_call 61; refine (hf.out _ _ b0 b1).mono ?_; rintro e w' ⟨rfl, rfl⟩; rw [HS.out])
        go_ret
        exact ⟨by rw [onlyB_no' hlt HS.out]; rfl, rfl⟩
    · have HY := Lib.hid (onlyB_yes hlt ha.out)
      by_cases h0 : 0 < s.size
      · go_wp2
        go_ret
        exact ⟨by unfold onlyB; rw [HY.out]; simp [h0], rfl⟩
      · go_wp2
        go_ret
        exact ⟨by unfold onlyB; rw [HY.out]; simp [h0], rfl⟩

set_option maxHeartbeats 400000 in
theorem Name_calls (s : ByteArray) (w : World) (hs : s.size ≤ 9223372036854775807) :
    Calls Tryd.prog 36 #[.string s] w fun e w' => e = .returned (.bool (nameB s)) ∧ w = w' := by
  cases h1 : (s.toList == [116, 121, 112, 101]) with
  | true =>
    go_enter Tryd.func36, Tryd.ntmps36
    go_wp2
    go_ret
    exact ⟨by unfold nameB; rw [h1]; rfl, rfl⟩
  | false =>
  cases h2 : (s.toList == [114, 101, 108, 97, 116, 105, 111, 110]) with
  | true =>
    go_enter Tryd.func36, Tryd.ntmps36
    go_wp2
    go_ret
    exact ⟨by unfold nameB; rw [h1, h2]; rfl, rfl⟩
  | false =>
  cases h3 : (s.toList == [100, 101, 102, 105, 110, 101]) with
  | true =>
    go_enter Tryd.func36, Tryd.ntmps36
    go_wp2
    go_ret
    exact ⟨by unfold nameB; rw [h1, h2, h3]; rfl, rfl⟩
  | false =>
  cases ho : onlyB s 16 nameC with
  | true =>
    have hp : 0 < s.size := by simp [onlyB] at ho; omega
    have hbt := Lib.hid (show bt s 0 = (s[0].toNat : Int) by simp [bt, hp])
    have HO := Lib.hid ho; clear ho
    go_enter Tryd.func36, Tryd.ntmps36
    go_wp2_with (first | (go_at_call 60; refine (only_Name s 16 nameC _ hs (fun c W _ _ => nameC_calls c W)).mono ?_; rintro e w' ⟨rfl, rfl⟩; rw [HO.out]) | (go_at_call 62; refine (small_calls _ _).mono ?_; rintro e w' ⟨rfl, rfl⟩))
    go_ret
    exact ⟨by unfold nameB; rw [h1, h2, h3, HO.out, hbt.out]; rfl, rfl⟩
  | false =>
    have HO := Lib.hid ho; clear ho
    go_enter Tryd.func36, Tryd.ntmps36
    go_wp2_with (first | (go_at_call 60; refine (only_Name s 16 nameC _ hs (fun c W _ _ => nameC_calls c W)).mono ?_; rintro e w' ⟨rfl, rfl⟩; rw [HO.out]) | (go_at_call 62; refine (small_calls _ _).mono ?_; rintro e w' ⟨rfl, rfl⟩))
    go_ret
    exact ⟨by unfold nameB; rw [h1, h2, h3, HO.out]; rfl, rfl⟩
theorem all_of_size {s : ByteArray} {m : Int} {srt : Int → Bool} (h : onlyB s m srt = true) : 0 < s.size ∧ (s.size : Int) ≤ m ∧ ∀ j : Nat, j < s.size → srt (bt s j) = true := by
  simp only [onlyB, Bool.and_eq_true, decide_eq_true_eq, List.all_eq_true] at h
  refine ⟨h.2.1, h.2.2, fun j hj => ?_⟩
  have := h.1 s[j] (by simp [ByteArray.getElem_eq_getElem_data])
  simpa [bt, hj] using this
theorem nameB_yes {s : ByteArray} (h1 : (s.toList == [116, 121, 112, 101]) = false) (h2 : (s.toList == [114, 101, 108, 97, 116, 105, 111, 110]) = false) (h3 : (s.toList == [100, 101, 102, 105, 110, 101]) = false)
    (p : 0 < s.size) (q : s.size ≤ 16) (k : Nat) (hk : ¬ k < s.size) (h : ∀ j : Nat, j < k → nameC (bt s j) = true) (hz : 0 < k → smallB (bt s 0) = true) : nameB s = true := by
  unfold nameB onlyB
  rw [h1, h2, h3, onlyB_yes hk h, hz (by omega)]
  simp; omega
theorem nameB_no {s : ByteArray} {k : Nat} (hk : k < s.size) (h : (nameC (s[k].toNat : Int) && (decide (0 < k) || smallB (s[k].toNat : Int))) = false) : nameB s = false := by
  rw [Bool.eq_false_iff]; intro H
  simp only [nameB, Bool.and_eq_true] at H
  obtain ⟨_, _, _, H, H0⟩ := H
  have hb : bt s k = (s[k].toNat : Int) := by simp [bt, hk]
  have := (all_of_size H).2.2 k hk
  rw [hb] at this
  rw [this] at h
  simp at h
  obtain ⟨rfl, h⟩ := h
  rw [← hb, H0] at h
  exact absurd h (by simp)
theorem nameB_size_no {s : ByteArray} (h : s.size = 0 ∨ 16 < s.size) : nameB s = false := by
  rw [Bool.eq_false_iff]; intro H
  have := nameB_size H
  omega
theorem small_step {s : ByteArray} {k : Nat} (h : 0 < k → smallB (bt s 0) = true) (hk : k < s.size) (hc : k = 0 → smallB (s[k].toNat : Int) = true) : 0 < k + 1 → smallB (bt s 0) = true := by
  intro _
  by_cases e : k = 0
  · subst e; have := hc rfl; simpa [bt, hk] using this
  · exact h (by omega)

theorem cls (c : Int) : (c ≤ 122 ∧ 97 ≤ c ∧ (c == 95) = false) ∨ (c < 97 ∧ 57 < c ∧ (c == 95) = true) ∨ (c < 97 ∧ (57 < c ∧ (c == 95) = false)) ∨ (c < 97 ∧ (c ≤ 57 ∧ (c == 95) = false)) ∨ (122 < c ∧ (57 < c ∧ (c == 95) = false)) := by
  by_cases e : c = 95
  · subst e; simp
  · simp [e]; omega
set_option maxHeartbeats 1000000 in
theorem refName_calls (s : ByteArray) (w : World) (hs : s.size ≤ 9223372036854775807) :
    Calls Tryd.prog 40 #[.string s] w fun e w' => e = .returned (.bool (nameB s)) ∧ w = w' := by
  by_cases hz : s.size = 0 ∨ 16 < s.size
  · have hz' := Lib.hid (nameB_size_no hz)
    rcases hz with hz | hz
    · have hd : decide ((s.size : Int) = 0) = true := by simp [hz]
      have hd2 : ((s.size : Int) == 0) = true := by simp [hz]
      clear hz
      go_enter Tryd.func40, Tryd.ntmps40
      go_wp2
      go_ret
      exact ⟨by rw [hz'.out]; rfl, rfl⟩
    · have hd2 : ((s.size : Int) == 0) = false := beq_eq_false_iff_ne.2 (by omega)
      have hd3 : (16 : Int) < (s.size : Int) := by omega
      go_enter Tryd.func40, Tryd.ntmps40
      go_wp2
      go_ret
      exact ⟨by rw [hz'.out]; rfl, rfl⟩
  · have hd2 : ((s.size : Int) == 0) = false := beq_eq_false_iff_ne.2 (by omega)
    have hd3 : ¬ (16 : Int) < (s.size : Int) := by omega
    have hd4 : (s.size : Int) ≤ 16 := by omega
    cases h1 : (s.toList == [116, 121, 112, 101]) with
    | true =>
      go_enter Tryd.func40, Tryd.ntmps40
      go_wp2
      go_ret
      exact ⟨by unfold nameB; rw [h1]; rfl, rfl⟩
    | false =>
    cases h2 : (s.toList == [114, 101, 108, 97, 116, 105, 111, 110]) with
    | true =>
      go_enter Tryd.func40, Tryd.ntmps40
      go_wp2
      go_ret
      exact ⟨by unfold nameB; rw [h1, h2]; rfl, rfl⟩
    | false =>
    cases h3 : (s.toList == [100, 101, 102, 105, 110, 101]) with
    | true =>
      go_enter Tryd.func40, Tryd.ntmps40
      go_wp2
      go_ret
      exact ⟨by unfold nameB; rw [h1, h2, h3]; rfl, rfl⟩
    | false =>
    have hy := Lib.hid (fun k hk h hz' => nameB_yes h1 h2 h3 (by omega) (by omega) k hk h hz')
    go_enter Tryd.func40, Tryd.ntmps40
    go_wp2
    go_loop [3] (fun v3 => ∃ k : Nat, k ≤ s.size ∧ v3 = .int .i64 k ∧ Asd ((∀ j : Nat, j < k → nameC (bt s j) = true) ∧ (0 < k → smallB (bt s 0) = true))) (fun v3 => s.size - (intOf v3).toNat)
    case atStart => exact ⟨0, Nat.zero_le _, rfl, ⟨fun j hj => by omega, fun h => by omega⟩⟩
    case round =>
      obtain ⟨k, hk, rfl, ha⟩ := hrel
      by_cases hlt : k < s.size
      · have hbt : bt s k = (s[k].toNat : Int) := by simp [bt, hlt]
        obtain ⟨b0, b1⟩ := bt_range s k
        rw [hbt] at b0 b1
        have HB := Lib.hid hbt; clear hbt
        rcases cls (s[k].toNat : Int) with ⟨c1, c2, c3⟩ | ⟨c1, c2, c3⟩ | ⟨c1, c2, c3⟩ | ⟨c1, c2, c3⟩ | ⟨c1, c2, c3⟩
        all_goals (by_cases hk0 : k = 0)
        all_goals (first | subst hk0 | (have hk1 : ((k : Int) == 0) = false := beq_eq_false_iff_ne.2 (by omega)))
        all_goals (first | (have c4 : decide ((s[k].toNat : Int) ≤ 122) = false := decide_eq_false (by omega)) | (have c4 : decide ((s[0].toNat : Int) ≤ 122) = false := decide_eq_false (by omega)) | skip)
        all_goals go_wp2
        all_goals first
          | (go_ret
             exact ⟨by rw [nameB_no hlt (by simp [nameC, smallB, digitB]; omega)]; rfl, rfl⟩)
          | exact ⟨⟨_, by omega, by go_num, ⟨onlyB_step ha.out.1 (by rw [HB.out]; simp [nameC, smallB, digitB]; omega), small_step ha.out.2 hlt (by intro _; simp [smallB]; omega)⟩⟩, by simp [intOf]; omega⟩
      · go_wp2
        go_ret
        exact ⟨by rw [hy.out k hlt ha.out.1 ha.out.2]; rfl, rfl⟩

end Go.Proofs.YtgmlcnikphbiiaaDoor.Nm

/-
  The contracts of package names' functions over texts (Name, ID, Cut at one byte, Object, Subject, Tuple), and of its reference's.
-/
import Derived.Test.YthgjhfcafdepcaaGreatDoorBase
import Derived.Test.YthgjhfcafdepcaaGreatDoorSpec10
import Derived.Test.YthgjhfcafdepcaaGreatDoorShelf
namespace Go.Proofs.YthgjhfcafdepcaaGreatDoor.Nm
set_option maxRecDepth 100000
open Go.RowKit Go.Proofs.YthgjhfcafdepcaaGreatDoor.B Go.Proofs.YthgjhfcafdepcaaGreatDoor.S10
set_option linter.unusedVariables false
set_option linter.unusedSimpArgs false

theorem small_calls (c : Int) (w : World) : Calls Tryz.prog 43 #[.int .u8 c] w fun e w' => e = .returned (.bool (smallB c)) ∧ w = w' := by
  by_cases h : 97 ≤ c <;> (go_enter Tryz.func43, Tryz.ntmps43; go_wp2; go_ret; exact ⟨by simp [smallB, h]; try omega, rfl⟩)
theorem great_calls (c : Int) (w : World) : Calls Tryz.prog 64 #[.int .u8 c] w fun e w' => e = .returned (.bool (greatB c)) ∧ w = w' := by
  by_cases h : 65 ≤ c <;> (go_enter Tryz.func64, Tryz.ntmps64; go_wp2; go_ret; exact ⟨by simp [greatB, h]; try omega, rfl⟩)
theorem digit_calls (c : Int) (w : World) : Calls Tryz.prog 44 #[.int .u8 c] w fun e w' => e = .returned (.bool (digitB c)) ∧ w = w' := by
  by_cases h : 48 ≤ c <;> (go_enter Tryz.func44, Tryz.ntmps44; go_wp2; go_ret; exact ⟨by simp [digitB, h]; try omega, rfl⟩)
theorem nameC_calls (c : Int) (w : World) : Calls Tryz.prog 42 #[.int .u8 c] w fun e w' => e = .returned (.bool (nameC c)) ∧ w = w' := by
  cases h1 : smallB c <;> cases h2 : digitB c <;>
  (have H1 := Lib.hid h1; have H2 := Lib.hid h2; clear h1 h2
   go_enter Tryz.func42, Tryz.ntmps42
   go_wp2_with (first | (go_at_call 43; refine (small_calls _ _).mono ?_; rintro e w' ⟨rfl, rfl⟩; rw [H1.out]) | (go_at_call 44; refine (digit_calls _ _).mono ?_; rintro e w' ⟨rfl, rfl⟩; rw [H2.out]))
   go_ret
   exact ⟨by simp [nameC, H1.out, H2.out], rfl⟩)
theorem index3 (c : Int) (h0 : 0 ≤ c) (h1 : c ≤ 255) : decide (0 ≤ Lib.indexByte [95, 46, 45] c.toNat.toUInt8) = (c == 95 || (c == 46 || c == 45)) := by
  obtain ⟨n, rfl⟩ := Int.eq_ofNat_of_zero_le h0
  have h : ∀ m : Fin 256, decide (0 ≤ Lib.indexByte [95, 46, 45] (m.val : Int).toNat.toUInt8) = ((m.val : Int) == 95 || ((m.val : Int) == 46 || (m.val : Int) == 45)) := by decide +kernel
  exact h ⟨n, by omega⟩
theorem idC_calls (c : Int) (w : World) (h0 : 0 ≤ c) (h1 : c ≤ 255) : Calls Tryz.prog 63 #[.int .u8 c] w fun e w' => e = .returned (.bool (idC c)) ∧ w = w' := by
  have h3 := Lib.hid (index3 c h0 h1)
  cases h1 : smallB c <;> cases h2 : greatB c <;> cases h4 : digitB c <;>
  (have H1 := Lib.hid h1; have H2 := Lib.hid h2; have H4 := Lib.hid h4; clear h1 h2 h4
   go_enter Tryz.func63, Tryz.ntmps63
   go_wp2_with (first | (go_at_call 43; refine (small_calls _ _).mono ?_; rintro e w' ⟨rfl, rfl⟩; rw [H1.out]) | (go_at_call 64; refine (great_calls _ _).mono ?_; rintro e w' ⟨rfl, rfl⟩; rw [H2.out]) | (go_at_call 44; refine (digit_calls _ _).mono ?_; rintro e w' ⟨rfl, rfl⟩; rw [H4.out]) | (go_at_call 65; refine (Tryz.strings_IndexByte _ _ _).mono ?_; rintro e w' ⟨rfl, rfl⟩))
   go_ret
   exact ⟨by first | (simp [idC, H1.out, H2.out, H4.out]; done) | (have := h3.out; simp [idC, H1.out, H2.out, H4.out] at this ⊢; exact this), rfl⟩)

set_option maxHeartbeats 400000 in
theorem only_Name (s : ByteArray) (m : Int) (srt : Int → Bool) (w : World) (hs : s.size ≤ 9223372036854775807)
    (hf0 : ∀ (c : Int) (W : World), 0 ≤ c → c ≤ 255 → Calls Tryz.prog 42 #[.int .u8 c] W fun e w' => e = .returned (.bool (srt c)) ∧ W = w') :
    Calls Tryz.prog 41 #[.string s, .int .i64 m, .func (.func 42) #[] #[]] w fun e w' => e = .returned (.bool (onlyB s m srt)) ∧ w = w' := by
  have hf := Lib.hid hf0
  clear hf0
  go_enter Tryz.func41, Tryz.ntmps41
  go_wp2
  go_loop [7, 10] (fun _ v10 => ∃ k : Nat, k ≤ s.size ∧ v10 = .int .i64 k ∧ Asd (∀ j : Nat, j < k → srt (bt s j) = true)) (fun _ v10 => s.size - (intOf v10).toNat)
  case atStart => exact ⟨0, Nat.zero_le _, rfl, ⟨fun j hj => by omega⟩⟩
  case round =>
    obtain ⟨k, hk, rfl, ha⟩ := hrel
    by_cases hlt : k < s.size
    · have hbt : bt s k = (s[k].toNat : Int) := by simp [bt, hlt]
      obtain ⟨b0, b1⟩ := bt_range s k
      rw [hbt] at b0 b1
      cases hsr : srt (s[k].toNat : Int) with
      | true =>
        have HS := Lib.hid hsr; clear hsr
        have HB := Lib.hid hbt; clear hbt
        go_wp2_with (go_at_call 42; refine (hf.out _ _ b0 b1).mono ?_; rintro e w' ⟨rfl, rfl⟩; rw [HS.out])
        go_round
        case rel => exact ⟨k + 1, by omega, by go_num, ⟨onlyB_step ha.out (by rw [HB.out]; exact HS.out)⟩⟩
        case measure => simp [intOf]; omega
      | false =>
        have HS := Lib.hid hsr; clear hsr
        have HB := Lib.hid hbt; clear hbt
        go_wp2_with (go_at_call 42; refine (hf.out _ _ b0 b1).mono ?_; rintro e w' ⟨rfl, rfl⟩; rw [HS.out])
        go_ret
        exact ⟨by rw [onlyB_no' hlt HS.out]; rfl, rfl⟩
    · have HY := Lib.hid (onlyB_yes hlt ha.out)
      by_cases h0 : 0 < s.size
      · go_wp2
        go_ret
        exact ⟨by unfold onlyB; rw [HY.out]; simp [h0], rfl⟩
      · go_wp2
        go_ret
        exact ⟨by unfold onlyB; rw [HY.out]; simp [h0], rfl⟩

set_option maxHeartbeats 400000 in
theorem only_ID (s : ByteArray) (m : Int) (srt : Int → Bool) (w : World) (hs : s.size ≤ 9223372036854775807)
    (hf0 : ∀ (c : Int) (W : World), 0 ≤ c → c ≤ 255 → Calls Tryz.prog 63 #[.int .u8 c] W fun e w' => e = .returned (.bool (srt c)) ∧ W = w') :
    Calls Tryz.prog 41 #[.string s, .int .i64 m, .func (.func 63) #[] #[]] w fun e w' => e = .returned (.bool (onlyB s m srt)) ∧ w = w' := by
  have hf := Lib.hid hf0
  clear hf0
  go_enter Tryz.func41, Tryz.ntmps41
  go_wp2
  go_loop [7, 10] (fun _ v10 => ∃ k : Nat, k ≤ s.size ∧ v10 = .int .i64 k ∧ Asd (∀ j : Nat, j < k → srt (bt s j) = true)) (fun _ v10 => s.size - (intOf v10).toNat)
  case atStart => exact ⟨0, Nat.zero_le _, rfl, ⟨fun j hj => by omega⟩⟩
  case round =>
    obtain ⟨k, hk, rfl, ha⟩ := hrel
    by_cases hlt : k < s.size
    · have hbt : bt s k = (s[k].toNat : Int) := by simp [bt, hlt]
      obtain ⟨b0, b1⟩ := bt_range s k
      rw [hbt] at b0 b1
      cases hsr : srt (s[k].toNat : Int) with
      | true =>
        have HS := Lib.hid hsr; clear hsr
        have HB := Lib.hid hbt; clear hbt
        go_wp2_with (go_at_call 63; refine (hf.out _ _ b0 b1).mono ?_; rintro e w' ⟨rfl, rfl⟩; rw [HS.out])
        go_round
        case rel => exact ⟨k + 1, by omega, by go_num, ⟨onlyB_step ha.out (by rw [HB.out]; exact HS.out)⟩⟩
        case measure => simp [intOf]; omega
      | false =>
        have HS := Lib.hid hsr; clear hsr
        have HB := Lib.hid hbt; clear hbt
        go_wp2_with (go_at_call 63; refine (hf.out _ _ b0 b1).mono ?_; rintro e w' ⟨rfl, rfl⟩; rw [HS.out])
        go_ret
        exact ⟨by rw [onlyB_no' hlt HS.out]; rfl, rfl⟩
    · have HY := Lib.hid (onlyB_yes hlt ha.out)
      by_cases h0 : 0 < s.size
      · go_wp2
        go_ret
        exact ⟨by unfold onlyB; rw [HY.out]; simp [h0], rfl⟩
      · go_wp2
        go_ret
        exact ⟨by unfold onlyB; rw [HY.out]; simp [h0], rfl⟩

set_option maxHeartbeats 400000 in
theorem Name_calls (s : ByteArray) (w : World) (hs : s.size ≤ 9223372036854775807) :
    Calls Tryz.prog 20 #[.string s] w fun e w' => e = .returned (.bool (nameB s)) ∧ w = w' := by
  cases h1 : (s.toList == [116, 121, 112, 101]) with
  | true =>
    go_enter Tryz.func20, Tryz.ntmps20
    go_wp2
    go_ret
    exact ⟨by unfold nameB; rw [h1]; rfl, rfl⟩
  | false =>
  cases h2 : (s.toList == [114, 101, 108, 97, 116, 105, 111, 110]) with
  | true =>
    go_enter Tryz.func20, Tryz.ntmps20
    go_wp2
    go_ret
    exact ⟨by unfold nameB; rw [h1, h2]; rfl, rfl⟩
  | false =>
  cases h3 : (s.toList == [100, 101, 102, 105, 110, 101]) with
  | true =>
    go_enter Tryz.func20, Tryz.ntmps20
    go_wp2
    go_ret
    exact ⟨by unfold nameB; rw [h1, h2, h3]; rfl, rfl⟩
  | false =>
  cases ho : onlyB s 16 nameC with
  | true =>
    have hp : 0 < s.size := by simp [onlyB] at ho; omega
    have hbt := Lib.hid (show bt s 0 = (s[0].toNat : Int) by simp [bt, hp])
    have HO := Lib.hid ho; clear ho
    go_enter Tryz.func20, Tryz.ntmps20
    go_wp2_with (first | (go_at_call 41; refine (only_Name s 16 nameC _ hs (fun c W _ _ => nameC_calls c W)).mono ?_; rintro e w' ⟨rfl, rfl⟩; rw [HO.out]) | (go_at_call 43; refine (small_calls _ _).mono ?_; rintro e w' ⟨rfl, rfl⟩))
    go_ret
    exact ⟨by unfold nameB; rw [h1, h2, h3, HO.out, hbt.out]; rfl, rfl⟩
  | false =>
    have HO := Lib.hid ho; clear ho
    go_enter Tryz.func20, Tryz.ntmps20
    go_wp2_with (first | (go_at_call 41; refine (only_Name s 16 nameC _ hs (fun c W _ _ => nameC_calls c W)).mono ?_; rintro e w' ⟨rfl, rfl⟩; rw [HO.out]) | (go_at_call 43; refine (small_calls _ _).mono ?_; rintro e w' ⟨rfl, rfl⟩))
    go_ret
    exact ⟨by unfold nameB; rw [h1, h2, h3, HO.out]; rfl, rfl⟩
theorem ID_calls (s : ByteArray) (w : World) (hs : s.size ≤ 9223372036854775807) :
    Calls Tryz.prog 40 #[.string s] w fun e w' => e = .returned (.bool (idB s)) ∧ w = w' := by
  go_enter Tryz.func40, Tryz.ntmps40
  go_wp2_with (go_at_call 41; refine (only_ID s 24 idC _ hs (fun c W h0 h1 => idC_calls c W h0 h1)).mono ?_; rintro e w' ⟨rfl, rfl⟩)
  go_ret
  exact ⟨rfl, rfl⟩
end Go.Proofs.YthgjhfcafdepcaaGreatDoor.Nm

/-
  The contracts of the reference's Name, ID and cut, and of strings.Cut at one byte.
-/
namespace Go.Proofs.YthgjhfcafdepcaaGreatDoor.Nm
set_option maxRecDepth 100000
open Go.RowKit Go.Proofs.YthgjhfcafdepcaaGreatDoor.B Go.Proofs.YthgjhfcafdepcaaGreatDoor.S10
set_option linter.unusedVariables false
set_option linter.unusedSimpArgs false

theorem all_of_size {s : ByteArray} {m : Int} {srt : Int → Bool} (h : onlyB s m srt = true) : 0 < s.size ∧ (s.size : Int) ≤ m ∧ ∀ j : Nat, j < s.size → srt (bt s j) = true := by
  simp only [onlyB, Bool.and_eq_true, decide_eq_true_eq, List.all_eq_true] at h
  refine ⟨h.2.1, h.2.2, fun j hj => ?_⟩
  have := h.1 s[j] (by simp [ByteArray.getElem_eq_getElem_data])
  simpa [bt, hj] using this
theorem nameB_yes {s : ByteArray} (h1 : (s.toList == [116, 121, 112, 101]) = false) (h2 : (s.toList == [114, 101, 108, 97, 116, 105, 111, 110]) = false) (h3 : (s.toList == [100, 101, 102, 105, 110, 101]) = false)
    (p : 0 < s.size) (q : s.size ≤ 16) (k : Nat) (hk : ¬ k < s.size) (h : ∀ j : Nat, j < k → nameC (bt s j) = true) (hz : 0 < k → smallB (bt s 0) = true) : nameB s = true := by
  unfold nameB onlyB
  rw [h1, h2, h3, onlyB_yes hk h, hz (by omega)]
  simp; omega
theorem nameB_no {s : ByteArray} {k : Nat} (hk : k < s.size) (h : (nameC (s[k].toNat : Int) && (decide (0 < k) || smallB (s[k].toNat : Int))) = false) : nameB s = false := by
  rw [Bool.eq_false_iff]; intro H
  simp only [nameB, Bool.and_eq_true] at H
  obtain ⟨_, _, _, H, H0⟩ := H
  have hb : bt s k = (s[k].toNat : Int) := by simp [bt, hk]
  have := (all_of_size H).2.2 k hk
  rw [hb] at this
  rw [this] at h
  simp at h
  obtain ⟨rfl, h⟩ := h
  rw [← hb, H0] at h
  exact absurd h (by simp)
theorem nameB_size_no {s : ByteArray} (h : s.size = 0 ∨ 16 < s.size) : nameB s = false := by
  rw [Bool.eq_false_iff]; intro H
  have := nameB_size H
  omega
theorem idB_size_no {s : ByteArray} (h : s.size = 0 ∨ 24 < s.size) : idB s = false := by
  rw [Bool.eq_false_iff]; intro H
  have := idB_size H
  omega
theorem small_step {s : ByteArray} {k : Nat} (h : 0 < k → smallB (bt s 0) = true) (hk : k < s.size) (hc : k = 0 → smallB (s[k].toNat : Int) = true) : 0 < k + 1 → smallB (bt s 0) = true := by
  intro _
  by_cases e : k = 0
  · subst e; have := hc rfl; simpa [bt, hk] using this
  · exact h (by omega)

theorem cls (c : Int) : (c ≤ 122 ∧ 97 ≤ c ∧ (c == 95) = false) ∨ (c < 97 ∧ 57 < c ∧ (c == 95) = true) ∨ (c < 97 ∧ (57 < c ∧ (c == 95) = false)) ∨ (c < 97 ∧ (c ≤ 57 ∧ (c == 95) = false)) ∨ (122 < c ∧ (57 < c ∧ (c == 95) = false)) := by
  by_cases e : c = 95
  · subst e; simp
  · simp [e]; omega
set_option maxHeartbeats 1000000 in
theorem refName_calls (s : ByteArray) (w : World) (hs : s.size ≤ 9223372036854775807) :
    Calls Tryz.prog 23 #[.string s] w fun e w' => e = .returned (.bool (nameB s)) ∧ w = w' := by
  by_cases hz : s.size = 0 ∨ 16 < s.size
  · have hz' := Lib.hid (nameB_size_no hz)
    rcases hz with hz | hz
    · have hd : decide ((s.size : Int) = 0) = true := by simp [hz]
      have hd2 : ((s.size : Int) == 0) = true := by simp [hz]
      clear hz
      go_enter Tryz.func23, Tryz.ntmps23
      go_wp2
      go_ret
      exact ⟨by rw [hz'.out]; rfl, rfl⟩
    · have hd2 : ((s.size : Int) == 0) = false := beq_eq_false_iff_ne.2 (by omega)
      have hd3 : (16 : Int) < (s.size : Int) := by omega
      go_enter Tryz.func23, Tryz.ntmps23
      go_wp2
      go_ret
      exact ⟨by rw [hz'.out]; rfl, rfl⟩
  · have hd2 : ((s.size : Int) == 0) = false := beq_eq_false_iff_ne.2 (by omega)
    have hd3 : ¬ (16 : Int) < (s.size : Int) := by omega
    have hd4 : (s.size : Int) ≤ 16 := by omega
    cases h1 : (s.toList == [116, 121, 112, 101]) with
    | true =>
      go_enter Tryz.func23, Tryz.ntmps23
      go_wp2
      go_ret
      exact ⟨by unfold nameB; rw [h1]; rfl, rfl⟩
    | false =>
    cases h2 : (s.toList == [114, 101, 108, 97, 116, 105, 111, 110]) with
    | true =>
      go_enter Tryz.func23, Tryz.ntmps23
      go_wp2
      go_ret
      exact ⟨by unfold nameB; rw [h1, h2]; rfl, rfl⟩
    | false =>
    cases h3 : (s.toList == [100, 101, 102, 105, 110, 101]) with
    | true =>
      go_enter Tryz.func23, Tryz.ntmps23
      go_wp2
      go_ret
      exact ⟨by unfold nameB; rw [h1, h2, h3]; rfl, rfl⟩
    | false =>
    have hy := Lib.hid (fun k hk h hz' => nameB_yes h1 h2 h3 (by omega) (by omega) k hk h hz')
    go_enter Tryz.func23, Tryz.ntmps23
    go_wp2
    go_loop [3] (fun v3 => ∃ k : Nat, k ≤ s.size ∧ v3 = .int .i64 k ∧ Asd ((∀ j : Nat, j < k → nameC (bt s j) = true) ∧ (0 < k → smallB (bt s 0) = true))) (fun v3 => s.size - (intOf v3).toNat)
    case atStart => exact ⟨0, Nat.zero_le _, rfl, ⟨fun j hj => by omega, fun h => by omega⟩⟩
    case round =>
      obtain ⟨k, hk, rfl, ha⟩ := hrel
      by_cases hlt : k < s.size
      · have hbt : bt s k = (s[k].toNat : Int) := by simp [bt, hlt]
        obtain ⟨b0, b1⟩ := bt_range s k
        rw [hbt] at b0 b1
        have HB := Lib.hid hbt; clear hbt
        rcases cls (s[k].toNat : Int) with ⟨c1, c2, c3⟩ | ⟨c1, c2, c3⟩ | ⟨c1, c2, c3⟩ | ⟨c1, c2, c3⟩ | ⟨c1, c2, c3⟩
        all_goals (by_cases hk0 : k = 0)
        all_goals (first | subst hk0 | (have hk1 : ((k : Int) == 0) = false := beq_eq_false_iff_ne.2 (by omega)))
        all_goals (first | (have c4 : decide ((s[k].toNat : Int) ≤ 122) = false := decide_eq_false (by omega)) | (have c4 : decide ((s[0].toNat : Int) ≤ 122) = false := decide_eq_false (by omega)) | skip)
        all_goals go_wp2
        all_goals first
          | (go_ret
             exact ⟨by rw [nameB_no hlt (by simp [nameC, smallB, digitB]; omega)]; rfl, rfl⟩)
          | exact ⟨⟨_, by omega, by go_num, ⟨onlyB_step ha.out.1 (by rw [HB.out]; simp [nameC, smallB, digitB]; omega), small_step ha.out.2 hlt (by intro _; simp [smallB]; omega)⟩⟩, by simp [intOf]; omega⟩
      · go_wp2
        go_ret
        exact ⟨by rw [hy.out k hlt ha.out.1 ha.out.2]; rfl, rfl⟩

theorem idB_yes {s : ByteArray} (p : 0 < s.size) (q : s.size ≤ 24) (k : Nat) (hk : ¬ k < s.size) (h : ∀ j : Nat, j < k → idC (bt s j) = true) : idB s = true := by
  unfold idB onlyB
  rw [onlyB_yes hk h]
  simp; omega
theorem clsI (c : Int) : (c < 97 ∧ c < 65 ∧ c < 48 ∧ (c == 95) = false ∧ ((c == 46) = true ∧ (c == 45) = false ∨ (c == 46) = false ∧ (c == 45) = true ∨ (c == 46) = false ∧ (c == 45) = false)) ∨
    (c < 97 ∧ c < 65 ∧ 48 ≤ c ∧ c ≤ 57) ∨ (c < 97 ∧ c < 65 ∧ 57 < c ∧ (c == 95) = false ∧ (c == 46) = false ∧ (c == 45) = false) ∨ (c < 97 ∧ 65 ≤ c ∧ c ≤ 90) ∨
    (c < 97 ∧ 90 < c ∧ 57 < c ∧ ((c == 95) = true ∨ (c == 95) = false ∧ (c == 46) = false ∧ (c == 45) = false)) ∨ (97 ≤ c ∧ c ≤ 122) ∨ (122 < c ∧ 90 < c ∧ 57 < c ∧ (c == 95) = false ∧ (c == 46) = false ∧ (c == 45) = false) := by
  simp only [beq_iff_eq, beq_eq_false_iff_ne]
  omega
set_option maxHeartbeats 1000000 in
theorem refID_calls (s : ByteArray) (w : World) (hs : s.size ≤ 9223372036854775807) :
    Calls Tryz.prog 49 #[.string s] w fun e w' => e = .returned (.bool (idB s)) ∧ w = w' := by
  by_cases hz : s.size = 0 ∨ 24 < s.size
  · have hz' := Lib.hid (idB_size_no hz)
    rcases hz with hz | hz
    · have hd : decide ((s.size : Int) = 0) = true := by simp [hz]
      have hd2 : ((s.size : Int) == 0) = true := by simp [hz]
      clear hz
      go_enter Tryz.func49, Tryz.ntmps49
      go_wp2
      go_ret
      exact ⟨by rw [hz'.out]; rfl, rfl⟩
    · have hd2 : ((s.size : Int) == 0) = false := beq_eq_false_iff_ne.2 (by omega)
      have hd3 : (24 : Int) < (s.size : Int) := by omega
      go_enter Tryz.func49, Tryz.ntmps49
      go_wp2
      go_ret
      exact ⟨by rw [hz'.out]; rfl, rfl⟩
  · have hd2 : ((s.size : Int) == 0) = false := beq_eq_false_iff_ne.2 (by omega)
    have hd3 : ¬ (24 : Int) < (s.size : Int) := by omega
    have hd4 : (s.size : Int) ≤ 24 := by omega
    have hy := Lib.hid (fun k hk h => idB_yes (s := s) (by omega) (by omega) k hk h)
    go_enter Tryz.func49, Tryz.ntmps49
    go_wp2
    go_loop [3] (fun v3 => ∃ k : Nat, k ≤ s.size ∧ v3 = .int .i64 k ∧ Asd (∀ j : Nat, j < k → idC (bt s j) = true)) (fun v3 => s.size - (intOf v3).toNat)
    case atStart => exact ⟨0, Nat.zero_le _, rfl, ⟨fun j hj => by omega⟩⟩
    case round =>
      obtain ⟨k, hk, rfl, ha⟩ := hrel
      by_cases hlt : k < s.size
      · have hbt : bt s k = (s[k].toNat : Int) := by simp [bt, hlt]
        obtain ⟨b0, b1⟩ := bt_range s k
        rw [hbt] at b0 b1
        have HB := Lib.hid hbt; clear hbt
        have hno : idC (s[k].toNat : Int) = false → idB s = false := fun h => onlyB_no' hlt h
        have hno' := Lib.hid hno; clear hno
        rcases clsI (s[k].toNat : Int) with ⟨c1, c2, c3, c5, ⟨c6, c7⟩ | ⟨c6, c7⟩ | ⟨c6, c7⟩⟩ | ⟨c1, c2, c3, c5⟩ | ⟨c1, c2, c3, c5, c6, c7⟩ | ⟨c1, c2, c3⟩ | ⟨c1, c2, c3, c5 | ⟨c5, c6, c7⟩⟩ | ⟨c1, c2⟩ | ⟨c1, c2, c3, c5, c6, c7⟩
        all_goals (first | (have d1 : decide ((s[k].toNat : Int) ≤ 122) = false := decide_eq_false (by omega)) | skip)
        all_goals (first | (have d2 : decide ((s[k].toNat : Int) ≤ 90) = false := decide_eq_false (by omega)) | skip)
        all_goals (first | (have d3 : decide ((s[k].toNat : Int) ≤ 57) = false := decide_eq_false (by omega)) | skip)
        all_goals go_wp2
        all_goals first
          | (go_ret
             exact ⟨by rw [hno'.out (by simp [idC, smallB, greatB, digitB] at *; omega)]; rfl, rfl⟩)
          | exact ⟨⟨_, by omega, by go_num, ⟨onlyB_step ha.out (by rw [HB.out]; simp [idC, smallB, greatB, digitB] at *; omega)⟩⟩, by simp [intOf]; omega⟩
          | trace_state
      · go_wp2
        go_ret
        exact ⟨by rw [hy.out k hlt ha.out]; rfl, rfl⟩

theorem bt_get (s : ByteArray) (k : Nat) (hk : k < s.size) : bt s k = (s.data.toList[k]'(by simpa using hk)).toNat := by
  simp [bt, hk, ByteArray.getElem_eq_getElem_data]
theorem bt_eq {s : ByteArray} {c : UInt8} {k : Nat} (hk : k < s.size) : (bt s k == (c.toNat : Int)) = (s.data.toList[k]'(by simpa using hk) == c) := by
  rw [bt_get s k hk, Bool.eq_iff_iff, beq_iff_eq, beq_iff_eq]
  rw [← UInt8.toNat_inj]; omega
theorem index_first {l : List UInt8} {c : UInt8} {k : Nat} (h : l[k]? = some c) (ha : ∀ j : Nat, j < k → l[j]? ≠ some c) : Lib.indexByte l c = k := by
  have h1 : 0 ≤ Lib.indexByte l c := by
    have := Lib.indexByte_ge l c
    by_cases e : Lib.indexByte l c = -1
    · exact absurd h (Lib.indexByte_none e k)
    · omega
  obtain ⟨o, ho⟩ : ∃ o : Nat, Lib.indexByte l c = o := ⟨(Lib.indexByte l c).toNat, by omega⟩
  have h2 := Lib.indexByte_some ho
  rcases Nat.lt_trichotomy k o with h3 | h3 | h3
  · exact absurd h (h2.2 k h3)
  · rw [ho, h3]
  · exact absurd h2.1 (ha o h3)
theorem index_none {l : List UInt8} {c : UInt8} (ha : ∀ j : Nat, l[j]? ≠ some c) : Lib.indexByte l c = -1 := by
  have := Lib.indexByte_ge l c
  by_cases e : Lib.indexByte l c = -1
  · exact e
  · obtain ⟨o, ho⟩ : ∃ o : Nat, Lib.indexByte l c = o := ⟨(Lib.indexByte l c).toNat, by omega⟩
    exact absurd (Lib.indexByte_some ho).1 (ha o)
theorem bt_ne {s : ByteArray} {c : UInt8} {j : Nat} (hj : j < s.size) (h : (bt s j == (c.toNat : Int)) = false) : s.data.toList[j]? ≠ some c := by
  rw [bt_eq hj] at h
  rw [List.getElem?_eq_getElem (by simpa using hj)]
  simpa using h
theorem cutF_hit {s : ByteArray} {c : UInt8} {k : Nat} (hk : k < s.size) (h : (bt s k == (c.toNat : Int)) = true) (ha : ∀ j : Nat, j < k → (bt s j == (c.toNat : Int)) = false) : cutF s c = (s.extract 0 k, s.extract (k + 1) s.size, true) := by
  have e : Lib.indexByte s.data.toList c = k := index_first (by
    rw [bt_eq hk] at h
    rw [List.getElem?_eq_getElem (by simpa using hk)]
    simpa using h) (fun j hj => bt_ne (by omega) (ha j hj))
  unfold cutF
  rw [e, if_pos (by omega)]; rfl
theorem cutF_miss {s : ByteArray} {c : UInt8} {k : Nat} (hk : ¬ k < s.size) (ha : ∀ j : Nat, j < k → (bt s j == (c.toNat : Int)) = false) : cutF s c = (s, ⟨#[]⟩, false) := by
  have e : Lib.indexByte s.data.toList c = -1 := index_none (fun j => by
    by_cases hj : j < s.size
    · exact bt_ne hj (ha j (by omega))
    · rw [List.getElem?_eq_none (by simpa using hj)]; simp)
  unfold cutF
  rw [e, if_neg (by omega)]
theorem cut_step {s : ByteArray} {c : UInt8} {k : Nat} (ha : ∀ j : Nat, j < k → (bt s j == (c.toNat : Int)) = false) (h : (bt s k == (c.toNat : Int)) = false) : ∀ j : Nat, j < k + 1 → (bt s j == (c.toNat : Int)) = false := by
  intro j hj
  by_cases e : j = k
  · subst e; exact h
  · exact ha j (by omega)
set_option maxHeartbeats 1000000 in
theorem refCut_calls (s : ByteArray) (c : UInt8) (w : World) (hs : s.size ≤ 9223372036854775807) :
    Calls Tryz.prog 60 #[.string s, .int .u8 (c.toNat : Int)] w fun e w' => e = .returned (.tuple #[.string (cutF s c).1, .string (cutF s c).2.1, .bool (cutF s c).2.2]) ∧ ∃ n, w' = w.drewN n := by
  go_enter Tryz.func60, Tryz.ntmps60
  go_wp2
  go_loop [7] (fun v7 => ∃ k : Nat, k ≤ s.size ∧ v7 = .int .i64 k ∧ Asd (∀ j : Nat, j < k → (bt s j == (c.toNat : Int)) = false)) (fun v7 => s.size - (intOf v7).toNat)
  case atStart => exact ⟨0, Nat.zero_le _, rfl, ⟨fun j hj => by omega⟩⟩
  case round =>
    obtain ⟨k, hk, rfl, ha⟩ := hrel
    by_cases hlt : k < s.size
    · have hbt : bt s k = (s[k].toNat : Int) := by simp [bt, hlt]
      obtain ⟨b0, b1⟩ := bt_range s k
      rw [hbt] at b0 b1
      have HB := Lib.hid hbt; clear hbt
      cases hc : ((s[k].toNat : Int) == (c.toNat : Int)) with
      | true =>
        have hf := Lib.hid (cutF_hit hlt (by rw [HB.out]; exact hc) ha.out)
        have hle : (k : Int) ≤ (s.size : Int) := by omega
        have hle1 : (k : Int) + 1 ≤ (s.size : Int) := by omega
        have h0 : (0 : Int) ≤ (k : Int) := by omega
        go_wp2
        go_quiet (fail)
        go_wp2
        go_ret3
        exact ⟨by rw [hf.out]; rfl, _, rfl⟩
      | false =>
        go_wp2
        go_round
        case rel => exact ⟨k + 1, by omega, by go_num, ⟨cut_step ha.out (by rw [HB.out]; exact hc)⟩⟩
        case measure => simp [intOf]; omega
    · have hf := Lib.hid (cutF_miss hlt ha.out)
      go_wp2
      go_ret3
      exact ⟨by rw [hf.out]; rfl, 0, rfl⟩

set_option maxHeartbeats 1000000 in
theorem slCut_calls (s : ByteArray) (c : UInt8) (w : World) (hs : s.size ≤ 9223372036854775807) :
    Calls Tryz.prog 93 #[.string s, .string ⟨#[c]⟩] w fun e w' => e = .returned (.tuple #[.string (cutF s c).1, .string (cutF s c).2.1, .bool (cutF s c).2.2]) ∧ ∃ n, w' = w.drewN n := by
  have hlen : ((⟨#[c]⟩ : ByteArray).size : Int) = 1 := rfl
  by_cases h : 0 ≤ Lib.indexByte s.data.toList c
  · have hl := index_lt _ _ h
    obtain ⟨k, hk⟩ : ∃ k : Nat, Lib.indexByte s.data.toList c = k := ⟨(Lib.indexByte s.data.toList c).toNat, by omega⟩
    have hlt : k < s.size := by rw [hk] at hl; simpa using hl
    have hf : Hid (cutF s c = (s.extract 0 k, s.extract (k + 1) s.size, true)) := Lib.hid (by unfold cutF; rw [hk, if_pos (by omega)]; rfl)
    have HK := Lib.hid hk; clear hk hl h
    have h0 : (0 : Int) ≤ (k : Int) := by omega
    have hle : (k : Int) ≤ (s.size : Int) := by omega
    have hle1 : (k : Int) + 1 ≤ (s.size : Int) := by omega
    go_enter Tryz.func93, Tryz.ntmps93
    go_wp2_with (go_at_call 105; refine (Tryz.stringslite_Index_one s c _).mono ?_; rintro e w' ⟨rfl, rfl⟩; rw [HK.out])
    go_quiet (fail)
    go_wp2
    go_ret3
    exact ⟨by rw [hf.out]; rfl, _, rfl⟩
  · have hf : Hid (cutF s c = (s, ⟨#[]⟩, false)) := Lib.hid (by unfold cutF; rw [if_neg h])
    have hk : Lib.indexByte s.data.toList c = -1 := by have := Lib.indexByte_ge s.data.toList c; omega
    have HK := Lib.hid hk; clear hk h
    go_enter Tryz.func93, Tryz.ntmps93
    go_wp2_with (go_at_call 105; refine (Tryz.stringslite_Index_one s c _).mono ?_; rintro e w' ⟨rfl, rfl⟩; rw [HK.out])
    go_ret3
    exact ⟨by rw [hf.out]; rfl, 0, rfl⟩
set_option maxHeartbeats 1000000 in
theorem Cut_calls (s : ByteArray) (c : UInt8) (w : World) (hs : s.size ≤ 9223372036854775807) :
    Calls Tryz.prog 77 #[.string s, .string ⟨#[c]⟩] w fun e w' => e = .returned (.tuple #[.string (cutF s c).1, .string (cutF s c).2.1, .bool (cutF s c).2.2]) ∧ ∃ n, w' = w.drewN n := by
  go_enter Tryz.func77, Tryz.ntmps77
  go_wp2_with (go_at_call 93; refine (slCut_calls s c _ hs).mono ?_; rintro e w' ⟨rfl, n, rfl⟩)
  go_ret3
  exact ⟨rfl, n, rfl⟩
end Go.Proofs.YthgjhfcafdepcaaGreatDoor.Nm

/-
  The contracts of Object and Subject, of package names and of its reference.
-/
namespace Go.Proofs.YthgjhfcafdepcaaGreatDoor.Nm
set_option maxRecDepth 100000
open Go.RowKit Go.Proofs.YthgjhfcafdepcaaGreatDoor.B Go.Proofs.YthgjhfcafdepcaaGreatDoor.S10
set_option linter.unusedVariables false
set_option linter.unusedSimpArgs false

abbrev vObj (x : ByteArray × ByteArray × Bool) : Value := .tuple #[.agg #[.string x.1, .string x.2.1], .bool x.2.2]
abbrev vSub (x : ByteArray × ByteArray × ByteArray × Bool) : Value := .tuple #[.agg #[.string x.1, .string x.2.1, .string x.2.2.1], .bool x.2.2.2]

set_option maxHeartbeats 1000000 in
theorem Object_calls (s : ByteArray) (w : World) (hs : s.size ≤ 9223372036854775807) :
    Calls Tryz.prog 57 #[.string s] w fun e w' => e = .returned (vObj (objF s)) ∧ Below w.heap.size w w' := by
  have hz := cutF_size s 58
  cases hn : nameB (cutF s 58).1 with
  | false =>
    have hf : Hid (objF s = (eps, eps, false)) := Lib.hid (by unfold objF; rw [hn]; rfl)
    go_enter Tryz.func57, Tryz.ntmps57
    go_wp2_with (first | (go_at_call 77; refine (Cut_calls s 58 _ hs).mono ?_; rintro e w' ⟨rfl, n, rfl⟩) | (go_at_call 20; refine (Name_calls _ _ (by omega)).mono ?_; rintro e w' ⟨rfl, rfl⟩) | (go_at_call 40; refine (ID_calls _ _ (by omega)).mono ?_; rintro e w' ⟨rfl, rfl⟩))
    exact bodyPost_ret (v := vObj (eps, eps, false)) (by simp [results, Tryz.results57, go_sem]) rfl ⟨by rw [hf.out], by repeat (first | exact Below.refl _ _ | (with_reducible assumption) | refine Below.setCell ?_ (by simp) _ | refine Below.alloc ?_ (by simp) _ | refine below_drewN ?_ _)⟩
  | true =>
    cases hi : idB (cutF s 58).2.1 with
    | false =>
      have hf : Hid (objF s = (eps, eps, false)) := Lib.hid (by unfold objF; rw [hn, hi]; rfl)
      go_enter Tryz.func57, Tryz.ntmps57
      go_wp2_with (first | (go_at_call 77; refine (Cut_calls s 58 _ hs).mono ?_; rintro e w' ⟨rfl, n, rfl⟩) | (go_at_call 20; refine (Name_calls _ _ (by omega)).mono ?_; rintro e w' ⟨rfl, rfl⟩) | (go_at_call 40; refine (ID_calls _ _ (by omega)).mono ?_; rintro e w' ⟨rfl, rfl⟩))
      exact bodyPost_ret (v := vObj (eps, eps, false)) (by simp [results, Tryz.results57, go_sem]) rfl ⟨by rw [hf.out], by repeat (first | exact Below.refl _ _ | (with_reducible assumption) | refine Below.setCell ?_ (by simp) _ | refine Below.alloc ?_ (by simp) _ | refine below_drewN ?_ _)⟩
    | true =>
      have hf : Hid (objF s = ((cutF s 58).1, (cutF s 58).2.1, true)) := Lib.hid (by unfold objF; rw [hn, hi]; rfl)
      go_enter Tryz.func57, Tryz.ntmps57
      go_wp2_with (first | (go_at_call 77; refine (Cut_calls s 58 _ hs).mono ?_; rintro e w' ⟨rfl, n, rfl⟩) | (go_at_call 20; refine (Name_calls _ _ (by omega)).mono ?_; rintro e w' ⟨rfl, rfl⟩) | (go_at_call 40; refine (ID_calls _ _ (by omega)).mono ?_; rintro e w' ⟨rfl, rfl⟩))
      exact bodyPost_ret (v := vObj ((cutF s 58).1, (cutF s 58).2.1, true)) (by simp [results, Tryz.results57, go_sem]) rfl ⟨by rw [hf.out], by repeat (first | exact Below.refl _ _ | (with_reducible assumption) | refine Below.setCell ?_ (by simp) _ | refine Below.alloc ?_ (by simp) _ | refine below_drewN ?_ _)⟩
theorem cutF_none {s : ByteArray} {c : UInt8} (h : (cutF s c).2.2 = false) : (cutF s c).2.1 = ⟨#[]⟩ := by
  revert h; unfold cutF; split <;> simp

set_option maxHeartbeats 1000000 in
theorem refObject_calls (s : ByteArray) (w : World) (hs : s.size ≤ 9223372036854775807) :
    Calls Tryz.prog 34 #[.string s] w fun e w' => e = .returned (vObj (objF s)) ∧ Below w.heap.size w w' := by
  have hz := cutF_size s 58
  cases hc : (cutF s 58).2.2 with
  | false =>
    have hf : Hid (objF s = (eps, eps, false)) := Lib.hid (by
      have : idB (cutF s 58).2.1 = false := by rw [cutF_none hc]; decide
      unfold objF; rw [this, Bool.and_false]; rfl)
    go_enter Tryz.func34, Tryz.ntmps34
    go_wp2_with (first | (go_at_call 60; refine (refCut_calls s 58 _ hs).mono ?_; rintro e w' ⟨rfl, n, rfl⟩) | (go_at_call 23; refine (refName_calls _ _ (by omega)).mono ?_; rintro e w' ⟨rfl, rfl⟩) | (go_at_call 49; refine (refID_calls _ _ (by omega)).mono ?_; rintro e w' ⟨rfl, rfl⟩))
    exact bodyPost_ret (v := vObj (eps, eps, false)) (by simp [results, Tryz.results34, go_sem]) rfl ⟨by rw [hf.out], by repeat (first | exact Below.refl _ _ | (with_reducible assumption) | refine Below.setCell ?_ (by simp) _ | refine Below.alloc ?_ (by simp) _ | refine below_drewN ?_ _)⟩
  | true =>
    cases hn : nameB (cutF s 58).1 with
    | false =>
      have hf : Hid (objF s = (eps, eps, false)) := Lib.hid (by unfold objF; rw [hn]; rfl)
      go_enter Tryz.func34, Tryz.ntmps34
      go_wp2_with (first | (go_at_call 60; refine (refCut_calls s 58 _ hs).mono ?_; rintro e w' ⟨rfl, n, rfl⟩) | (go_at_call 23; refine (refName_calls _ _ (by omega)).mono ?_; rintro e w' ⟨rfl, rfl⟩) | (go_at_call 49; refine (refID_calls _ _ (by omega)).mono ?_; rintro e w' ⟨rfl, rfl⟩))
      exact bodyPost_ret (v := vObj (eps, eps, false)) (by simp [results, Tryz.results34, go_sem]) rfl ⟨by rw [hf.out], by repeat (first | exact Below.refl _ _ | (with_reducible assumption) | refine Below.setCell ?_ (by simp) _ | refine Below.alloc ?_ (by simp) _ | refine below_drewN ?_ _)⟩
    | true =>
    cases hi : idB (cutF s 58).2.1 with
    | false =>
      have hf : Hid (objF s = (eps, eps, false)) := Lib.hid (by unfold objF; rw [hn, hi]; rfl)
      go_enter Tryz.func34, Tryz.ntmps34
      go_wp2_with (first | (go_at_call 60; refine (refCut_calls s 58 _ hs).mono ?_; rintro e w' ⟨rfl, n, rfl⟩) | (go_at_call 23; refine (refName_calls _ _ (by omega)).mono ?_; rintro e w' ⟨rfl, rfl⟩) | (go_at_call 49; refine (refID_calls _ _ (by omega)).mono ?_; rintro e w' ⟨rfl, rfl⟩))
      exact bodyPost_ret (v := vObj (eps, eps, false)) (by simp [results, Tryz.results34, go_sem]) rfl ⟨by rw [hf.out], by repeat (first | exact Below.refl _ _ | (with_reducible assumption) | refine Below.setCell ?_ (by simp) _ | refine Below.alloc ?_ (by simp) _ | refine below_drewN ?_ _)⟩
    | true =>
      have hf : Hid (objF s = ((cutF s 58).1, (cutF s 58).2.1, true)) := Lib.hid (by unfold objF; rw [hn, hi]; rfl)
      go_enter Tryz.func34, Tryz.ntmps34
      go_wp2_with (first | (go_at_call 60; refine (refCut_calls s 58 _ hs).mono ?_; rintro e w' ⟨rfl, n, rfl⟩) | (go_at_call 23; refine (refName_calls _ _ (by omega)).mono ?_; rintro e w' ⟨rfl, rfl⟩) | (go_at_call 49; refine (refID_calls _ _ (by omega)).mono ?_; rintro e w' ⟨rfl, rfl⟩))
      exact bodyPost_ret (v := vObj ((cutF s 58).1, (cutF s 58).2.1, true)) (by simp [results, Tryz.results34, go_sem]) rfl ⟨by rw [hf.out], by repeat (first | exact Below.refl _ _ | (with_reducible assumption) | refine Below.setCell ?_ (by simp) _ | refine Below.alloc ?_ (by simp) _ | refine below_drewN ?_ _)⟩
end Go.Proofs.YthgjhfcafdepcaaGreatDoor.Nm

/-
  The contracts of Subject, of package names and of its reference.
-/
namespace Go.Proofs.YthgjhfcafdepcaaGreatDoor.Nm
set_option maxRecDepth 100000
open Go.RowKit Go.Proofs.YthgjhfcafdepcaaGreatDoor.B Go.Proofs.YthgjhfcafdepcaaGreatDoor.S10
set_option linter.unusedVariables false
set_option linter.unusedSimpArgs false


end Go.Proofs.YthgjhfcafdepcaaGreatDoor.Nm

/-
  The contracts of Tuple, of package names and of its reference.
-/
namespace Go.Proofs.YthgjhfcafdepcaaGreatDoor.Nm
set_option maxRecDepth 100000
open Go.RowKit Go.Proofs.YthgjhfcafdepcaaGreatDoor.B Go.Proofs.YthgjhfcafdepcaaGreatDoor.S10
set_option linter.unusedVariables false
set_option linter.unusedSimpArgs false

abbrev vTup (x : Tup × Bool) : Value := .tuple #[.agg #[.string x.1.t, .string x.1.i, .string x.1.r, .string x.1.st, .string x.1.si, .string x.1.sr], .bool x.2]
theorem tupF_is (s : ByteArray) : tupF s = if ((objF (cutF (cutF s 64).1 35).1).2.2 && ((subF (cutF s 64).2.1).2.2.2 && nameB (cutF (cutF s 64).1 35).2.1)) = true then (⟨(objF (cutF (cutF s 64).1 35).1).1, (objF (cutF (cutF s 64).1 35).1).2.1, (cutF (cutF s 64).1 35).2.1, (subF (cutF s 64).2.1).1, (subF (cutF s 64).2.1).2.1, (subF (cutF s 64).2.1).2.2.1⟩, true) else (noTup, false) := rfl
theorem nameB_eps : nameB ⟨#[]⟩ = false := by decide +kernel
theorem subF_eps : (subF ⟨#[]⟩).2.2.2 = false := by decide +kernel

end Go.Proofs.YthgjhfcafdepcaaGreatDoor.Nm

/-
  The contracts of ShowObject, ShowSubject, ShowTuple, of package names and of its reference.
-/
namespace Go.Proofs.YthgjhfcafdepcaaGreatDoor.Nm
set_option maxRecDepth 100000
open Go.RowKit Go.Proofs.YthgjhfcafdepcaaGreatDoor.B Go.Proofs.YthgjhfcafdepcaaGreatDoor.S10
set_option linter.unusedVariables false
set_option linter.unusedSimpArgs false

theorem showO_is (t i : ByteArray) : showO t i = if (nameB t && idB i) = true then (t ++ ⟨#[58]⟩) ++ i else eps := rfl
theorem showS_is (t i r : ByteArray) : showS t i r = if (showO t i).toList.isEmpty = true then showO t i else if r.toList.isEmpty = true then showO t i else if nameB r = true then ((showO t i) ++ ⟨#[35]⟩) ++ r else eps := rfl
theorem showT_is (x : Tup) : showT x = if (showO x.t x.i).toList.isEmpty = true then eps else if (showS x.st x.si x.sr).toList.isEmpty = true then eps else if nameB x.r = true then (((showO x.t x.i ++ ⟨#[35]⟩) ++ x.r) ++ ⟨#[64]⟩) ++ showS x.st x.si x.sr else eps := rfl
theorem size1 (c : UInt8) : (⟨#[c]⟩ : ByteArray).size = 1 := rfl

set_option maxHeartbeats 2000000 in
theorem ShowObject_calls (t i : ByteArray) (w : World) (ht : t.size ≤ 9223372036854775807) (hi : i.size ≤ 9223372036854775807) :
    Calls Tryz.prog 19 #[.agg #[.string t, .string i]] w fun e w' => e = .returned (.string (showO t i)) ∧ Below w.heap.size w w' := by
  have hf := Lib.hid (showO_is t i)
  cases hn : nameB t <;> cases hd : idB i
  all_goals
    first
      | (have s1 := nameB_size hn; have s2 := idB_size hd
         have s3 : (t ++ (⟨#[58]⟩ : ByteArray)).size + i.size ≤ 9223372036854775807 := (by rw [ByteArray.size_append, size1]; omega)
         have s4 : t.size + 1 ≤ 9223372036854775807 := (by omega))
      | skip
    go_enter Tryz.func19, Tryz.ntmps19
    go_wp2_with (first | (go_at_call 20; refine (Name_calls _ _ (by omega)).mono ?_; rintro e w' ⟨rfl, rfl⟩; rw [hn]) | (go_at_call 40; refine (ID_calls _ _ (by omega)).mono ?_; rintro e w' ⟨rfl, rfl⟩; rw [hd]))
    go_ret
    exact ⟨by rw [hf.out]; simp [hn, hd], by repeat (first | (with_reducible exact Below.refl _ _) | (with_reducible exact HB1) | (with_reducible refine Below.setCell ?_ (by simp) _) | (with_reducible refine Below.alloc ?_ (by simp; try omega) _) | (with_reducible refine below_drewN ?_ _) | (with_reducible refine Below.drew ?_))⟩

set_option maxHeartbeats 2000000 in
theorem refShowObject_calls (t i : ByteArray) (w : World) (ht : t.size ≤ 9223372036854775807) (hi : i.size ≤ 9223372036854775807) :
    Calls Tryz.prog 24 #[.agg #[.string t, .string i]] w fun e w' => e = .returned (.string (showO t i)) ∧ Below w.heap.size w w' := by
  have hf := Lib.hid (showO_is t i)
  cases hn : nameB t <;> cases hd : idB i
  all_goals
    first
      | (have s1 := nameB_size hn; have s2 := idB_size hd
         have s3 : (t ++ (⟨#[58]⟩ : ByteArray)).size + i.size ≤ 9223372036854775807 := (by rw [ByteArray.size_append, size1]; omega)
         have s4 : t.size + 1 ≤ 9223372036854775807 := (by omega))
      | skip
    go_enter Tryz.func24, Tryz.ntmps24
    go_wp2_with (first | (go_at_call 23; refine (refName_calls _ _ (by omega)).mono ?_; rintro e w' ⟨rfl, rfl⟩; rw [hn]) | (go_at_call 49; refine (refID_calls _ _ (by omega)).mono ?_; rintro e w' ⟨rfl, rfl⟩; rw [hd]))
    go_ret
    exact ⟨by rw [hf.out]; simp [hn, hd], by repeat (first | (with_reducible exact Below.refl _ _) | (with_reducible exact HB1) | (with_reducible refine Below.setCell ?_ (by simp) _) | (with_reducible refine Below.alloc ?_ (by simp; try omega) _) | (with_reducible refine below_drewN ?_ _) | (with_reducible refine Below.drew ?_))⟩

end Go.Proofs.YthgjhfcafdepcaaGreatDoor.Nm

/-
  The contracts of the reference's Name, ID and cut, and of strings.Cut at one byte.
-/
import Derived.Test.YtfdhjnbmmckknaaNamesA
namespace Go.Proofs.Ytfdhjnbmmckknaa.Nm
open Go.RowKit Go.Proofs.Ytfdhjnbmmckknaa.B Go.Proofs.Ytfdhjnbmmckknaa.S10
set_option linter.unusedVariables false
set_option linter.unusedSimpArgs false

theorem all_of_size {s : ByteArray} {m : Int} {srt : Int → Bool} (h : onlyB s m srt = true) : 0 < s.size ∧ (s.size : Int) ≤ m ∧ ∀ j : Nat, j < s.size → srt (bt s j) = true := by
  simp only [onlyB, Bool.and_eq_true, decide_eq_true_eq, List.all_eq_true] at h
  refine ⟨h.2.1, h.2.2, fun j hj => ?_⟩
  have := h.1 s[j] (by simp [ByteArray.getElem_eq_getElem_data])
  simpa [bt, hj] using this
theorem nameB_yes {s : ByteArray} (h1 : (s.toList == [116, 121, 112, 101]) = false) (h2 : (s.toList == [114, 101, 108, 97, 116, 105, 111, 110]) = false) (h3 : (s.toList == [100, 101, 102, 105, 110, 101]) = false)
    (p : 0 < s.size) (q : s.size ≤ 16) (k : Nat) (hk : ¬ k < s.size) (h : ∀ j : Nat, j < k → nameC (bt s j) = true) (hz : 0 < k → smallB (bt s 0) = true) : nameB s = true := by
  unfold nameB onlyB
  rw [h1, h2, h3, onlyB_yes hk h, hz (by omega)]
  simp; omega
theorem nameB_no {s : ByteArray} {k : Nat} (hk : k < s.size) (h : (nameC (s[k].toNat : Int) && (decide (0 < k) || smallB (s[k].toNat : Int))) = false) : nameB s = false := by
  rw [Bool.eq_false_iff]; intro H
  simp only [nameB, Bool.and_eq_true] at H
  obtain ⟨_, _, _, H, H0⟩ := H
  have hb : bt s k = (s[k].toNat : Int) := by simp [bt, hk]
  have := (all_of_size H).2.2 k hk
  rw [hb] at this
  rw [this] at h
  simp at h
  obtain ⟨rfl, h⟩ := h
  rw [← hb, H0] at h
  exact absurd h (by simp)
theorem nameB_size_no {s : ByteArray} (h : s.size = 0 ∨ 16 < s.size) : nameB s = false := by
  rw [Bool.eq_false_iff]; intro H
  have := nameB_size H
  omega
theorem idB_size_no {s : ByteArray} (h : s.size = 0 ∨ 24 < s.size) : idB s = false := by
  rw [Bool.eq_false_iff]; intro H
  have := idB_size H
  omega
theorem small_step {s : ByteArray} {k : Nat} (h : 0 < k → smallB (bt s 0) = true) (hk : k < s.size) (hc : k = 0 → smallB (s[k].toNat : Int) = true) : 0 < k + 1 → smallB (bt s 0) = true := by
  intro _
  by_cases e : k = 0
  · subst e; have := hc rfl; simpa [bt, hk] using this
  · exact h (by omega)

theorem cls (c : Int) : (c ≤ 122 ∧ 97 ≤ c ∧ (c == 95) = false) ∨ (c < 97 ∧ 57 < c ∧ (c == 95) = true) ∨ (c < 97 ∧ (57 < c ∧ (c == 95) = false)) ∨ (c < 97 ∧ (c ≤ 57 ∧ (c == 95) = false)) ∨ (122 < c ∧ (57 < c ∧ (c == 95) = false)) := by
  by_cases e : c = 95
  · subst e; simp
  · simp [e]; omega
set_option maxHeartbeats 1000000 in
theorem refName_calls (s : ByteArray) (w : World) (hs : s.size ≤ 9223372036854775807) :
    Calls Try.prog 24 #[.string s] w fun e w' => e = .returned (.bool (nameB s)) ∧ w = w' := by
  by_cases hz : s.size = 0 ∨ 16 < s.size
  · have hz' := Lib.hid (nameB_size_no hz)
    rcases hz with hz | hz
    · have hd : decide ((s.size : Int) = 0) = true := by simp [hz]
      have hd2 : ((s.size : Int) == 0) = true := by simp [hz]
      clear hz
      go_enter Try.func24, Try.ntmps24
      go_wp2
      go_ret
      exact ⟨by rw [hz'.out]; rfl, rfl⟩
    · have hd2 : ((s.size : Int) == 0) = false := beq_eq_false_iff_ne.2 (by omega)
      have hd3 : (16 : Int) < (s.size : Int) := by omega
      go_enter Try.func24, Try.ntmps24
      go_wp2
      go_ret
      exact ⟨by rw [hz'.out]; rfl, rfl⟩
  · have hd2 : ((s.size : Int) == 0) = false := beq_eq_false_iff_ne.2 (by omega)
    have hd3 : ¬ (16 : Int) < (s.size : Int) := by omega
    have hd4 : (s.size : Int) ≤ 16 := by omega
    cases h1 : (s.toList == [116, 121, 112, 101]) with
    | true =>
      go_enter Try.func24, Try.ntmps24
      go_wp2
      go_ret
      exact ⟨by unfold nameB; rw [h1]; rfl, rfl⟩
    | false =>
    cases h2 : (s.toList == [114, 101, 108, 97, 116, 105, 111, 110]) with
    | true =>
      go_enter Try.func24, Try.ntmps24
      go_wp2
      go_ret
      exact ⟨by unfold nameB; rw [h1, h2]; rfl, rfl⟩
    | false =>
    cases h3 : (s.toList == [100, 101, 102, 105, 110, 101]) with
    | true =>
      go_enter Try.func24, Try.ntmps24
      go_wp2
      go_ret
      exact ⟨by unfold nameB; rw [h1, h2, h3]; rfl, rfl⟩
    | false =>
    have hy := Lib.hid (fun k hk h hz' => nameB_yes h1 h2 h3 (by omega) (by omega) k hk h hz')
    go_enter Try.func24, Try.ntmps24
    go_wp2
    go_loop [3] (fun v3 => ∃ k : Nat, k ≤ s.size ∧ v3 = .int .i64 k ∧ Asd ((∀ j : Nat, j < k → nameC (bt s j) = true) ∧ (0 < k → smallB (bt s 0) = true))) (fun v3 => s.size - (intOf v3).toNat)
    case atStart => exact ⟨0, Nat.zero_le _, rfl, ⟨fun j hj => by omega, fun h => by omega⟩⟩
    case round =>
      obtain ⟨k, hk, rfl, ha⟩ := hrel
      by_cases hlt : k < s.size
      · have hbt : bt s k = (s[k].toNat : Int) := by simp [bt, hlt]
        obtain ⟨b0, b1⟩ := bt_range s k
        rw [hbt] at b0 b1
        have HB := Lib.hid hbt; clear hbt
        rcases cls (s[k].toNat : Int) with ⟨c1, c2, c3⟩ | ⟨c1, c2, c3⟩ | ⟨c1, c2, c3⟩ | ⟨c1, c2, c3⟩ | ⟨c1, c2, c3⟩
        all_goals (by_cases hk0 : k = 0)
        all_goals (first | subst hk0 | (have hk1 : ((k : Int) == 0) = false := beq_eq_false_iff_ne.2 (by omega)))
        all_goals (first | (have c4 : decide ((s[k].toNat : Int) ≤ 122) = false := decide_eq_false (by omega)) | (have c4 : decide ((s[0].toNat : Int) ≤ 122) = false := decide_eq_false (by omega)) | skip)
        all_goals go_wp2
        all_goals first
          | (go_ret
             exact ⟨by rw [nameB_no hlt (by simp [nameC, smallB, digitB]; omega)]; rfl, rfl⟩)
          | exact ⟨⟨_, by omega, by go_num, ⟨onlyB_step ha.out.1 (by rw [HB.out]; simp [nameC, smallB, digitB]; omega), small_step ha.out.2 hlt (by intro _; simp [smallB]; omega)⟩⟩, by simp [intOf]; omega⟩
      · go_wp2
        go_ret
        exact ⟨by rw [hy.out k hlt ha.out.1 ha.out.2]; rfl, rfl⟩

theorem idB_yes {s : ByteArray} (p : 0 < s.size) (q : s.size ≤ 24) (k : Nat) (hk : ¬ k < s.size) (h : ∀ j : Nat, j < k → idC (bt s j) = true) : idB s = true := by
  unfold idB onlyB
  rw [onlyB_yes hk h]
  simp; omega
theorem clsI (c : Int) : (c < 97 ∧ c < 65 ∧ c < 48 ∧ (c == 95) = false ∧ ((c == 46) = true ∧ (c == 45) = false ∨ (c == 46) = false ∧ (c == 45) = true ∨ (c == 46) = false ∧ (c == 45) = false)) ∨
    (c < 97 ∧ c < 65 ∧ 48 ≤ c ∧ c ≤ 57) ∨ (c < 97 ∧ c < 65 ∧ 57 < c ∧ (c == 95) = false ∧ (c == 46) = false ∧ (c == 45) = false) ∨ (c < 97 ∧ 65 ≤ c ∧ c ≤ 90) ∨
    (c < 97 ∧ 90 < c ∧ 57 < c ∧ ((c == 95) = true ∨ (c == 95) = false ∧ (c == 46) = false ∧ (c == 45) = false)) ∨ (97 ≤ c ∧ c ≤ 122) ∨ (122 < c ∧ 90 < c ∧ 57 < c ∧ (c == 95) = false ∧ (c == 46) = false ∧ (c == 45) = false) := by
  simp only [beq_iff_eq, beq_eq_false_iff_ne]
  omega
set_option maxHeartbeats 1000000 in
theorem refID_calls (s : ByteArray) (w : World) (hs : s.size ≤ 9223372036854775807) :
    Calls Try.prog 26 #[.string s] w fun e w' => e = .returned (.bool (idB s)) ∧ w = w' := by
  by_cases hz : s.size = 0 ∨ 24 < s.size
  · have hz' := Lib.hid (idB_size_no hz)
    rcases hz with hz | hz
    · have hd : decide ((s.size : Int) = 0) = true := by simp [hz]
      have hd2 : ((s.size : Int) == 0) = true := by simp [hz]
      clear hz
      go_enter Try.func26, Try.ntmps26
      go_wp2
      go_ret
      exact ⟨by rw [hz'.out]; rfl, rfl⟩
    · have hd2 : ((s.size : Int) == 0) = false := beq_eq_false_iff_ne.2 (by omega)
      have hd3 : (24 : Int) < (s.size : Int) := by omega
      go_enter Try.func26, Try.ntmps26
      go_wp2
      go_ret
      exact ⟨by rw [hz'.out]; rfl, rfl⟩
  · have hd2 : ((s.size : Int) == 0) = false := beq_eq_false_iff_ne.2 (by omega)
    have hd3 : ¬ (24 : Int) < (s.size : Int) := by omega
    have hd4 : (s.size : Int) ≤ 24 := by omega
    have hy := Lib.hid (fun k hk h => idB_yes (s := s) (by omega) (by omega) k hk h)
    go_enter Try.func26, Try.ntmps26
    go_wp2
    go_loop [3] (fun v3 => ∃ k : Nat, k ≤ s.size ∧ v3 = .int .i64 k ∧ Asd (∀ j : Nat, j < k → idC (bt s j) = true)) (fun v3 => s.size - (intOf v3).toNat)
    case atStart => exact ⟨0, Nat.zero_le _, rfl, ⟨fun j hj => by omega⟩⟩
    case round =>
      obtain ⟨k, hk, rfl, ha⟩ := hrel
      by_cases hlt : k < s.size
      · have hbt : bt s k = (s[k].toNat : Int) := by simp [bt, hlt]
        obtain ⟨b0, b1⟩ := bt_range s k
        rw [hbt] at b0 b1
        have HB := Lib.hid hbt; clear hbt
        have hno : idC (s[k].toNat : Int) = false → idB s = false := fun h => onlyB_no' hlt h
        have hno' := Lib.hid hno; clear hno
        rcases clsI (s[k].toNat : Int) with ⟨c1, c2, c3, c5, ⟨c6, c7⟩ | ⟨c6, c7⟩ | ⟨c6, c7⟩⟩ | ⟨c1, c2, c3, c5⟩ | ⟨c1, c2, c3, c5, c6, c7⟩ | ⟨c1, c2, c3⟩ | ⟨c1, c2, c3, c5 | ⟨c5, c6, c7⟩⟩ | ⟨c1, c2⟩ | ⟨c1, c2, c3, c5, c6, c7⟩
        all_goals (first | (have d1 : decide ((s[k].toNat : Int) ≤ 122) = false := decide_eq_false (by omega)) | skip)
        all_goals (first | (have d2 : decide ((s[k].toNat : Int) ≤ 90) = false := decide_eq_false (by omega)) | skip)
        all_goals (first | (have d3 : decide ((s[k].toNat : Int) ≤ 57) = false := decide_eq_false (by omega)) | skip)
        all_goals go_wp2
        all_goals first
          | (go_ret
             exact ⟨by rw [hno'.out (by simp [idC, smallB, greatB, digitB] at *; omega)]; rfl, rfl⟩)
          | exact ⟨⟨_, by omega, by go_num, ⟨onlyB_step ha.out (by rw [HB.out]; simp [idC, smallB, greatB, digitB] at *; omega)⟩⟩, by simp [intOf]; omega⟩
          | trace_state
      · go_wp2
        go_ret
        exact ⟨by rw [hy.out k hlt ha.out]; rfl, rfl⟩

theorem bt_get (s : ByteArray) (k : Nat) (hk : k < s.size) : bt s k = (s.data.toList[k]'(by simpa using hk)).toNat := by
  simp [bt, hk, ByteArray.getElem_eq_getElem_data]
theorem bt_eq {s : ByteArray} {c : UInt8} {k : Nat} (hk : k < s.size) : (bt s k == (c.toNat : Int)) = (s.data.toList[k]'(by simpa using hk) == c) := by
  rw [bt_get s k hk, Bool.eq_iff_iff, beq_iff_eq, beq_iff_eq]
  rw [← UInt8.toNat_inj]; omega
theorem index_first {l : List UInt8} {c : UInt8} {k : Nat} (h : l[k]? = some c) (ha : ∀ j : Nat, j < k → l[j]? ≠ some c) : Lib.indexByte l c = k := by
  have h1 : 0 ≤ Lib.indexByte l c := by
    have := Lib.indexByte_ge l c
    by_cases e : Lib.indexByte l c = -1
    · exact absurd h (Lib.indexByte_none e k)
    · omega
  obtain ⟨o, ho⟩ : ∃ o : Nat, Lib.indexByte l c = o := ⟨(Lib.indexByte l c).toNat, by omega⟩
  have h2 := Lib.indexByte_some ho
  rcases Nat.lt_trichotomy k o with h3 | h3 | h3
  · exact absurd h (h2.2 k h3)
  · rw [ho, h3]
  · exact absurd h2.1 (ha o h3)
theorem index_none {l : List UInt8} {c : UInt8} (ha : ∀ j : Nat, l[j]? ≠ some c) : Lib.indexByte l c = -1 := by
  have := Lib.indexByte_ge l c
  by_cases e : Lib.indexByte l c = -1
  · exact e
  · obtain ⟨o, ho⟩ : ∃ o : Nat, Lib.indexByte l c = o := ⟨(Lib.indexByte l c).toNat, by omega⟩
    exact absurd (Lib.indexByte_some ho).1 (ha o)
theorem bt_ne {s : ByteArray} {c : UInt8} {j : Nat} (hj : j < s.size) (h : (bt s j == (c.toNat : Int)) = false) : s.data.toList[j]? ≠ some c := by
  rw [bt_eq hj] at h
  rw [List.getElem?_eq_getElem (by simpa using hj)]
  simpa using h
theorem cutF_hit {s : ByteArray} {c : UInt8} {k : Nat} (hk : k < s.size) (h : (bt s k == (c.toNat : Int)) = true) (ha : ∀ j : Nat, j < k → (bt s j == (c.toNat : Int)) = false) : cutF s c = (s.extract 0 k, s.extract (k + 1) s.size, true) := by
  have e : Lib.indexByte s.data.toList c = k := index_first (by
    rw [bt_eq hk] at h
    rw [List.getElem?_eq_getElem (by simpa using hk)]
    simpa using h) (fun j hj => bt_ne (by omega) (ha j hj))
  unfold cutF
  rw [e, if_pos (by omega)]; rfl
theorem cutF_miss {s : ByteArray} {c : UInt8} {k : Nat} (hk : ¬ k < s.size) (ha : ∀ j : Nat, j < k → (bt s j == (c.toNat : Int)) = false) : cutF s c = (s, ⟨#[]⟩, false) := by
  have e : Lib.indexByte s.data.toList c = -1 := index_none (fun j => by
    by_cases hj : j < s.size
    · exact bt_ne hj (ha j (by omega))
    · rw [List.getElem?_eq_none (by simpa using hj)]; simp)
  unfold cutF
  rw [e, if_neg (by omega)]
theorem cut_step {s : ByteArray} {c : UInt8} {k : Nat} (ha : ∀ j : Nat, j < k → (bt s j == (c.toNat : Int)) = false) (h : (bt s k == (c.toNat : Int)) = false) : ∀ j : Nat, j < k + 1 → (bt s j == (c.toNat : Int)) = false := by
  intro j hj
  by_cases e : j = k
  · subst e; exact h
  · exact ha j (by omega)
set_option maxHeartbeats 1000000 in
theorem refCut_calls (s : ByteArray) (c : UInt8) (w : World) (hs : s.size ≤ 9223372036854775807) :
    Calls Try.prog 51 #[.string s, .int .u8 (c.toNat : Int)] w fun e w' => e = .returned (.tuple #[.string (cutF s c).1, .string (cutF s c).2.1, .bool (cutF s c).2.2]) ∧ ∃ n, w' = w.drewN n := by
  go_enter Try.func51, Try.ntmps51
  go_wp2
  go_loop [7] (fun v7 => ∃ k : Nat, k ≤ s.size ∧ v7 = .int .i64 k ∧ Asd (∀ j : Nat, j < k → (bt s j == (c.toNat : Int)) = false)) (fun v7 => s.size - (intOf v7).toNat)
  case atStart => exact ⟨0, Nat.zero_le _, rfl, ⟨fun j hj => by omega⟩⟩
  case round =>
    obtain ⟨k, hk, rfl, ha⟩ := hrel
    by_cases hlt : k < s.size
    · have hbt : bt s k = (s[k].toNat : Int) := by simp [bt, hlt]
      obtain ⟨b0, b1⟩ := bt_range s k
      rw [hbt] at b0 b1
      have HB := Lib.hid hbt; clear hbt
      cases hc : ((s[k].toNat : Int) == (c.toNat : Int)) with
      | true =>
        have hf := Lib.hid (cutF_hit hlt (by rw [HB.out]; exact hc) ha.out)
        have hle : (k : Int) ≤ (s.size : Int) := by omega
        have hle1 : (k : Int) + 1 ≤ (s.size : Int) := by omega
        have h0 : (0 : Int) ≤ (k : Int) := by omega
        go_wp2
        go_quiet (fail)
        go_wp2
        go_ret3
        exact ⟨by rw [hf.out]; rfl, _, rfl⟩
      | false =>
        go_wp2
        go_round
        case rel => exact ⟨k + 1, by omega, by go_num, ⟨cut_step ha.out (by rw [HB.out]; exact hc)⟩⟩
        case measure => simp [intOf]; omega
    · have hf := Lib.hid (cutF_miss hlt ha.out)
      go_wp2
      go_ret3
      exact ⟨by rw [hf.out]; rfl, 0, rfl⟩

set_option maxHeartbeats 1000000 in
theorem slCut_calls (s : ByteArray) (c : UInt8) (w : World) (hs : s.size ≤ 9223372036854775807) :
    Calls Try.prog 56 #[.string s, .string ⟨#[c]⟩] w fun e w' => e = .returned (.tuple #[.string (cutF s c).1, .string (cutF s c).2.1, .bool (cutF s c).2.2]) ∧ ∃ n, w' = w.drewN n := by
  have hlen : ((⟨#[c]⟩ : ByteArray).size : Int) = 1 := rfl
  by_cases h : 0 ≤ Lib.indexByte s.data.toList c
  · have hl := index_lt _ _ h
    obtain ⟨k, hk⟩ : ∃ k : Nat, Lib.indexByte s.data.toList c = k := ⟨(Lib.indexByte s.data.toList c).toNat, by omega⟩
    have hlt : k < s.size := by rw [hk] at hl; simpa using hl
    have hf : Hid (cutF s c = (s.extract 0 k, s.extract (k + 1) s.size, true)) := Lib.hid (by unfold cutF; rw [hk, if_pos (by omega)]; rfl)
    have HK := Lib.hid hk; clear hk hl h
    have h0 : (0 : Int) ≤ (k : Int) := by omega
    have hle : (k : Int) ≤ (s.size : Int) := by omega
    have hle1 : (k : Int) + 1 ≤ (s.size : Int) := by omega
    go_enter Try.func56, Try.ntmps56
    go_wp2_with (go_at_call 59; refine (Try.stringslite_Index_one s c _).mono ?_; rintro e w' ⟨rfl, rfl⟩; rw [HK.out])
    go_quiet (fail)
    go_wp2
    go_ret3
    exact ⟨by rw [hf.out]; rfl, _, rfl⟩
  · have hf : Hid (cutF s c = (s, ⟨#[]⟩, false)) := Lib.hid (by unfold cutF; rw [if_neg h])
    have hk : Lib.indexByte s.data.toList c = -1 := by have := Lib.indexByte_ge s.data.toList c; omega
    have HK := Lib.hid hk; clear hk h
    go_enter Try.func56, Try.ntmps56
    go_wp2_with (go_at_call 59; refine (Try.stringslite_Index_one s c _).mono ?_; rintro e w' ⟨rfl, rfl⟩; rw [HK.out])
    go_ret3
    exact ⟨by rw [hf.out]; rfl, 0, rfl⟩
set_option maxHeartbeats 1000000 in
theorem Cut_calls (s : ByteArray) (c : UInt8) (w : World) (hs : s.size ≤ 9223372036854775807) :
    Calls Try.prog 50 #[.string s, .string ⟨#[c]⟩] w fun e w' => e = .returned (.tuple #[.string (cutF s c).1, .string (cutF s c).2.1, .bool (cutF s c).2.2]) ∧ ∃ n, w' = w.drewN n := by
  go_enter Try.func50, Try.ntmps50
  go_wp2_with (go_at_call 56; refine (slCut_calls s c _ hs).mono ?_; rintro e w' ⟨rfl, n, rfl⟩)
  go_ret3
  exact ⟨rfl, n, rfl⟩
end Go.Proofs.Ytfdhjnbmmckknaa.Nm

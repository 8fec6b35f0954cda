/-
  The document's tokens: word, sign.
-/
import Derived.Test.YtgmlcnikphbiiaaDoorLangT
namespace Go.Proofs.YtgmlcnikphbiiaaDoor.L
open Go.RowKit Go.Proofs.YtgmlcnikphbiiaaDoor.B
open Go.Proofs.YtgmlcnikphbiiaaDoor.C (QRow Turn wpList_append_q)
set_option linter.unusedVariables false
set_option linter.unusedSimpArgs false

theorem getC (l : Bs) (k : Nat) (h : k < l.length) : l.drop k = l[k] :: l.drop (k + 1) := List.drop_eq_getElem_cons h
/-- the class of a byte. -/
theorem wcls (c : Int) : (97 ≤ c ∧ c ≤ 122) ∨ (97 ≤ c ∧ 122 < c ∧ (c == 95) = false ∧ 48 ≤ c ∧ 57 < c) ∨ (c < 97 ∧ (c == 95) = true) ∨ (c < 97 ∧ (c == 95) = false ∧ 48 ≤ c ∧ c ≤ 57) ∨ (c < 97 ∧ (c == 95) = false ∧ 48 ≤ c ∧ 57 < c) ∨ (c < 97 ∧ (c == 95) = false ∧ c < 48) := by
  by_cases e : c = 95
  · subst e; simp
  · simp [e]; omega
def WI (L : Bs) (k : Nat) : Prop := wordN L = k + (if k = 0 then wordN L else ((L.drop k).takeWhile wc).length)
theorem bdrop (s : ByteArray) (k : Nat) (h : k < s.size) : s.data.toList.drop k = s[k] :: s.data.toList.drop (k + 1) := by
  have h' : k < s.data.toList.length := by rw [Array.length_toList]; exact h
  rw [List.drop_eq_getElem_cons h']
  rfl
theorem WI.stop {s : ByteArray} {k : Nat} (h : WI s.data.toList k) (hk : k < s.size) (h0 : k = 0 → lowC s[k] = false) (h1 : k ≠ 0 → wc s[k] = false) : wordN s.data.toList = k := by
  have hd := bdrop s k hk
  by_cases e : k = 0
  · subst e
    have : s.data.toList = s[0] :: s.data.toList.drop 1 := by simpa using hd
    rw [this, wordN_cons, h0 rfl]; rfl
  · unfold WI at h
    rw [if_neg e, hd, List.takeWhile_cons, h1 e] at h
    simpa using h
theorem WI.step {s : ByteArray} {k : Nat} (h : WI s.data.toList k) (hk : k < s.size) (h0 : k = 0 → lowC s[k] = true) (h1 : wc s[k] = true) : WI s.data.toList (k + 1) := by
  have hd := bdrop s k hk
  unfold WI
  rw [if_neg (by omega)]
  by_cases e : k = 0
  · subst e
    have hl : s.data.toList = s[0] :: s.data.toList.drop 1 := by simpa using hd
    have : wordN s.data.toList = ((s[0] :: s.data.toList.drop 1).takeWhile wc).length := by
      conv => lhs; rw [hl]
      rw [wordN_cons, h0 rfl]; rfl
    rw [this, List.takeWhile_cons, h1]
    simp; omega
  · unfold WI at h
    rw [if_neg e, hd, List.takeWhile_cons, h1] at h
    simp at h
    omega
theorem WI.last {s : ByteArray} {k : Nat} (h : WI s.data.toList k) (hk : ¬ k < s.size) (hk2 : k ≤ s.size) : wordN s.data.toList = k := by
  by_cases e : k = 0
  · subst e
    have : s.data.toList = [] := List.eq_nil_of_length_eq_zero (by rw [Array.length_toList]; show s.size = 0; omega)
    rw [this]; rfl
  · unfold WI at h
    rw [if_neg e, List.drop_of_length_le (by rw [Array.length_toList]; show s.size ≤ k; omega)] at h
    simpa using h
theorem low_of (c : UInt8) (h : (97 : Int) ≤ (c.toNat : Int) ∧ (c.toNat : Int) ≤ 122) : lowC c = true ∧ wc c = true := by
  have : lowC c = true := by unfold lowC; simp; omega
  exact ⟨this, wc_low this⟩
theorem low_no (c : UInt8) (h : (c.toNat : Int) < 97 ∨ 122 < (c.toNat : Int)) : lowC c = false := by unfold lowC; simp; omega
theorem wc_yes (c : UInt8) (h : (c.toNat : Int) = 95 ∨ (48 ≤ (c.toNat : Int) ∧ (c.toNat : Int) ≤ 57)) : wc c = true := by unfold wc; simp; omega
theorem wc_no (c : UInt8) (h : ¬ (97 ≤ (c.toNat : Int) ∧ (c.toNat : Int) ≤ 122) ∧ (c.toNat : Int) ≠ 95 ∧ ¬ (48 ≤ (c.toNat : Int) ∧ (c.toNat : Int) ≤ 57)) : wc c = false := by unfold wc; simp; omega
set_option maxRecDepth 100000 in
set_option maxHeartbeats 2000000 in
theorem rword_calls (s : ByteArray) (hs : s.size ≤ 5000) (w : World) : Calls Tryd.prog 52 #[.string s] w fun e w' => e = .returned (.int .i64 (wordN s.data.toList)) ∧ w' = w := by
  go_enter Tryd.func52, Tryd.ntmps52
  go_wp2
  go_loop [3] (fun v3 => ∃ k : Nat, k ≤ s.size ∧ v3 = .int .i64 k ∧ Asd (WI s.data.toList k)) (fun v3 => s.size - (intOf v3).toNat)
  case atStart => exact ⟨0, Nat.zero_le _, rfl, ⟨by unfold WI; simp⟩⟩
  case round =>
    obtain ⟨k, hk, rfl, ha⟩ := hrel
    by_cases hlt : k < s.size
    · have hb0 : (0 : Int) ≤ (s[k].toNat : Int) := by omega
      have hb1 : (s[k].toNat : Int) ≤ 255 := by have := s[k].toNat_lt; omega
      have HST := Lib.hid (fun h0 h1 => ha.out.stop hlt h0 h1)
      have HSP := Lib.hid (fun h0 h1 => ha.out.step hlt h0 h1)
      have HL := Lib.hid (low_of s[k])
      have HN := Lib.hid (low_no s[k])
      have HY := Lib.hid (wc_yes s[k])
      have HW := Lib.hid (wc_no s[k])
      rcases wcls (s[k].toNat : Int) with ⟨c1, c2⟩ | ⟨c1, c2, c3, c4, c5⟩ | ⟨c1, c2⟩ | ⟨c1, c2, c3, c4⟩ | ⟨c1, c2, c3, c4⟩ | ⟨c1, c2, c3⟩
      all_goals (by_cases hk0 : k = 0)
      all_goals (first | subst hk0 | (have hk1 : ((k : Int) == 0) = false := beq_eq_false_iff_ne.2 (by omega)))
      all_goals (first | (have c6 : decide ((s[k].toNat : Int) ≤ 122) = false := decide_eq_false (by omega)) | (have c6 : decide ((s[0].toNat : Int) ≤ 122) = false := decide_eq_false (by omega)) | skip)
      all_goals (first | (have c7 : decide ((s[k].toNat : Int) ≤ 57) = false := decide_eq_false (by omega)) | (have c7 : decide ((s[0].toNat : Int) ≤ 57) = false := decide_eq_false (by omega)) | skip)
      all_goals go_wp2
      all_goals first
        | (go_ret
           exact ⟨by rw [HST.out (fun e => by first | exact HN.out (by omega) | omega) (fun e => by first | exact HW.out ⟨by omega, by (first | omega | (intro e2; simp [e2] at c3; done) | (intro e2; simp [e2] at c2; done)), by omega⟩ | omega)]; rfl, rfl⟩)
        | exact ⟨⟨k + 1, by omega, by go_num, ⟨HSP.out (fun e => by first | exact (HL.out ⟨by omega, by omega⟩).1 | omega) (by first | exact (HL.out ⟨by omega, by omega⟩).2 | exact HY.out (.inr ⟨by omega, by omega⟩) | exact HY.out (.inl (by simpa using c2)))⟩⟩, by simp [intOf]; omega⟩
        | exact ⟨⟨1, by omega, by go_num, ⟨HSP.out (fun e => (HL.out ⟨by omega, by omega⟩).1) (HL.out ⟨by omega, by omega⟩).2⟩⟩, by simp [intOf]; omega⟩
    · have HE := Lib.hid (ha.out.last hlt hk)
      go_wp2
      go_ret
      exact ⟨by rw [HE.out]; rfl, rfl⟩
end Go.Proofs.YtgmlcnikphbiiaaDoor.L

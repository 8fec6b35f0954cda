/-
  JSON, plain: characters: how many bytes each has, what is written is read again.
-/
import Derived.Lib.MapLaws
import Derived.Lib.TrimUEq
import Derived.Test.YtminegmjklehnaaGreatDoorJsonS
namespace Go.Proofs.YtminegmjklehnaaGreatDoor.J
set_option linter.unusedVariables false
set_option linter.unusedSimpArgs false

def ch2 (n b0 b1 : Nat) : Prop := b0 / 32 = 6 ∧ 1 < n ∧ b1 / 64 = 2 ∧ 128 ≤ b0 % 32 * 64 + b1 % 64
def ch3 (n b0 b1 b2 : Nat) : Prop := b0 / 16 = 14 ∧ 2 < n ∧ b1 / 64 = 2 ∧ b2 / 64 = 2 ∧ 2048 ≤ b0 % 16 * 4096 + b1 % 64 * 64 + b2 % 64 ∧ (b0 % 16 * 4096 + b1 % 64 * 64 + b2 % 64 < 55296 ∨ 57344 ≤ b0 % 16 * 4096 + b1 % 64 * 64 + b2 % 64)
def ch4 (n b0 b1 b2 b3 : Nat) : Prop := b0 / 8 = 30 ∧ 3 < n ∧ b1 / 64 = 2 ∧ b2 / 64 = 2 ∧ b3 / 64 = 2 ∧ 65536 ≤ b0 % 8 * 262144 + b1 % 64 * 4096 + b2 % 64 * 64 + b3 % 64 ∧ b0 % 8 * 262144 + b1 % 64 * 4096 + b2 % 64 * 64 + b3 % 64 ≤ 1114111
instance (n b0 b1 : Nat) : Decidable (ch2 n b0 b1) := by unfold ch2; infer_instance
instance (n b0 b1 b2 : Nat) : Decidable (ch3 n b0 b1 b2) := by unfold ch3; infer_instance
instance (n b0 b1 b2 b3 : Nat) : Decidable (ch4 n b0 b1 b2 b3) := by unfold ch4; infer_instance
def ch (n b0 b1 b2 b3 : Nat) : Nat := if b0 < 128 then 1 else if ch2 n b0 b1 then 2 else if ch3 n b0 b1 b2 then 3 else if ch4 n b0 b1 b2 b3 then 4 else 0
set_option maxHeartbeats 2000000 in
theorem decode_ch (n b0 b1 b2 b3 : Nat) (h1 : b1 < 256) (h2 : b2 < 256) (h3 : b3 < 256) : (if (Lib.decodeN n b0 b1 b2 b3).1 = 65533 ∧ (Lib.decodeN n b0 b1 b2 b3).2 = 1 then 0 else (Lib.decodeN n b0 b1 b2 b3).2) = ch n b0 b1 b2 b3 := by
  have ok : ∀ (d : Nat × Nat) (c k : Nat), d = (c, k) → (c = 65533 ∧ k = 1) = False → (if d.1 = 65533 ∧ d.2 = 1 then 0 else d.2) = k := by
    intro d c k hd hc
    subst hd
    exact if_neg (fun h => hc ▸ h)
  have bad : ∀ (d : Nat × Nat), d = (65533, 1) → (if d.1 = 65533 ∧ d.2 = 1 then 0 else d.2) = 0 := by
    intro d hd
    subst hd
    rfl
  unfold ch
  by_cases c1 : b0 < 128
  · rw [if_pos c1]
    exact ok _ b0 1 (by unfold Lib.decodeN; rw [if_pos c1]) (by simp; omega)
  rw [if_neg c1]
  by_cases c2 : b0 / 32 = 6 ∧ (1 < n ∧ b1 / 64 = 2)
  · by_cases d2 : b0 % 32 * 64 + b1 % 64 ≥ 128
    · have e : ch2 n b0 b1 := by unfold ch2; omega
      rw [if_pos e]
      exact ok _ (b0 % 32 * 64 + b1 % 64) 2 (by unfold Lib.decodeN; rw [if_neg c1, if_pos c2, if_pos d2]) (by simp)
    · have e2 : ¬ ch2 n b0 b1 := by unfold ch2; omega
      have e3 : ¬ ch3 n b0 b1 b2 := by unfold ch3; omega
      have e4 : ¬ ch4 n b0 b1 b2 b3 := by unfold ch4; omega
      rw [if_neg e2, if_neg e3, if_neg e4]
      exact bad _ (by unfold Lib.decodeN; rw [if_neg c1, if_pos c2, if_neg d2])
  have e2 : ¬ ch2 n b0 b1 := by unfold ch2; omega
  rw [if_neg e2]
  by_cases c3 : b0 / 16 = 14 ∧ (1 < n ∧ b1 / 64 = 2) ∧ (2 < n ∧ b2 / 64 = 2)
  · by_cases d3 : b0 % 16 * 4096 + b1 % 64 * 64 + b2 % 64 ≥ 2048 ∧ (b0 % 16 * 4096 + b1 % 64 * 64 + b2 % 64 < 55296 ∨ (57344 ≤ b0 % 16 * 4096 + b1 % 64 * 64 + b2 % 64 ∧ b0 % 16 * 4096 + b1 % 64 * 64 + b2 % 64 ≤ 1114111))
    · have e : ch3 n b0 b1 b2 := by unfold ch3; omega
      rw [if_pos e]
      exact ok _ (b0 % 16 * 4096 + b1 % 64 * 64 + b2 % 64) 3 (by unfold Lib.decodeN; rw [if_neg c1, if_neg c2, if_pos c3, if_pos d3]) (by simp)
    · have e3 : ¬ ch3 n b0 b1 b2 := by unfold ch3; omega
      have e4 : ¬ ch4 n b0 b1 b2 b3 := by unfold ch4; omega
      rw [if_neg e3, if_neg e4]
      exact bad _ (by unfold Lib.decodeN; rw [if_neg c1, if_neg c2, if_pos c3, if_neg d3])
  have e3 : ¬ ch3 n b0 b1 b2 := by unfold ch3; omega
  rw [if_neg e3]
  by_cases c4 : b0 / 8 = 30 ∧ (1 < n ∧ b1 / 64 = 2) ∧ (2 < n ∧ b2 / 64 = 2) ∧ (3 < n ∧ b3 / 64 = 2)
  · by_cases d4 : b0 % 8 * 262144 + b1 % 64 * 4096 + b2 % 64 * 64 + b3 % 64 ≥ 65536 ∧ (b0 % 8 * 262144 + b1 % 64 * 4096 + b2 % 64 * 64 + b3 % 64 < 55296 ∨ (57344 ≤ b0 % 8 * 262144 + b1 % 64 * 4096 + b2 % 64 * 64 + b3 % 64 ∧ b0 % 8 * 262144 + b1 % 64 * 4096 + b2 % 64 * 64 + b3 % 64 ≤ 1114111))
    · have e : ch4 n b0 b1 b2 b3 := by unfold ch4; omega
      rw [if_pos e]
      exact ok _ (b0 % 8 * 262144 + b1 % 64 * 4096 + b2 % 64 * 64 + b3 % 64) 4 (by unfold Lib.decodeN; rw [if_neg c1, if_neg c2, if_neg c3, if_pos c4, if_pos d4]) (by simp)
    · have e4 : ¬ ch4 n b0 b1 b2 b3 := by unfold ch4; omega
      rw [if_neg e4]
      exact bad _ (by unfold Lib.decodeN; rw [if_neg c1, if_neg c2, if_neg c3, if_pos c4, if_neg d4])
  have e4 : ¬ ch4 n b0 b1 b2 b3 := by unfold ch4; omega
  rw [if_neg e4]
  exact bad _ (by unfold Lib.decodeN; rw [if_neg c1, if_neg c2, if_neg c3, if_neg c4])
abbrev bN (l : Bs) (i : Nat) : Nat := (l.getD i 0).toNat
theorem bN_lt (l : Bs) (i : Nat) : bN l i < 256 := (l.getD i 0).toNat_lt
theorem charN_eq (l : Bs) (h : l ≠ []) : charN l = ch l.length (bN l 0) (bN l 1) (bN l 2) (bN l 3) := by
  unfold charN
  rw [if_neg (by simpa using h), Lib.decodeL_N]
  exact decode_ch _ _ _ _ _ (bN_lt l 1) (bN_lt l 2) (bN_lt l 3)
theorem ch_le {n b0 b1 b2 b3 : Nat} (hn : 1 ≤ n) : ch n b0 b1 b2 b3 ≤ n ∧ ch n b0 b1 b2 b3 ≤ 4 := by
  unfold ch
  split
  · omega
  split
  · rename_i h; unfold ch2 at h; omega
  split
  · rename_i h; unfold ch3 at h; omega
  split
  · rename_i h; unfold ch4 at h; omega
  · omega
theorem charN_le (l : Bs) : charN l ≤ l.length ∧ charN l ≤ 4 := by
  by_cases h : l = []
  · subst h; exact ⟨by decide, by decide⟩
  · rw [charN_eq l h]
    exact ch_le (List.length_pos_iff.2 h)
theorem charN_nil : charN [] = 0 := rfl
theorem charN_cons (c : UInt8) (l : Bs) (h : c.toNat < 128) : charN (c :: l) = 1 := by
  rw [charN_eq _ (by simp)]
  unfold ch
  rw [if_pos (show bN (c :: l) 0 < 128 from h)]
/-- a character is one, whatever stands behind. -/
theorem charN_more (l r : Bs) (h : 0 < charN l) : charN (l.take (charN l) ++ r) = charN l := by
  have hne : l ≠ [] := by rintro rfl; exact absurd h (by decide)
  have hle := charN_le l
  generalize hk : charN l = k at *
  have hne2 : l.take k ++ r ≠ [] := by
    cases l with
    | nil => exact absurd rfl hne
    | cons a t =>
      cases k with
      | zero => omega
      | succ k => simp
  rw [charN_eq _ hne2]
  rw [charN_eq l hne] at hk
  have hlen : (l.take k ++ r).length = k + r.length := by rw [List.length_append, List.length_take]; omega
  have hb : ∀ j, j < k → bN (l.take k ++ r) j = bN l j := by
    intro j hj
    unfold bN
    rw [List.getD_eq_getElem?_getD, List.getD_eq_getElem?_getD, List.getElem?_append_left (by rw [List.length_take]; omega), List.getElem?_take, if_pos hj]
  have b0 := hb 0 h
  rw [hlen, b0]
  unfold ch at hk ⊢
  by_cases c1 : bN l 0 < 128
  · rw [if_pos c1] at hk ⊢
    exact hk
  rw [if_neg c1] at hk ⊢
  by_cases c2 : ch2 l.length (bN l 0) (bN l 1)
  · rw [if_pos c2] at hk
    subst hk
    rw [hb 1 (by omega), if_pos (by unfold ch2 at c2 ⊢; omega)]
  rw [if_neg c2] at hk
  by_cases c3 : ch3 l.length (bN l 0) (bN l 1) (bN l 2)
  · rw [if_pos c3] at hk
    subst hk
    rw [hb 1 (by omega), hb 2 (by omega), if_neg (by unfold ch2; unfold ch3 at c3; omega), if_pos (by unfold ch3 at c3 ⊢; omega)]
  rw [if_neg c3] at hk
  by_cases c4 : ch4 l.length (bN l 0) (bN l 1) (bN l 2) (bN l 3)
  · rw [if_pos c4] at hk
    subst hk
    rw [hb 1 (by omega), hb 2 (by omega), hb 3 (by omega), if_neg (by unfold ch2; unfold ch4 at c4; omega), if_neg (by unfold ch3; unfold ch4 at c4; omega), if_pos (by unfold ch4 at c4 ⊢; omega)]
  rw [if_neg c4] at hk
  omega
/-- bytes that are a character. -/
def IsCh (m : Bs) : Prop := m ≠ [] ∧ charN m = m.length
theorem IsCh.more {m : Bs} (h : IsCh m) (r : Bs) : charN (m ++ r) = m.length := by
  have hp : 0 < charN m := by rw [h.2]; exact List.length_pos_iff.2 h.1
  have := charN_more m r hp
  rw [h.2, List.take_length] at this
  exact this
theorem isCh_take {l : Bs} (h : 0 < charN l) : IsCh (l.take (charN l)) := by
  have hle := (charN_le l).1
  have h1 := charN_more l [] h
  rw [List.append_nil] at h1
  have hlen : (l.take (charN l)).length = charN l := by rw [List.length_take]; omega
  refine ⟨fun e => ?_, by rw [h1, hlen]⟩
  rw [e] at hlen
  simp at hlen
  omega
/-- a text of characters. -/
inductive Chs : Bs → Prop where
  | nil : Chs []
  | cons {m t : Bs} (h : IsCh m) (ht : Chs t) : Chs (m ++ t)
theorem Chs.app {a b : Bs} (h : Chs a) (hb : Chs b) : Chs (a ++ b) := by
  induction h with
  | nil => exact hb
  | cons hm _ ih => rw [List.append_assoc]; exact .cons hm ih
theorem Chs.one {m : Bs} (h : IsCh m) : Chs m := by
  have := Chs.cons h .nil
  rwa [List.append_nil] at this
theorem validD_charN (l : Bs) (h : l ≠ []) : Lib.validD l = if charN l = 0 then false else Lib.validD (l.drop (charN l)) := by
  rw [Lib.validD_step l h]
  have hw := Lib.decodeL_width l
  unfold charN
  rw [if_neg (show ¬ l.isEmpty = true by simpa using h)]
  by_cases c : (Lib.decodeL l).1 = 65533 ∧ (Lib.decodeL l).2 = 1
  · rw [if_pos c, if_pos c, if_pos rfl]
  · rw [if_neg c, if_neg c, if_neg (by omega)]
theorem Chs.valid {t : Bs} (h : Chs t) : validT t = true := by
  unfold validT
  induction h with
  | nil => rfl
  | @cons m t hm _ ih =>
    have hp : 0 < m.length := List.length_pos_iff.2 hm.1
    rw [validD_charN _ (by intro e; have := congrArg List.length e; simp at this; exact hm.1 this.1), hm.more t, if_neg (by omega), List.drop_left]
    exact ih
theorem valid_chs : ∀ (n : Nat) (t : Bs), t.length ≤ n → validT t = true → Chs t
  | 0, t, hl, h => by
    obtain rfl : t = [] := List.eq_nil_of_length_eq_zero (by omega)
    exact .nil
  | n + 1, t, hl, h => by
    by_cases ht : t = []
    · subst ht; exact .nil
    · unfold validT at h
      rw [validD_charN t ht] at h
      split at h
      · cases h
      · rename_i hc
        have hp : 0 < charN t := by omega
        have h1 := valid_chs n (t.drop (charN t)) (by rw [List.length_drop]; omega) h
        have := Chs.cons (isCh_take hp) h1
        rwa [List.take_append_drop] at this
theorem validT_chs {t : Bs} (h : validT t = true) : Chs t := valid_chs _ t (Nat.le_refl _) h
theorem isCh_low {c : UInt8} (h : c.toNat < 128) : IsCh [c] := ⟨by simp, charN_cons c [] h⟩
/-- a character that begins above 127 is of such bytes alone. -/
theorem IsCh.high {m : Bs} (h : IsCh m) (h0 : 128 ≤ bN m 0) : ∀ b ∈ m, 128 ≤ b.toNat := by
  have hk := h.2
  rw [charN_eq m h.1] at hk
  unfold ch at hk
  rw [if_neg (by omega)] at hk
  have key : ∀ j, j < m.length → 128 ≤ bN m j := by
    intro j hj
    split at hk
    · rename_i c; unfold ch2 at c
      have : j = 0 ∨ j = 1 := by omega
      rcases this with rfl | rfl <;> omega
    split at hk
    · rename_i c; unfold ch3 at c
      have : j = 0 ∨ j = 1 ∨ j = 2 := by omega
      rcases this with rfl | rfl | rfl <;> omega
    split at hk
    · rename_i c; unfold ch4 at c
      have : j = 0 ∨ j = 1 ∨ j = 2 ∨ j = 3 := by omega
      rcases this with rfl | rfl | rfl | rfl <;> omega
    · omega
  intro b hb
  obtain ⟨j, hj, rfl⟩ := List.mem_iff_getElem.1 hb
  have := key j hj
  unfold bN at this
  rw [List.getD_eq_getElem?_getD, List.getElem?_eq_getElem hj] at this
  exact this
theorem IsCh.low {m : Bs} (h : IsCh m) (h0 : bN m 0 < 128) : ∃ c, m = [c] ∧ c.toNat < 128 := by
  have hk := h.2
  rw [charN_eq m h.1] at hk
  unfold ch at hk
  rw [if_pos h0] at hk
  match m, hk with
  | [c], _ => exact ⟨c, rfl, h0⟩
theorem ofNat_toNat {n : Nat} (h : n < 256) : (UInt8.ofNat n).toNat = n := by
  rw [UInt8.toNat_ofNat']
  omega
theorem utfB_ch {n : Nat} (h : n < 55296 ∨ 57344 ≤ n) (h2 : n ≤ 1114111) : IsCh (utfB n) := by
  unfold utfB
  by_cases c1 : n < 128
  · rw [if_pos c1]
    exact isCh_low (by rw [ofNat_toNat (by omega)]; exact c1)
  rw [if_neg c1]
  by_cases c2 : n < 2048
  · rw [if_pos c2]
    refine ⟨by simp, ?_⟩
    rw [charN_eq _ (by simp)]
    have e0 : bN [UInt8.ofNat (192 + n / 64), UInt8.ofNat (128 + n % 64)] 0 = 192 + n / 64 := ofNat_toNat (by omega)
    have e1 : bN [UInt8.ofNat (192 + n / 64), UInt8.ofNat (128 + n % 64)] 1 = 128 + n % 64 := ofNat_toNat (by omega)
    rw [e0, e1]
    unfold ch
    rw [if_neg (by omega), if_pos (by unfold ch2; simp; omega)]
    rfl
  rw [if_neg c2]
  by_cases c3 : n < 65536
  · rw [if_pos c3]
    refine ⟨by simp, ?_⟩
    rw [charN_eq _ (by simp)]
    have e0 : bN [UInt8.ofNat (224 + n / 4096), UInt8.ofNat (128 + n / 64 % 64), UInt8.ofNat (128 + n % 64)] 0 = 224 + n / 4096 := ofNat_toNat (by omega)
    have e1 : bN [UInt8.ofNat (224 + n / 4096), UInt8.ofNat (128 + n / 64 % 64), UInt8.ofNat (128 + n % 64)] 1 = 128 + n / 64 % 64 := ofNat_toNat (by omega)
    have e2 : bN [UInt8.ofNat (224 + n / 4096), UInt8.ofNat (128 + n / 64 % 64), UInt8.ofNat (128 + n % 64)] 2 = 128 + n % 64 := ofNat_toNat (by omega)
    rw [e0, e1, e2]
    unfold ch
    rw [if_neg (by omega), if_neg (by unfold ch2; omega), if_pos (by unfold ch3; simp; omega)]
    rfl
  rw [if_neg c3]
  refine ⟨by simp, ?_⟩
  rw [charN_eq _ (by simp)]
  have e0 : bN [UInt8.ofNat (240 + n / 262144), UInt8.ofNat (128 + n / 4096 % 64), UInt8.ofNat (128 + n / 64 % 64), UInt8.ofNat (128 + n % 64)] 0 = 240 + n / 262144 := ofNat_toNat (by omega)
  have e1 : bN [UInt8.ofNat (240 + n / 262144), UInt8.ofNat (128 + n / 4096 % 64), UInt8.ofNat (128 + n / 64 % 64), UInt8.ofNat (128 + n % 64)] 1 = 128 + n / 4096 % 64 := ofNat_toNat (by omega)
  have e2 : bN [UInt8.ofNat (240 + n / 262144), UInt8.ofNat (128 + n / 4096 % 64), UInt8.ofNat (128 + n / 64 % 64), UInt8.ofNat (128 + n % 64)] 2 = 128 + n / 64 % 64 := ofNat_toNat (by omega)
  have e3 : bN [UInt8.ofNat (240 + n / 262144), UInt8.ofNat (128 + n / 4096 % 64), UInt8.ofNat (128 + n / 64 % 64), UInt8.ofNat (128 + n % 64)] 3 = 128 + n % 64 := ofNat_toNat (by omega)
  rw [e0, e1, e2, e3]
  unfold ch
  rw [if_neg (by omega), if_neg (by unfold ch2; omega), if_neg (by unfold ch3; omega), if_pos (by unfold ch4; simp; omega)]
  rfl
end Go.Proofs.YtminegmjklehnaaGreatDoor.J

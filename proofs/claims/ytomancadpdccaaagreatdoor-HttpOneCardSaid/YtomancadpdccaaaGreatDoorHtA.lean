/-
  HTTP: the sorts of bytes; all bytes of a text.
-/
import Derived.Test.YtomancadpdccaaaGreatDoorHtP
import Derived.Test.YtomancadpdccaaaGreatDoorMem
import Derived.Test.YtomancadpdccaaaGreatDoorNumZ
namespace Go.Proofs.YtomancadpdccaaaGreatDoor.Ht
open Go.RowKit Go.Proofs.YtomancadpdccaaaGreatDoor.B
open Go.Proofs.YtomancadpdccaaaGreatDoor.M hiding Bs
open Go.Proofs.YtomancadpdccaaaGreatDoor.C (QRow Turn)
set_option linter.unusedVariables false
set_option linter.unusedSimpArgs false

abbrev ub (c : UInt8) : Value := .int .u8 (c.toNat : Int)
theorem eq_nat (c : UInt8) (k : Nat) (hk : k < 256) : (c == UInt8.ofNat k) = decide (c.toNat = k) := by
  rw [Bool.eq_iff_iff, beq_iff_eq, decide_eq_true_eq]
  constructor
  · rintro rfl
    simp; omega
  · intro h
    rw [← h]; simp
set_option maxRecDepth 100000 in
set_option maxHeartbeats 1000000 in
theorem visible_calls (c : UInt8) (w : World) : Calls Tryz.prog 61 #[ub c] w fun e w' => e = .returned (.bool (vis c)) ∧ w' = w := by
  have HV := Lib.hid (show vis c = (decide (32 < c.toNat) && decide (c.toNat < 127)) from rfl)
  rw [HV.out]
  obtain ⟨x, hx⟩ : ∃ x, c.toNat = x := ⟨_, rfl⟩
  show Calls Tryz.prog 61 #[.int .u8 (c.toNat : Int)] w _
  rw [hx]
  clear HV hx
  by_cases h1 : 32 < x
  · have h1' : (32 : Int) < (x : Int) := by omega
    by_cases h2 : x < 127
    · have h2' : (x : Int) < 127 := by omega
      go_enter Tryz.func61, Tryz.ntmps61
      go_wp2
      go_ret
      exact ⟨by simp [h1, h2], rfl⟩
    · have h2' : ¬ (x : Int) < 127 := by omega
      go_enter Tryz.func61, Tryz.ntmps61
      go_wp2
      go_ret
      exact ⟨by simp [h1, h2], rfl⟩
  · have h1' : ¬ (32 : Int) < (x : Int) := by omega
    go_enter Tryz.func61, Tryz.ntmps61
    go_wp2
    go_ret
    exact ⟨by simp [h1], rfl⟩
set_option maxRecDepth 100000 in
set_option maxHeartbeats 1000000 in
theorem great_calls (c : UInt8) (w : World) : Calls Tryz.prog 59 #[ub c] w fun e w' => e = .returned (.bool (great c)) ∧ w' = w := by
  have HV := Lib.hid (show great c = (decide (65 ≤ c.toNat) && decide (c.toNat ≤ 90)) from rfl)
  rw [HV.out]
  obtain ⟨x, hx⟩ : ∃ x, c.toNat = x := ⟨_, rfl⟩
  show Calls Tryz.prog 59 #[.int .u8 (c.toNat : Int)] w _
  rw [hx]
  clear HV hx
  by_cases h1 : 65 ≤ x
  · have h1' : (65 : Int) ≤ (x : Int) := by omega
    by_cases h2 : x ≤ 90
    · have h2' : (x : Int) ≤ 90 := by omega
      go_enter Tryz.func59, Tryz.ntmps59
      go_wp2
      go_ret
      exact ⟨by simp [h1, h2], rfl⟩
    · have h2' : ¬ (x : Int) ≤ 90 := by omega
      go_enter Tryz.func59, Tryz.ntmps59
      go_wp2
      go_ret
      exact ⟨by simp [h1, h2], rfl⟩
  · have h1' : ¬ (65 : Int) ≤ (x : Int) := by omega
    go_enter Tryz.func59, Tryz.ntmps59
    go_wp2
    go_ret
    exact ⟨by simp [h1], rfl⟩
set_option maxRecDepth 100000 in
set_option maxHeartbeats 2000000 in
theorem named_calls (c : UInt8) (w : World) : Calls Tryz.prog 62 #[ub c] w fun e w' => e = .returned (.bool (named c)) ∧ w' = w := by
  have HG := Lib.hid (fun W => great_calls c W)
  have HV := Lib.hid (show named c = ((decide (97 ≤ c.toNat) && decide (c.toNat ≤ 122)) || great c || (decide (48 ≤ c.toNat) && decide (c.toNat ≤ 57)) || decide (c.toNat = 45)) by
    unfold named
    rw [show (c == 45) = decide (c.toNat = 45) from eq_nat c 45 (by decide)])
  rw [HV.out]
  obtain ⟨g, hg⟩ : ∃ g, great c = g := ⟨_, rfl⟩
  rw [hg] at HG ⊢
  clear HV hg
  have HG2 := Lib.hid (show ∀ W, Calls Tryz.prog 59 #[.int .u8 (c.toNat : Int)] W fun e w' => e = .returned (.bool g) ∧ w' = W from HG.out)
  show Calls Tryz.prog 62 #[.int .u8 (c.toNat : Int)] w _
  obtain ⟨x, hx⟩ : ∃ x, c.toNat = x := ⟨_, rfl⟩
  rw [hx] at HG2 ⊢
  clear HG hx
  have f1 : ((97 : Int) ≤ (x : Int)) = (97 ≤ x) := by rw [eq_iff_iff]; omega
  have f2 : ((x : Int) ≤ 122) = (x ≤ 122) := by rw [eq_iff_iff]; omega
  have f3 : ((48 : Int) ≤ (x : Int)) = (48 ≤ x) := by rw [eq_iff_iff]; omega
  have f4 : ((x : Int) ≤ 57) = (x ≤ 57) := by rw [eq_iff_iff]; omega
  go_enter Tryz.func62, Tryz.ntmps62
  by_cases h1 : 97 ≤ x
  · have h1' : (97 : Int) ≤ (x : Int) := by omega
    by_cases h2 : x ≤ 122
    · have h2' : (x : Int) ≤ 122 := by omega
      go_wp2
      go_ret
      exact ⟨by simp [h1, h2], rfl⟩
    · have h2' : ¬ (x : Int) ≤ 122 := by omega
      have h5 : ¬ x ≤ 57 := by omega
      have h6 : ¬ x = 45 := by omega
      have h5' : ¬ (x : Int) ≤ 57 := by omega
      have h6' : ((x : Int) == 45) = false := by rw [beq_eq_false_iff_ne]; omega
      have h7 : (48 : Int) ≤ (x : Int) := by omega
      go_wp2_with fail
      refine (HG2.out _).mono ?_
      rintro e w' ⟨rfl, rfl⟩
      cases g
      all_goals
        go_wp2
        go_ret
        exact ⟨by simp [h1, h2, h5, h6], rfl⟩
  · have h1' : ¬ (97 : Int) ≤ (x : Int) := by omega
    go_wp2_with fail
    refine (HG2.out _).mono ?_
    rintro e w' ⟨rfl, rfl⟩
    cases g
    · by_cases h3 : 48 ≤ x
      · have h3' : (48 : Int) ≤ (x : Int) := by omega
        by_cases h4 : x ≤ 57
        · have h4' : (x : Int) ≤ 57 := by omega
          go_wp2
          go_ret
          exact ⟨by simp [h3, h4], rfl⟩
        · have h4' : ¬ (x : Int) ≤ 57 := by omega
          have h6 : ¬ x = 45 := by omega
          have h6' : ((x : Int) == 45) = false := by rw [beq_eq_false_iff_ne]; omega
          go_wp2
          go_ret
          exact ⟨by simp [h1, h4, h6], rfl⟩
      · have h3' : ¬ (48 : Int) ≤ (x : Int) := by omega
        by_cases h6 : x = 45
        · subst h6
          go_wp2
          go_ret
          exact ⟨by simp, rfl⟩
        · have h6' : ((x : Int) == 45) = false := by rw [beq_eq_false_iff_ne]; omega
          go_wp2
          go_ret
          exact ⟨by simp [h1, h3, h6], rfl⟩
    · go_wp2
      go_ret
      exact ⟨by simp, rfl⟩
set_option maxRecDepth 100000 in
set_option maxHeartbeats 2000000 in
theorem told_calls (c : UInt8) (w : World) : Calls Tryz.prog 63 #[ub c] w fun e w' => e = .returned (.bool (told c)) ∧ w' = w := by
  have HV := Lib.hid (show told c = (vis c || decide (c.toNat = 32) || decide (c.toNat = 9)) by
    unfold told
    rw [show (c == 32) = decide (c.toNat = 32) from eq_nat c 32 (by decide), show (c == 9) = decide (c.toNat = 9) from eq_nat c 9 (by decide)])
  rw [HV.out]
  have HG := Lib.hid (fun W => visible_calls c W)
  obtain ⟨g, hg⟩ : ∃ g, vis c = g := ⟨_, rfl⟩
  rw [hg] at HG ⊢
  clear HV hg
  have HG2 := Lib.hid (show ∀ W, Calls Tryz.prog 61 #[.int .u8 (c.toNat : Int)] W fun e w' => e = .returned (.bool g) ∧ w' = W from HG.out)
  show Calls Tryz.prog 63 #[.int .u8 (c.toNat : Int)] w _
  obtain ⟨x, hx⟩ : ∃ x, c.toNat = x := ⟨_, rfl⟩
  rw [hx] at HG2 ⊢
  clear HG hx
  go_enter Tryz.func63, Tryz.ntmps63
  go_wp2_with fail
  refine (HG2.out _).mono ?_
  rintro e w' ⟨rfl, rfl⟩
  cases g
  · by_cases h1 : x = 32
    · subst h1
      go_wp2
      go_ret
      exact ⟨by simp, rfl⟩
    · have h1' : ((x : Int) == 32) = false := by rw [beq_eq_false_iff_ne]; omega
      by_cases h2 : x = 9
      · subst h2
        go_wp2
        go_ret
        exact ⟨by simp, rfl⟩
      · have h2' : ((x : Int) == 9) = false := by rw [beq_eq_false_iff_ne]; omega
        go_wp2
        go_ret
        exact ⟨by simp [h1, h2], rfl⟩
  · go_wp2
    go_ret
    exact ⟨by simp, rfl⟩
theorem all_take (p : UInt8 → Bool) (s : Bs) {k : Nat} (h : k < s.length) : (s.take (k + 1)).all p = ((s.take k).all p && p (s.getD k 0)) := by
  rw [List.take_add_one, List.getElem?_eq_getElem h, List.getD_eq_getElem?_getD, List.getElem?_eq_getElem h]
  show (s.take k ++ [s[k]]).all p = ((s.take k).all p && p s[k])
  rw [List.all_append]
  simp
theorem all_not (p : UInt8 → Bool) (s : Bs) {k : Nat} (h : k < s.length) (hp : p (s.getD k 0) = false) : s.all p = false := by
  rw [List.all_eq_false]
  refine ⟨s.getD k 0, ?_, by rw [hp]; simp⟩
  rw [List.getD_eq_getElem?_getD, List.getElem?_eq_getElem h]
  exact List.getElem_mem h
theorem get_ub (s : Bs) {k : Nat} (h : k < s.length) : ∀ h' : k < (⟨s.toArray⟩ : ByteArray).size, (⟨s.toArray⟩ : ByteArray)[k]'h' = s.getD k 0 := fun h' => by
  rw [List.getD_eq_getElem?_getD, List.getElem?_eq_getElem h]
  rfl
set_option maxRecDepth 100000 in
set_option maxHeartbeats 2000000 in
theorem all_visible (s : Bs) (hs : s.length ≤ 9223372036854775807) (w : World) : Calls Tryz.prog 58 #[vs s, .func (.func 61) #[] #[]] w fun e w' => e = .returned (.bool (s.all vis)) ∧ w' = w := by
  have HC := Lib.hid (fun c W => visible_calls c W)
  have hsz := sz s
  go_enter Tryz.func58, Tryz.ntmps58
  go_wp2_with fail
  go_loopw [5, 8] (fun v5 v8 wr => ∃ k : Nat, k ≤ s.length ∧ v8 = .int .i64 k ∧ Hid ((s.take k).all vis = true) ∧ wr = w) (fun _ v8 _ => s.length - (intOf v8).toNat)
  case atStart => exact ⟨0, Nat.zero_le _, rfl, Lib.hid rfl, rfl⟩
  case round =>
    obtain ⟨k, hk, rfl, HA, rfl⟩ := hrel
    have k0 : (0 : Int) ≤ (k : Int) := by omega
    by_cases hlt : k < s.length
    · have hlt' : (k : Int) < (s.length : Int) := by omega
      have HT := Lib.hid (all_take vis s hlt)
      have HN := Lib.hid (fun h => all_not vis s hlt h)
      have hg := get_ub s hlt
      have HCC := Lib.hid (HC.out (s.getD k 0))
      obtain ⟨c, hc⟩ : ∃ c, s.getD k 0 = c := ⟨_, rfl⟩
      rw [hc] at HT HN hg HCC
      clear hc
      obtain ⟨b, hb⟩ : ∃ b, vis c = b := ⟨_, rfl⟩
      rw [hb] at HT HN HCC
      clear hb
      go_wp2_with fail
      refine (HCC.out _).mono ?_
      rintro e w' ⟨rfl, rfl⟩
      cases b
      · go_wp2
        go_ret
        exact ⟨by rw [HN.out (by trivial)]; rfl, rfl⟩
      · have HT2 := Lib.hid (show (s.take (k + 1)).all vis = true by rw [HT.out, HA.out]; rfl)
        go_wp2
        exact ⟨⟨k + 1, by omega, by go_num, HT2, by trivial⟩, by simp [intOf]; omega⟩
    · have hke : k = s.length := by omega
      subst hke
      have hlt' : ¬ (s.length : Int) < (s.length : Int) := by omega
      have HF := Lib.hid (show s.all vis = true by have := HA.out; rwa [List.take_length] at this)
      go_wp2_with fail
      go_ret
      exact ⟨by rw [HF.out]; rfl, rfl⟩
set_option maxRecDepth 100000 in
set_option maxHeartbeats 2000000 in
theorem all_great (s : Bs) (hs : s.length ≤ 9223372036854775807) (w : World) : Calls Tryz.prog 58 #[vs s, .func (.func 59) #[] #[]] w fun e w' => e = .returned (.bool (s.all great)) ∧ w' = w := by
  have HC := Lib.hid (fun c W => great_calls c W)
  have hsz := sz s
  go_enter Tryz.func58, Tryz.ntmps58
  go_wp2_with fail
  go_loopw [5, 8] (fun v5 v8 wr => ∃ k : Nat, k ≤ s.length ∧ v8 = .int .i64 k ∧ Hid ((s.take k).all great = true) ∧ wr = w) (fun _ v8 _ => s.length - (intOf v8).toNat)
  case atStart => exact ⟨0, Nat.zero_le _, rfl, Lib.hid rfl, rfl⟩
  case round =>
    obtain ⟨k, hk, rfl, HA, rfl⟩ := hrel
    have k0 : (0 : Int) ≤ (k : Int) := by omega
    by_cases hlt : k < s.length
    · have hlt' : (k : Int) < (s.length : Int) := by omega
      have HT := Lib.hid (all_take great s hlt)
      have HN := Lib.hid (fun h => all_not great s hlt h)
      have hg := get_ub s hlt
      have HCC := Lib.hid (HC.out (s.getD k 0))
      obtain ⟨c, hc⟩ : ∃ c, s.getD k 0 = c := ⟨_, rfl⟩
      rw [hc] at HT HN hg HCC
      clear hc
      obtain ⟨b, hb⟩ : ∃ b, great c = b := ⟨_, rfl⟩
      rw [hb] at HT HN HCC
      clear hb
      go_wp2_with fail
      refine (HCC.out _).mono ?_
      rintro e w' ⟨rfl, rfl⟩
      cases b
      · go_wp2
        go_ret
        exact ⟨by rw [HN.out (by trivial)]; rfl, rfl⟩
      · have HT2 := Lib.hid (show (s.take (k + 1)).all great = true by rw [HT.out, HA.out]; rfl)
        go_wp2
        exact ⟨⟨k + 1, by omega, by go_num, HT2, by trivial⟩, by simp [intOf]; omega⟩
    · have hke : k = s.length := by omega
      subst hke
      have hlt' : ¬ (s.length : Int) < (s.length : Int) := by omega
      have HF := Lib.hid (show s.all great = true by have := HA.out; rwa [List.take_length] at this)
      go_wp2_with fail
      go_ret
      exact ⟨by rw [HF.out]; rfl, rfl⟩
set_option maxRecDepth 100000 in
set_option maxHeartbeats 2000000 in
theorem all_named (s : Bs) (hs : s.length ≤ 9223372036854775807) (w : World) : Calls Tryz.prog 58 #[vs s, .func (.func 62) #[] #[]] w fun e w' => e = .returned (.bool (s.all named)) ∧ w' = w := by
  have HC := Lib.hid (fun c W => named_calls c W)
  have hsz := sz s
  go_enter Tryz.func58, Tryz.ntmps58
  go_wp2_with fail
  go_loopw [5, 8] (fun v5 v8 wr => ∃ k : Nat, k ≤ s.length ∧ v8 = .int .i64 k ∧ Hid ((s.take k).all named = true) ∧ wr = w) (fun _ v8 _ => s.length - (intOf v8).toNat)
  case atStart => exact ⟨0, Nat.zero_le _, rfl, Lib.hid rfl, rfl⟩
  case round =>
    obtain ⟨k, hk, rfl, HA, rfl⟩ := hrel
    have k0 : (0 : Int) ≤ (k : Int) := by omega
    by_cases hlt : k < s.length
    · have hlt' : (k : Int) < (s.length : Int) := by omega
      have HT := Lib.hid (all_take named s hlt)
      have HN := Lib.hid (fun h => all_not named s hlt h)
      have hg := get_ub s hlt
      have HCC := Lib.hid (HC.out (s.getD k 0))
      obtain ⟨c, hc⟩ : ∃ c, s.getD k 0 = c := ⟨_, rfl⟩
      rw [hc] at HT HN hg HCC
      clear hc
      obtain ⟨b, hb⟩ : ∃ b, named c = b := ⟨_, rfl⟩
      rw [hb] at HT HN HCC
      clear hb
      go_wp2_with fail
      refine (HCC.out _).mono ?_
      rintro e w' ⟨rfl, rfl⟩
      cases b
      · go_wp2
        go_ret
        exact ⟨by rw [HN.out (by trivial)]; rfl, rfl⟩
      · have HT2 := Lib.hid (show (s.take (k + 1)).all named = true by rw [HT.out, HA.out]; rfl)
        go_wp2
        exact ⟨⟨k + 1, by omega, by go_num, HT2, by trivial⟩, by simp [intOf]; omega⟩
    · have hke : k = s.length := by omega
      subst hke
      have hlt' : ¬ (s.length : Int) < (s.length : Int) := by omega
      have HF := Lib.hid (show s.all named = true by have := HA.out; rwa [List.take_length] at this)
      go_wp2_with fail
      go_ret
      exact ⟨by rw [HF.out]; rfl, rfl⟩
set_option maxRecDepth 100000 in
set_option maxHeartbeats 2000000 in
theorem all_told (s : Bs) (hs : s.length ≤ 9223372036854775807) (w : World) : Calls Tryz.prog 58 #[vs s, .func (.func 63) #[] #[]] w fun e w' => e = .returned (.bool (s.all told)) ∧ w' = w := by
  have HC := Lib.hid (fun c W => told_calls c W)
  have hsz := sz s
  go_enter Tryz.func58, Tryz.ntmps58
  go_wp2_with fail
  go_loopw [5, 8] (fun v5 v8 wr => ∃ k : Nat, k ≤ s.length ∧ v8 = .int .i64 k ∧ Hid ((s.take k).all told = true) ∧ wr = w) (fun _ v8 _ => s.length - (intOf v8).toNat)
  case atStart => exact ⟨0, Nat.zero_le _, rfl, Lib.hid rfl, rfl⟩
  case round =>
    obtain ⟨k, hk, rfl, HA, rfl⟩ := hrel
    have k0 : (0 : Int) ≤ (k : Int) := by omega
    by_cases hlt : k < s.length
    · have hlt' : (k : Int) < (s.length : Int) := by omega
      have HT := Lib.hid (all_take told s hlt)
      have HN := Lib.hid (fun h => all_not told s hlt h)
      have hg := get_ub s hlt
      have HCC := Lib.hid (HC.out (s.getD k 0))
      obtain ⟨c, hc⟩ : ∃ c, s.getD k 0 = c := ⟨_, rfl⟩
      rw [hc] at HT HN hg HCC
      clear hc
      obtain ⟨b, hb⟩ : ∃ b, told c = b := ⟨_, rfl⟩
      rw [hb] at HT HN HCC
      clear hb
      go_wp2_with fail
      refine (HCC.out _).mono ?_
      rintro e w' ⟨rfl, rfl⟩
      cases b
      · go_wp2
        go_ret
        exact ⟨by rw [HN.out (by trivial)]; rfl, rfl⟩
      · have HT2 := Lib.hid (show (s.take (k + 1)).all told = true by rw [HT.out, HA.out]; rfl)
        go_wp2
        exact ⟨⟨k + 1, by omega, by go_num, HT2, by trivial⟩, by simp [intOf]; omega⟩
    · have hke : k = s.length := by omega
      subst hke
      have hlt' : ¬ (s.length : Int) < (s.length : Int) := by omega
      have HF := Lib.hid (show s.all told = true by have := HA.out; rwa [List.take_length] at this)
      go_wp2_with fail
      go_ret
      exact ⟨by rw [HF.out]; rfl, rfl⟩
end Go.Proofs.YtomancadpdccaaaGreatDoor.Ht

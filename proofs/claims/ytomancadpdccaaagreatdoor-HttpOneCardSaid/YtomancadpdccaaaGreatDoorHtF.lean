/-
  HTTP: a token: the program's and the document's; the document's first line.
-/
import Derived.Test.YtomancadpdccaaaGreatDoorHtE
namespace Go.Proofs.YtomancadpdccaaaGreatDoor.Ht
open Go.RowKit Go.Proofs.YtomancadpdccaaaGreatDoor.B
open Go.Proofs.YtomancadpdccaaaGreatDoor.M hiding Bs
open Go.Proofs.YtomancadpdccaaaGreatDoor.C (QRow Turn)
set_option linter.unusedVariables false
set_option linter.unusedSimpArgs false

theorem pre_take {p l : Bs} : Lib.hasPrefix l p = (l.take p.length == p) := by
  rw [Bool.eq_iff_iff, beq_iff_eq]
  show p.isPrefixOf l = true ↔ _
  rw [List.isPrefixOf_iff_prefix, List.prefix_iff_eq_take]
  exact eq_comm
theorem trim_pre {p l : Bs} (h : Lib.hasPrefix l p = true) : Lib.trimPrefix l p = l.drop p.length := by
  unfold Lib.trimPrefix
  rw [if_pos h]
theorem be_is (v : Bs) (l : List Bs) : beF (v :: l) = if (Lib.hasPrefix v bearer && !(v.drop 7).isEmpty && decide ((v.drop 7).length ≤ 512) && (v.drop 7).all vis) = true then (v.drop 7, 0) else ([], 400) := rfl
theorem be_one (v : Bs) (l : List Bs) : beF (v :: l) = beF [v] := rfl
set_option maxRecDepth 100000 in
set_option maxHeartbeats 4000000 in
theorem bearer_calls (l : List Bs) (A : Option Addr) (n c : Nat) (w : World) (hn : l.length = n) (hr : RdS w A l) (hl : ∀ x ∈ l, x.length ≤ 1000000) (hmax : n ≤ 1000000) : Calls Tryz.prog 47 #[.slice A n c] w fun e w' => e = .returned (.tuple #[vs (beF l).1, .int .i64 ((beF l).2 : Int)]) ∧ w' = w := by
  cases l with
  | nil =>
    obtain rfl : n = 0 := hn.symm
    go_enter Tryz.func47, Tryz.ntmps47
    go_wp2
    go_ret2
    exact ⟨rfl, rfl⟩
  | cons v t =>
    have hn0 : 0 < n := by rw [← hn]; simp
    have hne : ¬ (n : Int) = 0 := by omega
    have hne' : ((n : Int) == 0) = false := by rw [beq_eq_false_iff_ne]; exact hne
    have hnn : (0 : Int) < (n : Int) := by omega
    obtain ⟨ad, rfl⟩ := hr.at_ (by simp)
    have c0 := hr.get (i := 0) (by simp)
    rw [M.add_zero] at c0
    have c0 : w.cell? ad = some (vs v) := c0
    have hvl := hl v (by simp)
    have HP := Lib.hid (fun W => CutPrefix_c v bearer W)
    have HB := Lib.hid (be_is v t)
    have HTP := Lib.hid (fun (h : Lib.hasPrefix v bearer = true) => trim_pre h)
    obtain ⟨bp, hbp⟩ : ∃ b, Lib.hasPrefix v bearer = b := ⟨_, rfl⟩
    rw [hbp] at HP HB HTP
    clear hbp hr hl hn hmax
    cases bp with
    | false =>
      go_enter Tryz.func47, Tryz.ntmps47
      go_wp2_with fail
      refine (HP.out _).mono ?_
      rintro e w1 ⟨rfl, rfl⟩
      go_wp2
      go_ret2
      exact ⟨by rw [HB.out]; rfl, rfl⟩
    | true =>
      have h7 := HTP.out rfl
      rw [show bearer.length = 7 from rfl] at h7
      rw [h7] at HP
      obtain ⟨t7, ht7⟩ : ∃ x, v.drop 7 = x := ⟨_, rfl⟩
      have hl7 : t7.length ≤ 1000000 := by rw [← ht7, List.length_drop]; omega
      rw [ht7] at HP HB
      have HV := Lib.hid (fun W => all_visible t7 (by omega) W)
      obtain ⟨bv, hbv⟩ : ∃ b, t7.all vis = b := ⟨_, rfl⟩
      rw [hbv] at HV HB
      have h1 := sz t7
      clear h7 HTP ht7 hbv
      go_enter Tryz.func47, Tryz.ntmps47
      go_wp2_with fail
      refine (HP.out _).mono ?_
      rintro e w1 ⟨rfl, rfl⟩
      cases he : t7.isEmpty with
      | true =>
        rw [he] at HB
        go_wp2
        go_ret2
        exact ⟨by rw [HB.out]; rfl, rfl⟩
      | false =>
        rw [he] at HB
        by_cases h512 : 512 < t7.length
        · have h512' : (512 : Int) < (t7.length : Int) := by omega
          have HB2 := Lib.hid (show beF (v :: t) = ([], 400) by rw [HB.out, show decide (t7.length ≤ 512) = false by simp; omega]; rfl)
          go_wp2
          go_ret2
          exact ⟨by rw [HB2.out]; rfl, rfl⟩
        · have h512' : ¬ (512 : Int) < (t7.length : Int) := by omega
          have HB2 := Lib.hid (show beF (v :: t) = if bv = true then (t7, 0) else ([], 400) by rw [HB.out, show decide (t7.length ≤ 512) = true by simp; omega]; rfl)
          go_wp2_with fail
          refine (HV.out _).mono ?_
          rintro e w1 ⟨rfl, rfl⟩
          cases bv with
          | true =>
            go_wp2
            go_ret2
            exact ⟨by rw [HB2.out]; rfl, rfl⟩
          | false =>
            go_wp2
            go_ret2
            exact ⟨by rw [HB2.out]; rfl, rfl⟩
theorem be_short {v : Bs} (h : v.length < 8) : beF [v] = ([], 400) := by
  rw [be_is, List.drop_eq_nil_of_le (by omega)]
  simp
theorem be_bad {v : Bs} (h : (v.take 7 == bearer) = false) : beF [v] = ([], 400) := by
  rw [be_is, pre_take, show bearer.length = 7 from rfl, h]
  rfl
theorem be_good {v : Bs} (h8 : 8 ≤ v.length) (h : (v.take 7 == bearer) = true) : beF [v] = if ((v.drop 7).all vis && decide (v.length ≤ 519)) = true then (v.drop 7, 0) else ([], 400) := by
  rw [be_is, pre_take, show bearer.length = 7 from rfl, h]
  have he : (v.drop 7).isEmpty = false := by
    rw [List.isEmpty_eq_false_iff]
    intro e
    have := congrArg List.length e
    rw [List.length_drop] at this
    simp at this
    omega
  have hd : decide ((v.drop 7).length ≤ 512) = decide (v.length ≤ 519) := by
    rw [List.length_drop]
    exact decide_eq_decide.2 (by omega)
  rw [he, hd]
  cases (v.drop 7).all vis <;> cases decide (v.length ≤ 519) <;> rfl
def BeRet (v : Bs) (w : World) (e : Ending) (w' : World) : Prop := ∃ t b, e = .returned (.tuple #[vs t, .bool b]) ∧ w' = w ∧ (b = true → beF [v] = (t, 0)) ∧ (b = false → beF [v] = ([], 400))
set_option maxRecDepth 100000 in
set_option maxHeartbeats 4000000 in
/-- the document's: a token, if it is one. -/
theorem dbearer_calls (v : Bs) (hv : v.length ≤ 1000000) (w : World) : Calls Tryz.prog 31 #[vs v] w (BeRet v w) := by
  have h1 := sz v
  have hx1 := ext_to v 7
  have hx2 := ext_drop v 7 v.length rfl
  go_enter Tryz.func31, Tryz.ntmps31
  by_cases h8 : v.length < 8
  · have h8' : (v.length : Int) < 8 := by omega
    have HB2 := Lib.hid (be_short h8)
    go_wp2
    go_ret2
    exact ⟨_, _, by rfl, rfl, fun h => (by cases h), fun _ => HB2.out⟩
  · have h8' : ¬ (v.length : Int) < 8 := by omega
    have h7 : (7 : Int) ≤ (v.length : Int) := by omega
    cases ht : v.take 7 == bearer with
    | false =>
      have HB2 := Lib.hid (be_bad ht)
      have ht' : (v.take 7 == [66, 101, 97, 114, 101, 114, 32]) = false := ht
      clear ht
      go_wp2
      go_ret2
      exact ⟨_, _, by rfl, rfl, fun h => (by cases h), fun _ => HB2.out⟩
    | true =>
      have HB2 := Lib.hid (be_good (by omega) ht)
      have ht' : (v.take 7 == [66, 101, 97, 114, 101, 114, 32]) = true := ht
      clear ht
      have HV := Lib.hid (fun W => dvisible_calls (v.drop 7) (by rw [List.length_drop]; omega) W)
      obtain ⟨t7, ht7⟩ : ∃ x, v.drop 7 = x := ⟨_, rfl⟩
      rw [ht7] at HV HB2 hx2
      clear ht7
      obtain ⟨bv, hbv⟩ : ∃ b, t7.all vis = b := ⟨_, rfl⟩
      rw [hbv] at HV HB2
      clear hbv
      go_wp2_with fail
      refine (HV.out _).mono ?_
      rintro e w1 ⟨rfl, rfl⟩
      cases bv with
      | false =>
        have HB3 := Lib.hid (show beF [v] = ([], 400) by rw [HB2.out]; rfl)
        go_wp2
        go_ret2
        exact ⟨_, _, by rfl, rfl, fun h => (by cases h), fun _ => HB3.out⟩
      | true =>
        by_cases h519 : v.length ≤ 519
        · have h519' : (v.length : Int) ≤ 519 := by omega
          have HB3 := Lib.hid (show beF [v] = (t7, 0) by rw [HB2.out, decide_eq_true h519]; rfl)
          go_wp2
          go_ret2
          exact ⟨t7, true, by simp [Array.getD, h519'], rfl, fun _ => HB3.out, fun h => (by cases h)⟩
        · have h519' : ¬ (v.length : Int) ≤ 519 := by omega
          have HB3 := Lib.hid (show beF [v] = ([], 400) by rw [HB2.out, decide_eq_false h519]; rfl)
          go_wp2
          go_ret2
          exact ⟨t7, false, by simp [Array.getD, h519'], rfl, fun h => (by cases h), fun _ => HB3.out⟩
end Go.Proofs.YtomancadpdccaaaGreatDoor.Ht

/-
  The walk of NamesOrders.
-/
import Derived.Test.YtfdhjnbmmckknaaNamesO
namespace Go.Proofs.Ytfdhjnbmmckknaa.Nm
open Go.RowKit Go.Proofs.Ytfdhjnbmmckknaa.B Go.Proofs.Ytfdhjnbmmckknaa.S10
set_option linter.unusedVariables false
set_option linter.unusedSimpArgs false

theorem cmpT_anti (x y : Tup) : cmpT y x = - cmpT x y := by rw [cmpT_L, cmpT_L]; exact cmpL_anti _ _
theorem cmpT_trans (x y z : Tup) (h : cmpT x y < 0) (k : cmpT y z < 0) : cmpT x z < 0 := by rw [cmpT_L] at *; exact cmpL_trans _ _ _ h k
def Sz (x : Tup) : Prop := x.t.size ≤ 9223372036854775807 ∧ x.i.size ≤ 9223372036854775807 ∧ x.r.size ≤ 9223372036854775807 ∧ x.st.size ≤ 9223372036854775807 ∧ x.si.size ≤ 9223372036854775807 ∧ x.sr.size ≤ 9223372036854775807
set_option maxHeartbeats 8000000 in
set_option maxRecDepth 100000 in
theorem NamesOrders_calls (a b c : Tup) (w : World) (ha : Sz a) (hb : Sz b) (hc : Sz c) :
    Calls Try.prog 11 #[.agg #[.string a.t, .string a.i, .string a.r, .string a.st, .string a.si, .string a.sr], .agg #[.string b.t, .string b.i, .string b.r, .string b.st, .string b.si, .string b.sr], .agg #[.string c.t, .string c.i, .string c.r, .string c.st, .string c.si, .string c.sr]] w fun e w' => e = .returned (.bool true) ∧ Below w.heap.size w w' := by
  clear ha hb hc
  have hr := Lib.hid (less_ref a b)
  rcases Int.lt_trichotomy (cmpT a b) 0 with hl | hl | hl
  · have hE0 : tEq a b = false := by rw [tEq_iff]; simp; omega
    have HE := Lib.hid (show ¬ ((a.t.toList == b.t.toList && (a.i.toList == b.i.toList && (a.r.toList == b.r.toList && (a.st.toList == b.st.toList && (a.si.toList == b.si.toList && a.sr.toList == b.sr.toList))))) = true) by rw [show (a.t.toList == b.t.toList && (a.i.toList == b.i.toList && (a.r.toList == b.r.toList && (a.st.toList == b.st.toList && (a.si.toList == b.si.toList && a.sr.toList == b.sr.toList))))) = false from hE0]; simp)
    clear hE0
    cases hz : decide (cmpT b c < 0) with
    | true =>
      have hA := Lib.hid (show decide (cmpT a c < 0) = true by simpa using cmpT_trans a b c hl (by simpa using hz))
      have hX := Lib.hid (show decide (cmpT a b < 0) = true by simp; omega)
      have hY := Lib.hid (show decide (cmpT b a < 0) = false by have := cmpT_anti a b; simp; omega)
      have hZ := Lib.hid hz
      go_enter Try.func11, Try.ntmps11
      have HB0 : Below w.heap.size w (((w.alloc (Obj.cells #[.string a.t, .string a.i, .string a.r, .string a.st, .string a.si, .string a.sr] 50)).alloc (Obj.cells #[.string b.t, .string b.i, .string b.r, .string b.st, .string b.si, .string b.sr] 50)).alloc (Obj.cells #[.string c.t, .string c.i, .string c.r, .string c.st, .string c.si, .string c.sr] 50)) := (((Below.refl _ _).alloc (Nat.le_refl _) _).alloc (by simp) _).alloc (by simp; omega) _
      go_wp2_with fail
      refine (awake_calls _).mono ?_
      rintro e w1 ⟨rfl, hb1⟩
      have HB1 : Below w.heap.size w w1 := below_then HB0 (by simp; omega) hb1
      have hz1 : w.heap.size + 1 + 1 < w1.heap.size := by have := hb1.size; (try simp at this); omega
      have hy1 : w.heap.size < w1.heap.size := by omega
      have hx1 : w.heap.size + 1 < w1.heap.size := by omega
      obtain ⟨hc1, hf1⟩ := bcell hb1
      go_wp2_with fail
      refine (Less_calls a b _).mono ?_
      rintro e w2 ⟨rfl, hb2⟩
      rw [hX.out]
      have HB2 : Below w.heap.size w w2 := keepB HB1 hb2
      have hz2 : w.heap.size + 1 + 1 < w2.heap.size := Nat.lt_of_lt_of_le hz1 hb2.size
      have hy2 : w.heap.size < w2.heap.size := by omega
      have hx2 : w.heap.size + 1 < w2.heap.size := by omega
      obtain ⟨hc2, hf2⟩ := bcell hb2
      go_wp2_with fail
      refine (Less_calls b a _).mono ?_
      rintro e w3 ⟨rfl, hb3⟩
      rw [hY.out]
      have HB3 : Below w.heap.size w w3 := keepB HB2 hb3
      have hz3 : w.heap.size + 1 + 1 < w3.heap.size := Nat.lt_of_lt_of_le hz2 hb3.size
      have hy3 : w.heap.size < w3.heap.size := by omega
      have hx3 : w.heap.size + 1 < w3.heap.size := by omega
      obtain ⟨hc3, hf3⟩ := bcell hb3
      go_wp2_with fail
      refine (Less_calls b c _).mono ?_
      rintro e w4 ⟨rfl, hb4⟩
      rw [hZ.out]
      have HB4 : Below w.heap.size w w4 := keepB HB3 hb4
      have hz4 : w.heap.size + 1 + 1 < w4.heap.size := Nat.lt_of_lt_of_le hz3 hb4.size
      have hy4 : w.heap.size < w4.heap.size := by omega
      have hx4 : w.heap.size + 1 < w4.heap.size := by omega
      obtain ⟨hc4, hf4⟩ := bcell hb4
      go_wp2_with fail
      refine (refLess_calls a b _).mono ?_
      rintro e w5 ⟨rfl, hb5⟩
      rw [hr.out, hX.out]
      have HB5 : Below w.heap.size w w5 := keepB HB4 hb5
      have hz5 : w.heap.size + 1 + 1 < w5.heap.size := Nat.lt_of_lt_of_le hz4 hb5.size
      have hy5 : w.heap.size < w5.heap.size := by omega
      have hx5 : w.heap.size + 1 < w5.heap.size := by omega
      obtain ⟨hc5, hf5⟩ := bcell hb5
      go_wp2_with fail
      all_goals (first | (exfalso; refine HE.out ?_; simp only [Bool.and_eq_true, beq_iff_eq]; (refine ⟨?_, ?_, ?_, ?_, ?_, ?_⟩ <;> assumption)) | skip)
      all_goals
        refine (Less_calls a c _).mono ?_
        rintro e w6 ⟨rfl, hb6⟩
        rw [hA.out]
        have HB6 : Below w.heap.size w w6 := keepB HB5 hb6
        have hz6 : w.heap.size + 1 + 1 < w6.heap.size := Nat.lt_of_lt_of_le hz5 hb6.size
        have hy6 : w.heap.size < w6.heap.size := by omega
        have hx6 : w.heap.size + 1 < w6.heap.size := by omega
        obtain ⟨hc6, hf6⟩ := bcell hb6
        go_wp2
        go_ret
        exact ⟨rfl, HB6⟩
    | false =>
      have hX := Lib.hid (show decide (cmpT a b < 0) = true by simp; omega)
      have hY := Lib.hid (show decide (cmpT b a < 0) = false by have := cmpT_anti a b; simp; omega)
      have hZ := Lib.hid hz
      go_enter Try.func11, Try.ntmps11
      have HB0 : Below w.heap.size w (((w.alloc (Obj.cells #[.string a.t, .string a.i, .string a.r, .string a.st, .string a.si, .string a.sr] 50)).alloc (Obj.cells #[.string b.t, .string b.i, .string b.r, .string b.st, .string b.si, .string b.sr] 50)).alloc (Obj.cells #[.string c.t, .string c.i, .string c.r, .string c.st, .string c.si, .string c.sr] 50)) := (((Below.refl _ _).alloc (Nat.le_refl _) _).alloc (by simp) _).alloc (by simp; omega) _
      go_wp2_with fail
      refine (awake_calls _).mono ?_
      rintro e w1 ⟨rfl, hb1⟩
      have HB1 : Below w.heap.size w w1 := below_then HB0 (by simp; omega) hb1
      have hz1 : w.heap.size + 1 + 1 < w1.heap.size := by have := hb1.size; (try simp at this); omega
      have hy1 : w.heap.size < w1.heap.size := by omega
      have hx1 : w.heap.size + 1 < w1.heap.size := by omega
      obtain ⟨hc1, hf1⟩ := bcell hb1
      go_wp2_with fail
      refine (Less_calls a b _).mono ?_
      rintro e w2 ⟨rfl, hb2⟩
      rw [hX.out]
      have HB2 : Below w.heap.size w w2 := keepB HB1 hb2
      have hz2 : w.heap.size + 1 + 1 < w2.heap.size := Nat.lt_of_lt_of_le hz1 hb2.size
      have hy2 : w.heap.size < w2.heap.size := by omega
      have hx2 : w.heap.size + 1 < w2.heap.size := by omega
      obtain ⟨hc2, hf2⟩ := bcell hb2
      go_wp2_with fail
      refine (Less_calls b a _).mono ?_
      rintro e w3 ⟨rfl, hb3⟩
      rw [hY.out]
      have HB3 : Below w.heap.size w w3 := keepB HB2 hb3
      have hz3 : w.heap.size + 1 + 1 < w3.heap.size := Nat.lt_of_lt_of_le hz2 hb3.size
      have hy3 : w.heap.size < w3.heap.size := by omega
      have hx3 : w.heap.size + 1 < w3.heap.size := by omega
      obtain ⟨hc3, hf3⟩ := bcell hb3
      go_wp2_with fail
      refine (Less_calls b c _).mono ?_
      rintro e w4 ⟨rfl, hb4⟩
      rw [hZ.out]
      have HB4 : Below w.heap.size w w4 := keepB HB3 hb4
      have hz4 : w.heap.size + 1 + 1 < w4.heap.size := Nat.lt_of_lt_of_le hz3 hb4.size
      have hy4 : w.heap.size < w4.heap.size := by omega
      have hx4 : w.heap.size + 1 < w4.heap.size := by omega
      obtain ⟨hc4, hf4⟩ := bcell hb4
      go_wp2_with fail
      refine (refLess_calls a b _).mono ?_
      rintro e w5 ⟨rfl, hb5⟩
      rw [hr.out, hX.out]
      have HB5 : Below w.heap.size w w5 := keepB HB4 hb5
      have hz5 : w.heap.size + 1 + 1 < w5.heap.size := Nat.lt_of_lt_of_le hz4 hb5.size
      have hy5 : w.heap.size < w5.heap.size := by omega
      have hx5 : w.heap.size + 1 < w5.heap.size := by omega
      obtain ⟨hc5, hf5⟩ := bcell hb5
      go_wp2
      all_goals (first | (exfalso; refine HE.out ?_; simp only [Bool.and_eq_true, beq_iff_eq]; (refine ⟨?_, ?_, ?_, ?_, ?_, ?_⟩ <;> assumption)) | skip)
      all_goals
        go_ret
        exact ⟨rfl, HB5⟩
  · have hE0 : tEq a b = true := by rw [tEq_iff]; simp; omega
    simp only [tEq, Bool.and_eq_true] at hE0
    obtain ⟨q1, q2, q3, q4, q5, q6⟩ := hE0
    simp only [beq_iff_eq] at q1 q2 q3 q4 q5 q6
    obtain ⟨z, hz⟩ : ∃ z, decide (cmpT b c < 0) = z := ⟨_, rfl⟩
    have hX := Lib.hid (show decide (cmpT a b < 0) = false by simp; omega)
    have hY := Lib.hid (show decide (cmpT b a < 0) = false by have := cmpT_anti a b; simp; omega)
    have hZ := Lib.hid hz
    go_enter Try.func11, Try.ntmps11
    have HB0 : Below w.heap.size w (((w.alloc (Obj.cells #[.string a.t, .string a.i, .string a.r, .string a.st, .string a.si, .string a.sr] 50)).alloc (Obj.cells #[.string b.t, .string b.i, .string b.r, .string b.st, .string b.si, .string b.sr] 50)).alloc (Obj.cells #[.string c.t, .string c.i, .string c.r, .string c.st, .string c.si, .string c.sr] 50)) := (((Below.refl _ _).alloc (Nat.le_refl _) _).alloc (by simp) _).alloc (by simp; omega) _
    go_wp2_with fail
    refine (awake_calls _).mono ?_
    rintro e w1 ⟨rfl, hb1⟩
    have HB1 : Below w.heap.size w w1 := below_then HB0 (by simp; omega) hb1
    have hz1 : w.heap.size + 1 + 1 < w1.heap.size := by have := hb1.size; (try simp at this); omega
    have hy1 : w.heap.size < w1.heap.size := by omega
    have hx1 : w.heap.size + 1 < w1.heap.size := by omega
    obtain ⟨hc1, hf1⟩ := bcell hb1
    go_wp2_with fail
    refine (Less_calls a b _).mono ?_
    rintro e w2 ⟨rfl, hb2⟩
    rw [hX.out]
    have HB2 : Below w.heap.size w w2 := keepB HB1 hb2
    have hz2 : w.heap.size + 1 + 1 < w2.heap.size := Nat.lt_of_lt_of_le hz1 hb2.size
    have hy2 : w.heap.size < w2.heap.size := by omega
    have hx2 : w.heap.size + 1 < w2.heap.size := by omega
    obtain ⟨hc2, hf2⟩ := bcell hb2
    go_wp2_with fail
    refine (Less_calls b a _).mono ?_
    rintro e w3 ⟨rfl, hb3⟩
    rw [hY.out]
    have HB3 : Below w.heap.size w w3 := keepB HB2 hb3
    have hz3 : w.heap.size + 1 + 1 < w3.heap.size := Nat.lt_of_lt_of_le hz2 hb3.size
    have hy3 : w.heap.size < w3.heap.size := by omega
    have hx3 : w.heap.size + 1 < w3.heap.size := by omega
    obtain ⟨hc3, hf3⟩ := bcell hb3
    go_wp2_with fail
    refine (Less_calls b c _).mono ?_
    rintro e w4 ⟨rfl, hb4⟩
    rw [hZ.out]
    have HB4 : Below w.heap.size w w4 := keepB HB3 hb4
    have hz4 : w.heap.size + 1 + 1 < w4.heap.size := Nat.lt_of_lt_of_le hz3 hb4.size
    have hy4 : w.heap.size < w4.heap.size := by omega
    have hx4 : w.heap.size + 1 < w4.heap.size := by omega
    obtain ⟨hc4, hf4⟩ := bcell hb4
    go_wp2_with fail
    refine (refLess_calls a b _).mono ?_
    rintro e w5 ⟨rfl, hb5⟩
    rw [hr.out, hX.out]
    have HB5 : Below w.heap.size w w5 := keepB HB4 hb5
    have hz5 : w.heap.size + 1 + 1 < w5.heap.size := Nat.lt_of_lt_of_le hz4 hb5.size
    have hy5 : w.heap.size < w5.heap.size := by omega
    have hx5 : w.heap.size + 1 < w5.heap.size := by omega
    obtain ⟨hc5, hf5⟩ := bcell hb5
    go_wp2
    all_goals (first | (exfalso; refine HE.out ?_; simp only [Bool.and_eq_true, beq_iff_eq]; (refine ⟨?_, ?_, ?_, ?_, ?_, ?_⟩ <;> assumption)) | skip)
    all_goals
      go_ret
      exact ⟨rfl, HB5⟩
  · have hE0 : tEq a b = false := by rw [tEq_iff]; simp; omega
    have HE := Lib.hid (show ¬ ((a.t.toList == b.t.toList && (a.i.toList == b.i.toList && (a.r.toList == b.r.toList && (a.st.toList == b.st.toList && (a.si.toList == b.si.toList && a.sr.toList == b.sr.toList))))) = true) by rw [show (a.t.toList == b.t.toList && (a.i.toList == b.i.toList && (a.r.toList == b.r.toList && (a.st.toList == b.st.toList && (a.si.toList == b.si.toList && a.sr.toList == b.sr.toList))))) = false from hE0]; simp)
    clear hE0
    obtain ⟨z, hz⟩ : ∃ z, decide (cmpT b c < 0) = z := ⟨_, rfl⟩
    have hX := Lib.hid (show decide (cmpT a b < 0) = false by simp; omega)
    have hY := Lib.hid (show decide (cmpT b a < 0) = true by have := cmpT_anti a b; simp; omega)
    have hZ := Lib.hid hz
    go_enter Try.func11, Try.ntmps11
    have HB0 : Below w.heap.size w (((w.alloc (Obj.cells #[.string a.t, .string a.i, .string a.r, .string a.st, .string a.si, .string a.sr] 50)).alloc (Obj.cells #[.string b.t, .string b.i, .string b.r, .string b.st, .string b.si, .string b.sr] 50)).alloc (Obj.cells #[.string c.t, .string c.i, .string c.r, .string c.st, .string c.si, .string c.sr] 50)) := (((Below.refl _ _).alloc (Nat.le_refl _) _).alloc (by simp) _).alloc (by simp; omega) _
    go_wp2_with fail
    refine (awake_calls _).mono ?_
    rintro e w1 ⟨rfl, hb1⟩
    have HB1 : Below w.heap.size w w1 := below_then HB0 (by simp; omega) hb1
    have hz1 : w.heap.size + 1 + 1 < w1.heap.size := by have := hb1.size; (try simp at this); omega
    have hy1 : w.heap.size < w1.heap.size := by omega
    have hx1 : w.heap.size + 1 < w1.heap.size := by omega
    obtain ⟨hc1, hf1⟩ := bcell hb1
    go_wp2_with fail
    refine (Less_calls a b _).mono ?_
    rintro e w2 ⟨rfl, hb2⟩
    rw [hX.out]
    have HB2 : Below w.heap.size w w2 := keepB HB1 hb2
    have hz2 : w.heap.size + 1 + 1 < w2.heap.size := Nat.lt_of_lt_of_le hz1 hb2.size
    have hy2 : w.heap.size < w2.heap.size := by omega
    have hx2 : w.heap.size + 1 < w2.heap.size := by omega
    obtain ⟨hc2, hf2⟩ := bcell hb2
    go_wp2_with fail
    refine (Less_calls b a _).mono ?_
    rintro e w3 ⟨rfl, hb3⟩
    rw [hY.out]
    have HB3 : Below w.heap.size w w3 := keepB HB2 hb3
    have hz3 : w.heap.size + 1 + 1 < w3.heap.size := Nat.lt_of_lt_of_le hz2 hb3.size
    have hy3 : w.heap.size < w3.heap.size := by omega
    have hx3 : w.heap.size + 1 < w3.heap.size := by omega
    obtain ⟨hc3, hf3⟩ := bcell hb3
    go_wp2_with fail
    refine (Less_calls b c _).mono ?_
    rintro e w4 ⟨rfl, hb4⟩
    rw [hZ.out]
    have HB4 : Below w.heap.size w w4 := keepB HB3 hb4
    have hz4 : w.heap.size + 1 + 1 < w4.heap.size := Nat.lt_of_lt_of_le hz3 hb4.size
    have hy4 : w.heap.size < w4.heap.size := by omega
    have hx4 : w.heap.size + 1 < w4.heap.size := by omega
    obtain ⟨hc4, hf4⟩ := bcell hb4
    go_wp2_with fail
    refine (refLess_calls a b _).mono ?_
    rintro e w5 ⟨rfl, hb5⟩
    rw [hr.out, hX.out]
    have HB5 : Below w.heap.size w w5 := keepB HB4 hb5
    have hz5 : w.heap.size + 1 + 1 < w5.heap.size := Nat.lt_of_lt_of_le hz4 hb5.size
    have hy5 : w.heap.size < w5.heap.size := by omega
    have hx5 : w.heap.size + 1 < w5.heap.size := by omega
    obtain ⟨hc5, hf5⟩ := bcell hb5
    go_wp2
    all_goals (first | (exfalso; refine HE.out ?_; simp only [Bool.and_eq_true, beq_iff_eq]; (refine ⟨?_, ?_, ?_, ?_, ?_, ?_⟩ <;> assumption)) | skip)
    all_goals
      go_ret
      exact ⟨rfl, HB5⟩
end Go.Proofs.Ytfdhjnbmmckknaa.Nm

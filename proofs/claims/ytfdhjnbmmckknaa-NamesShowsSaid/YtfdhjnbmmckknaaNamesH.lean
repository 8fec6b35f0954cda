/-
  The walks of NamesBack and NamesShows.
-/
import Derived.Test.YtfdhjnbmmckknaaNamesG
import Derived.Test.YtfdhjnbmmckknaaPlain10
namespace Go.Proofs.Ytfdhjnbmmckknaa.Nm
open Go.RowKit Go.Proofs.Ytfdhjnbmmckknaa.B Go.Proofs.Ytfdhjnbmmckknaa.S10
set_option linter.unusedVariables false
set_option linter.unusedSimpArgs false

theorem objF_sz (s : ByteArray) : (objF s).1.size ≤ s.size ∧ (objF s).2.1.size ≤ s.size := objF_size s
theorem subF_sz (s : ByteArray) : (subF s).1.size ≤ s.size ∧ (subF s).2.1.size ≤ s.size ∧ (subF s).2.2.1.size ≤ s.size := by
  have := cutF_size s 35
  have := objF_size (cutF s 35).1
  unfold subF
  split
  · exact ⟨by show (objF _).1.size ≤ _; omega, by show (objF _).2.1.size ≤ _; omega, by show (cutF _ _).2.1.size ≤ _; omega⟩
  · exact ⟨Nat.zero_le _, Nat.zero_le _, Nat.zero_le _⟩
theorem tupF_sz (s : ByteArray) : (tupF s).1.t.size ≤ s.size ∧ (tupF s).1.i.size ≤ s.size ∧ (tupF s).1.r.size ≤ s.size ∧ (tupF s).1.st.size ≤ s.size ∧ (tupF s).1.si.size ≤ s.size ∧ (tupF s).1.sr.size ≤ s.size := by
  have a1 := cutF_size s 64
  have a2 := cutF_size (cutF s 64).1 35
  have a3 := objF_size (cutF (cutF s 64).1 35).1
  have a4 := subF_sz (cutF s 64).2.1
  rw [tupF_is]
  split
  · exact ⟨by show (objF _).1.size ≤ _; omega, by show (objF _).2.1.size ≤ _; omega, by show (cutF _ _).2.1.size ≤ _; omega, by show (subF _).1.size ≤ _; omega, by show (subF _).2.1.size ≤ _; omega, by show (subF _).2.2.1.size ≤ _; omega⟩
  · exact ⟨Nat.zero_le _, Nat.zero_le _, Nat.zero_le _, Nat.zero_le _, Nat.zero_le _, Nat.zero_le _⟩

set_option maxHeartbeats 8000000 in
set_option maxRecDepth 100000 in
theorem NamesBack_calls (s : ByteArray) (w : World) (hs : s.size ≤ 9223372036854775807) :
    Calls Try.prog 10 #[.string s] w fun e w' => e = .returned (.bool true) ∧ Below w.heap.size w w' := by
  have z1 := objF_sz s
  have z2 := subF_sz s
  have z3 := tupF_sz s
  cases ha : (objF s).2.2 with
  | true =>
    have HOb := Lib.hid (obj_back ha)
    have hb : (subF s).2.2.2 = true := obj_sub ha
    have HSb := Lib.hid (sub_back hb)
    have hc : (tupF s).2 = false := sub_tup hb
    go_enter Try.func10, Try.ntmps10
    go_wp2_with fail
    refine (awake_calls _).mono ?_
    rintro e w1 ⟨rfl, hb1⟩
    have HB1 : Below w.heap.size w w1 := hb1
    go_wp2_with fail
    refine (Object_calls _ _ hs).mono ?_
    rintro e w2 ⟨rfl, hb2⟩
    have HB2 : Below w.heap.size w w2 := keepB HB1 hb2
    go_wp2_with fail
    refine (Subject_calls _ _ hs).mono ?_
    rintro e w3 ⟨rfl, hb3⟩
    have HB3 : Below w.heap.size w w3 := below_then (HB2.alloc HB2.size _) (by have := HB2.size; simp; omega) hb3
    obtain ⟨hc3, hf3⟩ := bcell hb3
    have hl3 : w2.heap.size < w3.heap.size := by have := hb3.size; (try simp at this); omega
    go_wp2_with fail
    refine (Tuple_calls _ _ hs).mono ?_
    rintro e w4 ⟨rfl, hb4⟩
    have HB4 : Below w.heap.size w w4 := below_then (HB3.alloc HB3.size _) (by have := HB3.size; simp; omega) hb4
    obtain ⟨hc4, hf4⟩ := bcell hb4
    have hl4 : w3.heap.size < w4.heap.size := by have := hb4.size; (try simp at this); omega
    have hz4_2 : w2.heap.size < w4.heap.size := by omega
    have hy4_2 : w2.heap.size < w3.heap.size + 1 := by omega
    go_wp2_with fail
    refine (ShowObject_calls _ _ _ (by omega) (by omega)).mono ?_
    rintro e w5 ⟨rfl, hb5⟩
    rw [HOb.out]
    have HB5 : Below w.heap.size w w5 := below_then (HB4.alloc HB4.size _) (by have := HB4.size; simp; omega) hb5
    obtain ⟨hc5, hf5⟩ := bcell hb5
    have hl5 : w4.heap.size < w5.heap.size := by have := hb5.size; (try simp at this); omega
    have hz5_2 : w2.heap.size < w5.heap.size := by omega
    have hy5_2 : w2.heap.size < w4.heap.size + 1 := by omega
    have hz5_3 : w3.heap.size < w5.heap.size := by omega
    have hy5_3 : w3.heap.size < w4.heap.size + 1 := by omega
    go_wp2_with fail
    refine (ShowSubject_calls _ _ _ _ (by omega) (by omega) (by omega)).mono ?_
    rintro e w6 ⟨rfl, hb6⟩
    rw [HSb.out]
    have HB6 : Below w.heap.size w w6 := keepB HB5 hb6
    obtain ⟨hc6, hf6⟩ := bcell hb6
    have hl6 : w5.heap.size ≤ w6.heap.size := by have := hb6.size; (try simp at this); omega
    have hz6_2 : w2.heap.size < w6.heap.size := by omega
    have hz6_3 : w3.heap.size < w6.heap.size := by omega
    have hz6_4 : w4.heap.size < w6.heap.size := by omega
    go_wp2
    go_ret
    exact ⟨rfl, by repeat (first | (with_reducible exact HB6) | (with_reducible refine Below.alloc ?_ (by have := HB6.size; simp; try omega) _))⟩
  | false =>
  cases hb : (subF s).2.2.2 with
  | true =>
    have HSb := Lib.hid (sub_back hb)
    have hc : (tupF s).2 = false := sub_tup hb
    go_enter Try.func10, Try.ntmps10
    go_wp2_with fail
    refine (awake_calls _).mono ?_
    rintro e w1 ⟨rfl, hb1⟩
    have HB1 : Below w.heap.size w w1 := hb1
    go_wp2_with fail
    refine (Object_calls _ _ hs).mono ?_
    rintro e w2 ⟨rfl, hb2⟩
    have HB2 : Below w.heap.size w w2 := keepB HB1 hb2
    go_wp2_with fail
    refine (Subject_calls _ _ hs).mono ?_
    rintro e w3 ⟨rfl, hb3⟩
    have HB3 : Below w.heap.size w w3 := below_then (HB2.alloc HB2.size _) (by have := HB2.size; simp; omega) hb3
    obtain ⟨hc3, hf3⟩ := bcell hb3
    have hl3 : w2.heap.size < w3.heap.size := by have := hb3.size; (try simp at this); omega
    go_wp2_with fail
    refine (Tuple_calls _ _ hs).mono ?_
    rintro e w4 ⟨rfl, hb4⟩
    have HB4 : Below w.heap.size w w4 := below_then (HB3.alloc HB3.size _) (by have := HB3.size; simp; omega) hb4
    obtain ⟨hc4, hf4⟩ := bcell hb4
    have hl4 : w3.heap.size < w4.heap.size := by have := hb4.size; (try simp at this); omega
    have hz4_2 : w2.heap.size < w4.heap.size := by omega
    have hy4_2 : w2.heap.size < w3.heap.size + 1 := by omega
    go_wp2_with fail
    refine (ShowSubject_calls _ _ _ _ (by omega) (by omega) (by omega)).mono ?_
    rintro e w5 ⟨rfl, hb5⟩
    rw [HSb.out]
    have HB5 : Below w.heap.size w w5 := below_then (HB4.alloc HB4.size _) (by have := HB4.size; simp; omega) hb5
    obtain ⟨hc5, hf5⟩ := bcell hb5
    have hl5 : w4.heap.size < w5.heap.size := by have := hb5.size; (try simp at this); omega
    have hz5_2 : w2.heap.size < w5.heap.size := by omega
    have hy5_2 : w2.heap.size < w4.heap.size + 1 := by omega
    have hz5_3 : w3.heap.size < w5.heap.size := by omega
    have hy5_3 : w3.heap.size < w4.heap.size + 1 := by omega
    go_wp2
    go_ret
    exact ⟨rfl, by repeat (first | (with_reducible exact HB5) | (with_reducible refine Below.alloc ?_ (by have := HB5.size; simp; try omega) _))⟩
  | false =>
  cases hc : (tupF s).2 with
  | true =>
    have HTb := Lib.hid (tup_back hc)
    go_enter Try.func10, Try.ntmps10
    go_wp2_with fail
    refine (awake_calls _).mono ?_
    rintro e w1 ⟨rfl, hb1⟩
    have HB1 : Below w.heap.size w w1 := hb1
    go_wp2_with fail
    refine (Object_calls _ _ hs).mono ?_
    rintro e w2 ⟨rfl, hb2⟩
    have HB2 : Below w.heap.size w w2 := keepB HB1 hb2
    go_wp2_with fail
    refine (Subject_calls _ _ hs).mono ?_
    rintro e w3 ⟨rfl, hb3⟩
    have HB3 : Below w.heap.size w w3 := below_then (HB2.alloc HB2.size _) (by have := HB2.size; simp; omega) hb3
    obtain ⟨hc3, hf3⟩ := bcell hb3
    have hl3 : w2.heap.size < w3.heap.size := by have := hb3.size; (try simp at this); omega
    go_wp2_with fail
    refine (Tuple_calls _ _ hs).mono ?_
    rintro e w4 ⟨rfl, hb4⟩
    have HB4 : Below w.heap.size w w4 := below_then (HB3.alloc HB3.size _) (by have := HB3.size; simp; omega) hb4
    obtain ⟨hc4, hf4⟩ := bcell hb4
    have hl4 : w3.heap.size < w4.heap.size := by have := hb4.size; (try simp at this); omega
    have hz4_2 : w2.heap.size < w4.heap.size := by omega
    have hy4_2 : w2.heap.size < w3.heap.size + 1 := by omega
    go_wp2_with fail
    refine (ShowTuple_calls (tupF s).1 _ (by omega) (by omega) (by omega) (by omega) (by omega) (by omega)).mono ?_
    rintro e w5 ⟨rfl, hb5⟩
    rw [HTb.out]
    have HB5 : Below w.heap.size w w5 := below_then (HB4.alloc HB4.size _) (by have := HB4.size; simp; omega) hb5
    obtain ⟨hc5, hf5⟩ := bcell hb5
    have hl5 : w4.heap.size < w5.heap.size := by have := hb5.size; (try simp at this); omega
    have hz5_2 : w2.heap.size < w5.heap.size := by omega
    have hy5_2 : w2.heap.size < w4.heap.size + 1 := by omega
    have hz5_3 : w3.heap.size < w5.heap.size := by omega
    have hy5_3 : w3.heap.size < w4.heap.size + 1 := by omega
    go_wp2
    go_ret
    exact ⟨rfl, by repeat (first | (with_reducible exact HB5) | (with_reducible refine Below.alloc ?_ (by have := HB5.size; simp; try omega) _))⟩
  | false =>
    go_enter Try.func10, Try.ntmps10
    go_wp2_with fail
    refine (awake_calls _).mono ?_
    rintro e w1 ⟨rfl, hb1⟩
    have HB1 : Below w.heap.size w w1 := hb1
    go_wp2_with fail
    refine (Object_calls _ _ hs).mono ?_
    rintro e w2 ⟨rfl, hb2⟩
    have HB2 : Below w.heap.size w w2 := keepB HB1 hb2
    go_wp2_with fail
    refine (Subject_calls _ _ hs).mono ?_
    rintro e w3 ⟨rfl, hb3⟩
    have HB3 : Below w.heap.size w w3 := below_then (HB2.alloc HB2.size _) (by have := HB2.size; simp; omega) hb3
    obtain ⟨hc3, hf3⟩ := bcell hb3
    have hl3 : w2.heap.size < w3.heap.size := by have := hb3.size; (try simp at this); omega
    go_wp2_with fail
    refine (Tuple_calls _ _ hs).mono ?_
    rintro e w4 ⟨rfl, hb4⟩
    have HB4 : Below w.heap.size w w4 := below_then (HB3.alloc HB3.size _) (by have := HB3.size; simp; omega) hb4
    obtain ⟨hc4, hf4⟩ := bcell hb4
    have hl4 : w3.heap.size < w4.heap.size := by have := hb4.size; (try simp at this); omega
    have hz4_2 : w2.heap.size < w4.heap.size := by omega
    have hy4_2 : w2.heap.size < w3.heap.size + 1 := by omega
    go_wp2
    go_ret
    exact ⟨rfl, by repeat (first | (with_reducible exact HB4) | (with_reducible refine Below.alloc ?_ (by have := HB4.size; simp; try omega) _))⟩
theorem showT_size (x : Tup) : (showT x).size ≤ 117 := by
  have := showO_size x.t x.i
  have := showS_size x.st x.si x.sr
  rw [showT_is]
  split
  · exact Nat.zero_le _
  · split
    · exact Nat.zero_le _
    · split
      · rename_i h
        have := nameB_size h
        rw [ByteArray.size_append, ByteArray.size_append, ByteArray.size_append, ByteArray.size_append, size1, size1]; omega
      · exact Nat.zero_le _
set_option maxHeartbeats 16000000 in
set_option maxRecDepth 100000 in
theorem NamesShows_calls (x : Tup) (w : World) (h1 : x.t.size ≤ 9223372036854775807) (h2 : x.i.size ≤ 9223372036854775807) (h3 : x.r.size ≤ 9223372036854775807) (h4 : x.st.size ≤ 9223372036854775807) (h5 : x.si.size ≤ 9223372036854775807) (h6 : x.sr.size ≤ 9223372036854775807) :
    Calls Try.prog 9 #[.agg #[.string x.t, .string x.i, .string x.r, .string x.st, .string x.si, .string x.sr]] w fun e w' => e = .returned (.bool true) ∧ Below w.heap.size w w' := by
  have zT := showT_size x
  have zS := showS_size x.st x.si x.sr
  have zO := showO_size x.t x.i
  have hT := tup_again x
  have hS := sub_again x.st x.si x.sr
  have hO := obj_again x.t x.i
  cases eT : (showT x).toList.isEmpty <;> cases eS : (showS x.st x.si x.sr).toList.isEmpty <;> cases eO : (showO x.t x.i).toList.isEmpty
  all_goals
    rw [eT] at hT
    rw [eS] at hS
    rw [eO] at hO
    simp only [Bool.false_eq_true, if_false, if_true] at hT hS hO
    have HT := Lib.hid hT
    have HS := Lib.hid hS
    have HO := Lib.hid hO
    clear hT hS hO
    go_enter Try.func9, Try.ntmps9
    go_wp2_with fail
    refine (awake_calls _).mono ?_
    rintro e w1 ⟨rfl, hb1⟩
    have HB1 : Below w.heap.size w w1 := below_then ((Below.refl _ _).alloc (Nat.le_refl _) _) (by simp) hb1
    obtain ⟨hc1, hf1⟩ := bcell hb1
    have hl1 : w.heap.size < w1.heap.size := by have := hb1.size; (try simp at this); omega
    go_wp2_with fail
    refine (ShowTuple_calls x _ (by omega) (by omega) (by omega) (by omega) (by omega) (by omega)).mono ?_
    rintro e w2 ⟨rfl, hb2⟩
    have HB2 : Below w.heap.size w w2 := keepB HB1 hb2
    obtain ⟨hc2, hf2⟩ := bcell hb2
    have hl2 : w1.heap.size ≤ w2.heap.size := by have := hb2.size; (try simp at this); omega
    have hz2_0 : w.heap.size < w2.heap.size := by omega
    go_wp2_with fail
    refine (ShowSubject_calls x.st x.si x.sr _ (by omega) (by omega) (by omega)).mono ?_
    rintro e w3 ⟨rfl, hb3⟩
    have HB3 : Below w.heap.size w w3 := keepB HB2 hb3
    obtain ⟨hc3, hf3⟩ := bcell hb3
    have hl3 : w2.heap.size ≤ w3.heap.size := by have := hb3.size; (try simp at this); omega
    have hz3_0 : w.heap.size < w3.heap.size := by omega
    go_wp2_with fail
    refine (ShowObject_calls x.t x.i _ (by omega) (by omega)).mono ?_
    rintro e w4 ⟨rfl, hb4⟩
    have HB4 : Below w.heap.size w w4 := keepB HB3 hb4
    obtain ⟨hc4, hf4⟩ := bcell hb4
    have hl4 : w3.heap.size ≤ w4.heap.size := by have := hb4.size; (try simp at this); omega
    have hz4_0 : w.heap.size < w4.heap.size := by omega
    go_wp2_with fail
    refine (refShowTuple_calls x _ (by omega) (by omega) (by omega) (by omega) (by omega) (by omega)).mono ?_
    rintro e w5 ⟨rfl, hb5⟩
    have HB5 : Below w.heap.size w w5 := keepB HB4 hb5
    obtain ⟨hc5, hf5⟩ := bcell hb5
    have hl5 : w4.heap.size ≤ w5.heap.size := by have := hb5.size; (try simp at this); omega
    have hz5_0 : w.heap.size < w5.heap.size := by omega
    go_wp2_with fail
    refine (refShowSubject_calls x.st x.si x.sr _ (by omega) (by omega) (by omega)).mono ?_
    rintro e w6 ⟨rfl, hb6⟩
    have HB6 : Below w.heap.size w w6 := keepB HB5 hb6
    obtain ⟨hc6, hf6⟩ := bcell hb6
    have hl6 : w5.heap.size ≤ w6.heap.size := by have := hb6.size; (try simp at this); omega
    have hz6_0 : w.heap.size < w6.heap.size := by omega
    go_wp2_with fail
    refine (refShowObject_calls x.t x.i _ (by omega) (by omega)).mono ?_
    rintro e w7 ⟨rfl, hb7⟩
    have HB7 : Below w.heap.size w w7 := keepB HB6 hb7
    obtain ⟨hc7, hf7⟩ := bcell hb7
    have hl7 : w6.heap.size ≤ w7.heap.size := by have := hb7.size; (try simp at this); omega
    have hz7_0 : w.heap.size < w7.heap.size := by omega
    go_wp2_with fail
    refine (Tuple_calls _ _ (by omega)).mono ?_
    rintro e w8 ⟨rfl, hb8⟩
    rw [HT.out]
    have HB8 : Below w.heap.size w w8 := keepB HB7 hb8
    obtain ⟨hc8, hf8⟩ := bcell hb8
    have hl8 : w7.heap.size ≤ w8.heap.size := by have := hb8.size; (try simp at this); omega
    have hz8_0 : w.heap.size < w8.heap.size := by omega
    go_wp2_with fail
    refine (Subject_calls _ _ (by omega)).mono ?_
    rintro e w9 ⟨rfl, hb9⟩
    rw [HS.out]
    have HB9 : Below w.heap.size w w9 := below_then (HB8.alloc HB8.size _) (by have := HB8.size; simp; omega) hb9
    obtain ⟨hc9, hf9⟩ := bcell hb9
    have hl9 : w8.heap.size < w9.heap.size := by have := hb9.size; (try simp at this); omega
    have hz9_0 : w.heap.size < w9.heap.size := by omega
    have hy9_0 : w.heap.size < w8.heap.size + 1 := by omega
    go_wp2_with fail
    refine (Object_calls _ _ (by omega)).mono ?_
    rintro e w10 ⟨rfl, hb10⟩
    rw [HO.out]
    have HB10 : Below w.heap.size w w10 := below_then (HB9.alloc HB9.size _) (by have := HB9.size; simp; omega) hb10
    obtain ⟨hc10, hf10⟩ := bcell hb10
    have hl10 : w9.heap.size < w10.heap.size := by have := hb10.size; (try simp at this); omega
    have hz10_0 : w.heap.size < w10.heap.size := by omega
    have hy10_0 : w.heap.size < w9.heap.size + 1 := by omega
    have hz10_8 : w8.heap.size < w10.heap.size := by omega
    have hy10_8 : w8.heap.size < w9.heap.size + 1 := by omega
    go_wp2
    go_ret
    exact ⟨rfl, by repeat (first | (with_reducible exact HB10) | (with_reducible refine Below.alloc ?_ (by have := HB10.size; simp; try omega) _))⟩
end Go.Proofs.Ytfdhjnbmmckknaa.Nm

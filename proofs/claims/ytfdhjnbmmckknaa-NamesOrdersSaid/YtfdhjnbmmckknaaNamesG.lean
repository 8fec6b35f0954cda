/-
  The chapter's examples ('awake' of the layer's statements) hold.
-/
import Derived.Test.YtfdhjnbmmckknaaNamesF
namespace Go.Proofs.Ytfdhjnbmmckknaa.Nm
open Go.RowKit Go.Proofs.Ytfdhjnbmmckknaa.B Go.Proofs.Ytfdhjnbmmckknaa.S10
set_option linter.unusedVariables false
set_option linter.unusedSimpArgs false

theorem aw1 : tupF ⟨#[100, 111, 99, 58, 49, 35, 118, 105, 101, 119, 101, 114, 64, 103, 114, 111, 117, 112, 58, 101, 110, 103, 35, 109, 101, 109, 98, 101, 114]⟩ = (⟨⟨#[100, 111, 99]⟩, ⟨#[49]⟩, ⟨#[118, 105, 101, 119, 101, 114]⟩, ⟨#[103, 114, 111, 117, 112]⟩, ⟨#[101, 110, 103]⟩, ⟨#[109, 101, 109, 98, 101, 114]⟩⟩, true) := by decide +kernel
theorem aw2 : tupF ⟨#[100, 111, 99, 58, 49, 35, 64, 117, 115, 101, 114, 58, 97]⟩ = (noTup, false) := by decide +kernel
theorem aw3 : objF ⟨#[68, 111, 99, 58, 49]⟩ = (eps, eps, false) := by decide +kernel
theorem aw4 : showT ⟨⟨#[100, 111, 99]⟩, ⟨#[49]⟩, ⟨#[118, 105, 101, 119, 101, 114]⟩, ⟨#[103, 114, 111, 117, 112]⟩, ⟨#[101, 110, 103]⟩, ⟨#[109, 101, 109, 98, 101, 114]⟩⟩ = ⟨#[100, 111, 99, 58, 49, 35, 118, 105, 101, 119, 101, 114, 64, 103, 114, 111, 117, 112, 58, 101, 110, 103, 35, 109, 101, 109, 98, 101, 114]⟩ := by decide +kernel
theorem aw5 : nameB ⟨#[97]⟩ = true := by decide +kernel
theorem aw6 : nameB ⟨#[116, 121, 112, 101]⟩ = false := by decide +kernel
set_option maxHeartbeats 4000000 in
set_option maxRecDepth 100000 in
theorem awake_calls (w : World) :
    Calls Try.prog 22 #[] w fun e w' => e = .returned (.bool true) ∧ Below w.heap.size w w' := by
  go_enter Try.func22, Try.ntmps22
  go_wp2_with fail
  refine (Tuple_calls _ _ (by decide +kernel)).mono ?_
  rintro e w1 ⟨rfl, hb1⟩
  rw [aw1]
  go_wp2_with fail
  refine (Tuple_calls _ _ (by decide +kernel)).mono ?_
  rintro e w2 ⟨rfl, hb2⟩
  rw [aw2]
  have HB2 : Below w.heap.size w w2 := below_then (hb1.alloc hb1.size _) (by have := hb1.size; simp; omega) hb2
  obtain ⟨hc2, hf2⟩ := bcell hb2
  have hz2 : w1.heap.size < w2.heap.size := by have := hb2.size; simp at this; omega
  go_wp2_with fail
  refine (Object_calls _ _ (by decide +kernel)).mono ?_
  rintro e w3 ⟨rfl, hb3⟩
  rw [aw3]
  have HB3 : Below w.heap.size w w3 := below_then (HB2.alloc HB2.size _) (by have := HB2.size; simp; omega) hb3
  obtain ⟨hc3, hf3⟩ := bcell hb3
  have hz3 : w2.heap.size < w3.heap.size := by have := hb3.size; simp at this; omega
  have hz4 : w1.heap.size < w3.heap.size := by omega
  have hz5 : w1.heap.size < w2.heap.size + 1 := by omega
  go_wp2_with fail
  refine (ShowTuple_calls ⟨_, _, _, _, _, _⟩ _ (by decide +kernel) (by decide +kernel) (by decide +kernel) (by decide +kernel) (by decide +kernel) (by decide +kernel)).mono ?_
  rintro e w4 ⟨rfl, hb4⟩
  rw [aw4]
  have HB4 : Below w.heap.size w w4 := below_then (HB3.alloc HB3.size _) (by have := HB3.size; simp; omega) hb4
  go_wp2_with (go_at_call 23; refine (Name_calls _ _ (by decide +kernel)).mono ?_; rintro e w' ⟨rfl, rfl⟩; (first | rw [aw5] | rw [aw6]))
  go_ret
  exact ⟨rfl, HB4⟩
set_option maxHeartbeats 4000000 in
theorem NamesAre_calls (s : ByteArray) (w : World) (hs : s.size ≤ 9223372036854775807) :
    Calls Try.prog 7 #[.string s] w fun e w' => e = .returned (.bool true) ∧ Below w.heap.size w w' := by
  go_enter Try.func7, Try.ntmps7
  go_wp2_with (first | (go_at_call 22; refine (awake_calls _).mono ?_; rintro e w1 ⟨rfl, hb1⟩) | (go_at_call 23; refine (Name_calls _ _ hs).mono ?_; rintro e w' ⟨rfl, rfl⟩) | (go_at_call 25; refine (ID_calls _ _ hs).mono ?_; rintro e w' ⟨rfl, rfl⟩) | (go_at_call 24; refine (refName_calls _ _ hs).mono ?_; rintro e w' ⟨rfl, rfl⟩) | (go_at_call 26; refine (refID_calls _ _ hs).mono ?_; rintro e w' ⟨rfl, rfl⟩))
  go_ret
  exact ⟨rfl, hb1⟩
set_option maxHeartbeats 4000000 in
set_option maxRecDepth 100000 in
theorem NamesReads_calls (s : ByteArray) (w : World) (hs : s.size ≤ 9223372036854775807) :
    Calls Try.prog 8 #[.string s] w fun e w' => e = .returned (.bool true) ∧ Below w.heap.size w w' := by
  go_enter Try.func8, Try.ntmps8
  go_wp2_with fail
  refine (awake_calls _).mono ?_
  rintro e w1 ⟨rfl, hb1⟩
  have HB1 : Below w.heap.size w w1 := hb1
  go_wp2_with fail
  refine (Object_calls _ _ hs).mono ?_
  rintro e w2 ⟨rfl, hb2⟩
  have HB2 : Below w.heap.size w w2 := keepB HB1 hb2
  go_wp2_with fail
  refine (refObject_calls _ _ hs).mono ?_
  rintro e w3 ⟨rfl, hb3⟩
  have HB3 : Below w.heap.size w w3 := below_then (HB2.alloc HB2.size _) (by have := HB2.size; simp; omega) hb3
  obtain ⟨hc3, hf3⟩ := bcell hb3
  have hl3 : w2.heap.size < w3.heap.size := by have := hb3.size; simp at this; omega
  have hz3_2 : w2.heap.size < w3.heap.size := by omega
  go_wp2_with fail
  refine (Subject_calls _ _ hs).mono ?_
  rintro e w4 ⟨rfl, hb4⟩
  have HB4 : Below w.heap.size w w4 := below_then (HB3.alloc HB3.size _) (by have := HB3.size; simp; omega) hb4
  obtain ⟨hc4, hf4⟩ := bcell hb4
  have hl4 : w3.heap.size < w4.heap.size := by have := hb4.size; simp at this; omega
  have hz4_2 : w2.heap.size < w4.heap.size := by omega
  have hy4_2 : w2.heap.size < w3.heap.size + 1 := by omega
  have hz4_3 : w3.heap.size < w4.heap.size := by omega
  go_wp2_with fail
  refine (refSubject_calls _ _ hs).mono ?_
  rintro e w5 ⟨rfl, hb5⟩
  have HB5 : Below w.heap.size w w5 := below_then (HB4.alloc HB4.size _) (by have := HB4.size; simp; omega) hb5
  obtain ⟨hc5, hf5⟩ := bcell hb5
  have hl5 : w4.heap.size < w5.heap.size := by have := hb5.size; simp at this; omega
  have hz5_2 : w2.heap.size < w5.heap.size := by omega
  have hy5_2 : w2.heap.size < w4.heap.size + 1 := by omega
  have hz5_3 : w3.heap.size < w5.heap.size := by omega
  have hy5_3 : w3.heap.size < w4.heap.size + 1 := by omega
  have hz5_4 : w4.heap.size < w5.heap.size := by omega
  go_wp2_with fail
  refine (Tuple_calls _ _ hs).mono ?_
  rintro e w6 ⟨rfl, hb6⟩
  have HB6 : Below w.heap.size w w6 := below_then (HB5.alloc HB5.size _) (by have := HB5.size; simp; omega) hb6
  obtain ⟨hc6, hf6⟩ := bcell hb6
  have hl6 : w5.heap.size < w6.heap.size := by have := hb6.size; simp at this; omega
  have hz6_2 : w2.heap.size < w6.heap.size := by omega
  have hy6_2 : w2.heap.size < w5.heap.size + 1 := by omega
  have hz6_3 : w3.heap.size < w6.heap.size := by omega
  have hy6_3 : w3.heap.size < w5.heap.size + 1 := by omega
  have hz6_4 : w4.heap.size < w6.heap.size := by omega
  have hy6_4 : w4.heap.size < w5.heap.size + 1 := by omega
  have hz6_5 : w5.heap.size < w6.heap.size := by omega
  go_wp2_with fail
  refine (refTuple_calls _ _ hs).mono ?_
  rintro e w7 ⟨rfl, hb7⟩
  have HB7 : Below w.heap.size w w7 := below_then (HB6.alloc HB6.size _) (by have := HB6.size; simp; omega) hb7
  obtain ⟨hc7, hf7⟩ := bcell hb7
  have hl7 : w6.heap.size < w7.heap.size := by have := hb7.size; simp at this; omega
  have hz7_2 : w2.heap.size < w7.heap.size := by omega
  have hy7_2 : w2.heap.size < w6.heap.size + 1 := by omega
  have hz7_3 : w3.heap.size < w7.heap.size := by omega
  have hy7_3 : w3.heap.size < w6.heap.size + 1 := by omega
  have hz7_4 : w4.heap.size < w7.heap.size := by omega
  have hy7_4 : w4.heap.size < w6.heap.size + 1 := by omega
  have hz7_5 : w5.heap.size < w7.heap.size := by omega
  have hy7_5 : w5.heap.size < w6.heap.size + 1 := by omega
  have hz7_6 : w6.heap.size < w7.heap.size := by omega
  go_wp2
  go_ret
  exact ⟨rfl, by repeat (first | (with_reducible exact HB7) | (with_reducible refine Below.alloc ?_ (by have := HB7.size; simp; try omega) _))⟩
end Go.Proofs.Ytfdhjnbmmckknaa.Nm

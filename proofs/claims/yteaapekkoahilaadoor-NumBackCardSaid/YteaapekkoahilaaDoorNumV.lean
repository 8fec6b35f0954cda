/-
  The law NumShows, walked.
-/
import Derived.Test.YteaapekkoahilaaDoorNumU
namespace Go.Proofs.YteaapekkoahilaaDoor.Nu
open Go.RowKit Go.Proofs.YteaapekkoahilaaDoor.B Go.Proofs.YteaapekkoahilaaDoor.S01
set_option linter.unusedVariables false
set_option linter.unusedSimpArgs false

theorem refShow_calls (n : Int) (h0 : -9223372036854775808 ≤ n) (h1 : n ≤ 9223372036854775807) (w : World) :
    Calls Tryd.prog 29 #[.int .i64 n] w fun e w' => e = .returned (.string ⟨(Lib.itoa n).toArray⟩) ∧ Below w.heap.size w w' := by
  by_cases hz : n = 0
  · subst hz
    have e : Lib.itoa 0 = [48] := by rw [Lib.itoa, if_neg (by decide), Lib.decDigits, dif_pos (by decide)]; rfl
    rw [e]
    clear e
    go_enter Tryd.func29, Tryd.ntmps29
    go_wp2
    go_ret
    exact ⟨rfl, Below.refl _ _⟩
  · by_cases hp : 0 < n
    · obtain ⟨N, rfl⟩ : ∃ N : Nat, n = (N : Int) := ⟨n.toNat, by omega⟩
      exact refShow_pos N (by omega) (by omega) w
    · obtain ⟨N, rfl⟩ : ∃ N : Nat, n = -(N : Int) := ⟨(-n).toNat, by omega⟩
      exact refShow_neg N (by omega) (by omega) w
theorem Parse_out (s : ByteArray) (w : World) (hs : s.size ≤ 281474976710656) (ht : Tab w) (he : Errs w) :
    Calls Tryd.prog 26 #[.string s] w fun e w' => e = .returned (outF (parseF s.data.toList)) ∧ Below w.heap.size w w' :=
  (Parse_calls s w hs ht he).mono (by
    rintro e w' ⟨rfl, hb⟩
    refine ⟨?_, hb⟩
    rw [parse_same]
    cases parseF s.data.toList <;> rfl)
set_option maxRecDepth 100000 in
set_option maxHeartbeats 1000000 in
theorem NumShows_calls (n : Int) (h0 : -9223372036854775808 ≤ n) (h1 : n ≤ 9223372036854775807) (s : ByteArray) (hs : s.size ≤ 281474976710656) (w : World) (ht : Tab w) (he : Errs w) :
    Calls Tryd.prog 9 #[.int .i64 n, .string s] w (TruePost w) := by
  have HT := Lib.hid ht
  have HE := Lib.hid he
  clear ht he
  go_enter Tryd.func9, Tryd.ntmps9
  go_wp2_with fail
  refine (awake_calls w HT.out).mono ?_
  rintro e w1 ⟨rfl, hb1⟩
  go_wp2_with fail
  refine (Parse_out s w1 hs (HT.out.below hb1) (HE.out.below hb1)).mono ?_
  rintro e w2 ⟨rfl, hb2'⟩
  have hb2 := keepB hb1 hb2'
  unfold outF
  go_wp2_with fail
  refine (refParse_calls s w2).mono ?_
  rintro e w3 ⟨rfl, rfl⟩
  unfold outF
  generalize (((parseF s.data.toList).getD 0 : Nat) : Int) = q
  generalize (parseF s.data.toList).isSome = is
  go_wp2_with fail
  refine (Show_calls n h0 h1 w3 (HT.out.below hb2)).mono ?_
  rintro e w4 ⟨rfl, hb4'⟩
  have hb4 := keepB hb2 hb4'
  go_wp2_with fail
  refine (refShow_calls n h0 h1 w4).mono ?_
  rintro e w5 ⟨rfl, hb5'⟩
  have hb5 := keepB hb4 hb5'
  clear hb1 hb2 hb2' hb4 hb4' hb5'
  go_wp2
  go_ret
  exact ⟨rfl, hb5⟩
end Go.Proofs.YteaapekkoahilaaDoor.Nu

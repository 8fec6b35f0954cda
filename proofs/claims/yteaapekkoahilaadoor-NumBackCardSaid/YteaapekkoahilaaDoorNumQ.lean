/-
  Numbers as decimal text: num.Parse and the document's Parse, walked.
-/
import Derived.Test.YteaapekkoahilaaDoorNumP
namespace Go.Proofs.YteaapekkoahilaaDoor.Nu
open Go.RowKit Go.Proofs.YteaapekkoahilaaDoor.B Go.Proofs.YteaapekkoahilaaDoor.S01
set_option linter.unusedVariables false
set_option linter.unusedSimpArgs false

/-- The two errors of strconv hold something. -/
def Errs (w : World) : Prop := (∃ t p, w.cell? ⟨0, 0, none⟩ = some (.iface t p)) ∧ ∃ t p, w.cell? ⟨1, 0, none⟩ = some (.iface t p)
theorem Errs.below {w w' : World} (h : Errs w) (hb : Below w.heap.size w w') : Errs w' := by
  obtain ⟨⟨t, p, h1⟩, t', p', h2⟩ := h
  exact ⟨⟨t, p, keepC hb h1⟩, t', p', keepC hb h2⟩
theorem atoi_range {l : List UInt8} {v : Int} (h : Lib.atoiAll l = .ok v) : -9223372036854775808 ≤ v ∧ v ≤ 9223372036854775807 := by
  cases l with
  | nil => simp [Lib.atoiAll] at h
  | cons c r =>
    unfold Lib.atoiAll at h
    dsimp only at h
    split at h
    · cases h
    · cases h
    · split at h
      · cases h
      · split at h
        · cases h
        · rename_i h1 h2
          cases h
          split
          · rename_i hn
            have : ¬ (9223372036854775808 : Nat) < _ := fun hc => h2 ⟨hn, hc⟩
            omega
          · rename_i hn
            have : ¬ (9223372036854775808 : Nat) ≤ _ := fun hc => h1 ⟨hn, hc⟩
            omega
theorem str_ne {s : ByteArray} {l : List UInt8} (h : l ≠ s.data.toList) : ((⟨l.toArray⟩ : ByteArray).toList != s.toList) = true ∧ ((⟨l.toArray⟩ : ByteArray).toList == s.toList) = false := by
  have e : ((⟨l.toArray⟩ : ByteArray).toList == s.toList) = false := by
    rw [ByteArray.toList_eq, ByteArray.toList_eq]
    simpa using h
  exact ⟨by rw [bne, e]; rfl, e⟩
set_option maxRecDepth 100000 in
set_option maxHeartbeats 1000000 in
theorem Parse_calls (s : ByteArray) (w : World) (hs : s.size ≤ 281474976710656) (ht : Tab w) (he : Errs w) :
    Calls Tryd.prog 26 #[.string s] w fun e w' => e = .returned (.tuple #[.int .i64 ((parseP s.data.toList).getD 0), .bool (parseP s.data.toList).isSome]) ∧ Below w.heap.size w w' := by
  have hsz : s.data.toList.length = s.size := by rw [Array.length_toList]; rfl
  by_cases h18 : (s.size : Int) > 18
  · have e : parseP s.data.toList = none := by unfold parseP; rw [if_pos (by omega)]
    rw [e]
    clear e
    go_enter Tryd.func26, Tryd.ntmps26
    go_wp2
    go_ret2
    exact ⟨rfl, Below.refl _ _⟩
  · obtain ⟨⟨t0, p0, e0⟩, t1, p1, e1⟩ := he
    cases ha : Lib.atoiAll s.data.toList with
    | ok v =>
      obtain ⟨r0, r1⟩ := atoi_range ha
      have hp : parseP s.data.toList = if v < 0 ∨ Lib.itoa v ≠ s.data.toList then none else some v := by
        unfold parseP; rw [if_neg (by omega), ha]
      have HA := Lib.hid ha
      have HT := Lib.hid ht
      clear ha ht e0 e1 hsz
      by_cases hv : v < 0
      · rw [hp, if_pos (.inl hv)]
        clear hp
        go_enter Tryd.func26, Tryd.ntmps26
        go_wp2_with fail
        refine (Tryd.strconv_Atoi_ok s (by omega) v HA.out w).mono ?_
        rintro e w1 ⟨rfl, hw⟩
        have hb : Below w.heap.size w w1 := by
          rcases hw with rfl | ⟨t, rfl⟩
          · exact Below.refl _ _
          · exact Lib.bytesWorld_below _ _ _
        clear hw
        go_wp2
        go_ret2
        exact ⟨rfl, hb⟩
      · have hv' : ¬ v < 0 := hv
        obtain ⟨q, hq⟩ : ∃ q, parseP s.data.toList = q := ⟨_, rfl⟩
        rw [hq] at hp ⊢
        clear hq
        have HP := Lib.hid hp
        clear hp
        go_enter Tryd.func26, Tryd.ntmps26
        go_wp2_with fail
        refine (Tryd.strconv_Atoi_ok s (by omega) v HA.out w).mono ?_
        rintro e w1 ⟨rfl, hw⟩
        have hb : Below w.heap.size w w1 := by
          rcases hw with rfl | ⟨t, rfl⟩
          · exact Below.refl _ _
          · exact Lib.bytesWorld_below _ _ _
        clear hw
        go_wp2_with fail
        refine (Tryd.strconv_Itoa v r0 r1 w1 (HT.out.below hb)).mono ?_
        rintro e w2 ⟨rfl, k, os, hw⟩
        have hb1 : Below w1.heap.size w1 w2 := by rw [hw]; exact Lib.below_grow _ _ (Nat.le_refl _) k os
        have hb2 := keepB hb hb1
        clear hw hb1
        by_cases hi : Lib.itoa v = s.data.toList
        · have hst : (⟨(Lib.itoa v).toArray⟩ : ByteArray) = s := by rw [hi]
          have hq : q = some v := by
            rw [HP.out, if_neg]
            intro hc
            rcases hc with hc | hc
            · omega
            · exact hc hi
          subst hq
          rw [hst]
          clear hst HP hi
          have g1 : (s.toList != s.toList) = false := by simp
          go_wp2
          go_ret2
          exact ⟨rfl, hb2⟩
        · obtain ⟨g1, g2⟩ := str_ne hi
          have hq : q = none := by rw [HP.out, if_pos (.inr hi)]
          subst hq
          clear HP hi
          generalize (⟨(Lib.itoa v).toArray⟩ : ByteArray) = z at *
          go_wp2
          go_ret2
          exact ⟨rfl, hb2⟩
    | «syntax» =>
      have hp : parseP s.data.toList = none := by unfold parseP; rw [if_neg (by omega), ha]
      rw [hp]
      have HA := Lib.hid ha
      clear ha ht hsz hp
      go_enter Tryd.func26, Tryd.ntmps26
      go_wp2_with fail
      refine (Tryd.strconv_Atoi_syntax s hs HA.out _ w e0 (.inr ⟨_, _, rfl⟩)).mono ?_
      rintro e w1 ⟨M, rfl, hM, hh, hb⟩
      clear hh e0 e1
      go_wp2
      go_ret2
      exact ⟨rfl, hb⟩
    | range =>
      have hp : parseP s.data.toList = none := by unfold parseP; rw [if_neg (by omega), ha]
      rw [hp]
      have HA := Lib.hid ha
      clear ha ht hsz hp
      go_enter Tryd.func26, Tryd.ntmps26
      go_wp2_with fail
      refine (Tryd.strconv_Atoi_range s hs HA.out _ w e1 (.inr ⟨_, _, rfl⟩)).mono ?_
      rintro e w1 ⟨M, rfl, hM, hh, hb⟩
      clear hh e0 e1
      go_wp2
      go_ret2
      exact ⟨rfl, hb⟩
end Go.Proofs.YteaapekkoahilaaDoor.Nu

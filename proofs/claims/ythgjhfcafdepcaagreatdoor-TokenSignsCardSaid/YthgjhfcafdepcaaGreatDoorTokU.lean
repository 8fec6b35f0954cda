/-
  TokenVerifies, walked.
-/
import Derived.Test.YthgjhfcafdepcaaGreatDoorTokT
namespace Go.Proofs.YthgjhfcafdepcaaGreatDoor.Tk
open Go.RowKit Go.Proofs.YthgjhfcafdepcaaGreatDoor.B Go.Proofs.YthgjhfcafdepcaaGreatDoor.S10
open Go.Proofs.YthgjhfcafdepcaaGreatDoor.M
open Go.Proofs.YthgjhfcafdepcaaGreatDoor.C (QRow Turn)
open Go.Proofs.YthgjhfcafdepcaaGreatDoor.Sh (macF macF_len RdB)
open Go.Proofs.YthgjhfcafdepcaaGreatDoor.S01 (hexF unhexF)
set_option linter.unusedVariables false
set_option linter.unusedSimpArgs false

set_option maxRecDepth 100000 in
set_option maxHeartbeats 4000000 in
theorem verifies_calls (s : Bs) (ks : List Ky) (A : Option Addr) (n c : Nat) (now : Int) (w : World) (hs : s.length ≤ 9223372036854775807) (h : KeysR w ks A n) (ht : Nu.Tab w) (he : Nu.Errs w) :
    Calls Tryz.prog 5 #[vs s, .slice A n c, .int .i64 now] w (BRet w true) := by
  have HT := Lib.hid ht
  have HE := Lib.hid he
  have S := Lib.hid h
  have hnl := h.2.1
  have hkl := h.1
  clear ht he h
  go_enter Tryz.func5, Tryz.ntmps5
  go_wp2_with fail
  refine (awake_calls w HT.out HE.out).mono ?_
  rintro e w1 ⟨rfl, hb1⟩
  have HB1 := Lib.hid hb1
  have HFW := Lib.hid (few_calls ks A n c w1 (keys_below S.out hb1))
  obtain ⟨fb, hfb⟩ : ∃ b, fewB ks = b := ⟨_, rfl⟩
  rw [hfb] at HFW
  have HFB := Lib.hid hfb
  clear hb1 hfb
  go_wp2_with fail
  refine HFW.out.mono ?_
  rintro e w2 ⟨rfl, hb2⟩
  have HB2 := Lib.hid (below_more HB1.out hb2)
  clear hb2
  cases fb with
  | false =>
    go_wp2
    go_ret
    exact ⟨rfl, HB2.out⟩
  | true =>
    by_cases hlong : 2000 < s.length
    · have hlong' : (2000 : Int) < (s.length : Int) := by omega
      go_wp2
      go_ret
      exact ⟨rfl, HB2.out⟩
    · have hlong' : ¬ (2000 : Int) < (s.length : Int) := by omega
      have HVF := Lib.hid (Verify_calls s (by omega) ks A n c now w2 (keys_below S.out HB2.out) (Few.of HFB.out) (Nu.Tab.below HT.out HB2.out) (Nu.Errs.below HE.out HB2.out))
      have HRV := Lib.hid (fun V (hb : Below w.heap.size w V) => refVerify_calls s (by omega) ks A n c now V (keys_below S.out hb) (few_of HFB.out).2)
      obtain ⟨⟨⟨tn, kk, ii, key, ex⟩, er⟩, hr⟩ : ∃ r, verF (readP s) ks now = r := ⟨_, rfl⟩
      rw [hr] at HVF HRV
      clear hr
      go_wp2_with fail
      refine HVF.out.mono ?_
      rintro e w3 ⟨rfl, hb3⟩
      have HB3 := Lib.hid (below_more HB2.out hb3)
      clear hb3
      obtain ⟨w4, hw4⟩ : ∃ w4, w3.alloc (.cells #[vs tn, vs kk, vs ii, vs key, .int .i64 ex] 26) = w4 := ⟨_, rfl⟩
      have HB4 := Lib.hid (show Below w.heap.size w w4 by rw [← hw4]; exact belAlloc HB3.out _)
      have HC4 := Lib.hid (show w4.heap[w3.heap.size]? = some (.cells #[vs tn, vs kk, vs ii, vs key, .int .i64 ex] 26 (0, 0)) by rw [← hw4]; exact heap_alloc_new w3 _)
      have hl4 : w3.heap.size < w4.heap.size := by rw [← hw4]; simp
      have HCW := Lib.hid (fun V (hb : Below w4.heap.size w4 V) => five_cells ((hb.block w3.heap.size hl4).trans HC4.out))
      rw [show clV ((⟨tn, kk, ii, key, ex⟩, er) : Cl × Nat).1 = .agg #[vs tn, vs kk, vs ii, vs key, .int .i64 ex] from rfl]
      go_wp2_with fail
      refine (HRV.out w4 HB4.out).mono ?_
      rintro e w5 ⟨rfl, hb5⟩
      have HB5 := Lib.hid (below_more HB4.out hb5)
      have hb56 : Below w5.heap.size w5 (w5.alloc (.cells #[vs tn, vs kk, vs ii, vs key, .int .i64 ex] 26)) := (Below.refl _ w5).alloc (Nat.le_refl _) _
      obtain ⟨p0, p1, p2, p3, p4, -⟩ := HCW.out _ (below_more hb5 hb56)
      obtain ⟨m0, m1, m2, m3, m4, -⟩ := five_cells (heap_alloc_new w5 (.cells #[vs tn, vs kk, vs ii, vs key, .int .i64 ex] 26))
      clear hb5 hb56
      rw [show clV ((⟨tn, kk, ii, key, ex⟩, er) : Cl × Nat).1 = .agg #[vs tn, vs kk, vs ii, vs key, .int .i64 ex] from rfl]
      go_wp2
      go_ret
      exact ⟨rfl, belAlloc HB5.out _⟩
end Go.Proofs.YthgjhfcafdepcaaGreatDoor.Tk

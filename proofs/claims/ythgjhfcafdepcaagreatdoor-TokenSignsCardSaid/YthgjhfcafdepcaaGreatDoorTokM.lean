/-
  TokenKeys, walked.
-/
import Derived.Test.YthgjhfcafdepcaaGreatDoorTokL
namespace Go.Proofs.YthgjhfcafdepcaaGreatDoor.Tk
open Go.RowKit Go.Proofs.YthgjhfcafdepcaaGreatDoor.B Go.Proofs.YthgjhfcafdepcaaGreatDoor.S10
open Go.Proofs.YthgjhfcafdepcaaGreatDoor.M
open Go.Proofs.YthgjhfcafdepcaaGreatDoor.C (QRow Turn)
open Go.Proofs.YthgjhfcafdepcaaGreatDoor.Sh (macF macF_len RdB)
open Go.Proofs.YthgjhfcafdepcaaGreatDoor.S01 (hexF unhexF)
set_option linter.unusedVariables false
set_option linter.unusedSimpArgs false

theorem find_app (n : Bs) (ks ms : List Ky) : findK (ks ++ ms) n = match findK ks n with | some k => some k | none => findK ms n := by
  unfold findK
  rw [List.find?_append]
  cases List.find? (fun k : Ky => k.name == n) ks <;> rfl
theorem ver_more (r : Option (Cl × Bs × Bs)) (ks ms : List Ky) (now : Int) : ((verF r ks now).2 = 14 ∧ (verF r (ks ++ ms) now).2 ≠ 3) ∨ ((verF r ks now).2 ≠ 14 ∧ verF r (ks ++ ms) now = verF r ks now) := by
  cases r with
  | none => exact .inr ⟨by show 3 ≠ 14; omega, rfl⟩
  | some r =>
    obtain ⟨c, t, g⟩ := r
    rw [ver_eq, ver_eq, find_app]
    cases hk : findK ks c.key with
    | some k =>
      simp only
      by_cases hr : k.rev = true
      · rw [if_pos hr]; exact .inl ⟨rfl, by show 14 ≠ 3; omega⟩
      · rw [if_neg hr]
        refine .inr ⟨?_, by first | trivial | rfl⟩
        split
        · show 15 ≠ 14; omega
        · split
          · show 16 ≠ 14; omega
          · show 0 ≠ 14; omega
    | none =>
      refine .inl ⟨rfl, ?_⟩
      simp only
      cases findK ms c.key with
      | none => show 14 ≠ 3; omega
      | some k =>
        simp only
        split
        · show 14 ≠ 3; omega
        · split
          · show 15 ≠ 3; omega
          · split
            · show 16 ≠ 3; omega
            · show 0 ≠ 3; omega
theorem kAt_app {ks ms : List Ky} {b : Nat} (h1 : ∀ j, (kAt ks j).bytes.length ≤ b) (h2 : ∀ j, (kAt ms j).bytes.length ≤ b) (j : Nat) : (kAt (ks ++ ms) j).bytes.length ≤ b := by
  by_cases h : j < ks.length
  · have : kAt (ks ++ ms) j = kAt ks j := by unfold kAt; rw [List.getD_eq_getElem?_getD, List.getD_eq_getElem?_getD, List.getElem?_append_left h]
    rw [this]; exact h1 j
  · have : kAt (ks ++ ms) j = kAt ms (j - ks.length) := by unfold kAt; rw [List.getD_eq_getElem?_getD, List.getD_eq_getElem?_getD, List.getElem?_append_right (by omega)]
    rw [this]; exact h2 _
set_option maxRecDepth 100000 in
set_option maxHeartbeats 8000000 in
theorem keys_calls (s : Bs) (ks ms : List Ky) (A : Option Addr) (n c : Nat) (B : Option Addr) (m d : Nat) (now : Int) (w : World) (hs : s.length ≤ 9223372036854775807) (h : KeysR w ks A n) (h2 : KeysR w ms B m) (ht : Nu.Tab w) (he : Nu.Errs w) :
    Calls Tryz.prog 8 #[vs s, .slice A n c, .slice B m d, .int .i64 now] w (BRet w true) := by
  have HT := Lib.hid ht
  have HE := Lib.hid he
  have S := Lib.hid h
  have S2 := Lib.hid h2
  have hnl := h.2.1
  have hkl := h.1
  have hml := h2.2.1
  have hkm := h2.1
  clear ht he h h2
  go_enter Tryz.func8, Tryz.ntmps8
  go_wp2_with fail
  refine (awake_calls w HT.out HE.out).mono ?_
  rintro e w1 ⟨rfl, hb1⟩
  have HB1 := Lib.hid hb1
  have HFW := Lib.hid (few_calls ks A n c w1 (keys_below S.out hb1))
  obtain ⟨fb, hfb⟩ : ∃ b, fewB ks = b := ⟨_, rfl⟩
  rw [hfb] at HFW
  have HFB := Lib.hid hfb
  obtain ⟨fm, hfm⟩ : ∃ b, fewB ms = b := ⟨_, rfl⟩
  have HFM := Lib.hid hfm
  clear hb1 hfb
  go_wp2_with fail
  refine HFW.out.mono ?_
  rintro e w2 ⟨rfl, hb2⟩
  have HB2 := Lib.hid (below_more HB1.out hb2)
  have HFW2 := Lib.hid (few_calls ms B m d w2 (keys_below S2.out HB2.out))
  rw [hfm] at HFW2
  clear hb2 hfm
  go_wp2_with fail
  refine HFW2.out.mono ?_
  rintro e w3 ⟨rfl, hb3⟩
  have HB3 := Lib.hid (below_more HB2.out hb3)
  clear hb3
  cases fb with
  | false =>
    go_wp2
    go_ret
    exact ⟨rfl, HB3.out⟩
  | true =>
    cases fm with
    | false =>
      go_wp2
      go_ret
      exact ⟨rfl, HB3.out⟩
    | true =>
      by_cases hlong : 2000 < s.length
      · have hlong' : (2000 : Int) < (s.length : Int) := by omega
        go_wp2
        go_ret
        exact ⟨rfl, HB3.out⟩
      · have hlong' : ¬ (2000 : Int) < (s.length : Int) := by omega
        have hf1 := few_of HFB.out
        have hf2 := few_of HFM.out
        have HVF := Lib.hid (Verify_calls s (by omega) ks A n c now w3 (keys_below S.out HB3.out) (Few.of HFB.out) (Nu.Tab.below HT.out HB3.out) (Nu.Errs.below HE.out HB3.out))
        have HMO := Lib.hid (ver_more (readP s) ks ms now)
        obtain ⟨r, hr⟩ : ∃ r, verF (readP s) ks now = r := ⟨_, rfl⟩
        obtain ⟨r2, hr2⟩ : ∃ r, verF (readP s) (ks ++ ms) now = r := ⟨_, rfl⟩
        rw [hr] at HVF
        rw [hr, hr2] at HMO
        have HR2 := Lib.hid hr2
        clear hr hr2
        obtain ⟨⟨tn, k, i, key, ex⟩, k1⟩ := r
        have HVF1 := Lib.hid (show Calls Tryz.prog 17 #[vs s, .slice A n c, .int .i64 now] w3 (fun e w' => e = .returned (.tuple #[clV ⟨tn, k, i, key, ex⟩, .int .i64 (k1 : Int)]) ∧ Below w3.heap.size w3 w') from HVF.out)
        go_wp2_with fail
        refine HVF1.out.mono ?_
        rintro e w4 ⟨rfl, hb4⟩
        have HB4 := Lib.hid (below_more HB3.out hb4)
        clear hb4 HVF1 HVF
        obtain ⟨w5, hw5⟩ : ∃ w5, w4.alloc (.cells #[vs tn, vs k, vs i, vs key, .int .i64 ex] 26) = w5 := ⟨_, rfl⟩
        have hl5 : w4.heap.size < w5.heap.size := by rw [← hw5]; simp
        have HB5 := Lib.hid (show Below w.heap.size w w5 by rw [← hw5]; exact belAlloc HB4.out _)
        have HC5 := Lib.hid (show w5.heap[w4.heap.size]? = some (.cells #[vs tn, vs k, vs i, vs key, .int .i64 ex] 26 (0, 0)) by rw [← hw5]; exact heap_alloc_new w4 _)
        obtain ⟨v6, w6, css6, hap6, hb6, hown6, ha6, hl6, hq6⟩ := append_keys (w0 := w5) (w := w5) (v := .slice none 0 0) (ks1 := []) (css1 := []) (c := c) (Below.refl _ _) (fun g hg => by cases hg) trivial (by simp) (QRow.nil _ _ _) (keys_below S.out HB5.out) (by simp; omega)
        rw [List.nil_append] at ha6 hq6
        obtain ⟨v7, w7, css7, hap7, hb7, hown7, ha7, hl7, hq7⟩ := append_keys (w0 := w5) (w := w6) (v := v6) (ks1 := ks) (css1 := css6) (c := d) hb6 hown6 ha6 hl6 hq6 (keys_below S2.out HB5.out) (by omega)
        obtain ⟨A6, c6, rfl⟩ := QRow.form hq6
        obtain ⟨A7, c7, rfl, hk7⟩ := own_keys hb7 ha7 hl7 hq7
        rw [hkl] at hap6 hap7
        have HAP6 := Lib.hid hap6
        have HAP7 := Lib.hid hap7
        have HB57 := Lib.hid hb7
        have HB7 := Lib.hid (below_more HB5.out hb7)
        have HVG := Lib.hid (Verify_calls s (by omega) (ks ++ ms) A7 _ c7 now w7 hk7 ⟨by simp; omega, fun j => Nat.le_trans (kAt_app hf1.2 hf2.2 j) (by omega)⟩ (Nu.Tab.below HT.out HB7.out) (Nu.Errs.below HE.out HB7.out))
        rw [HR2.out] at HVG
        obtain ⟨N, hN⟩ : ∃ N, (ks ++ ms).length = N := ⟨_, rfl⟩
        rw [hN] at HVG HAP7
        obtain ⟨⟨tn2, kk2, ii2, key2, ex2⟩, k2⟩ := r2
        have HVG2 := Lib.hid (show Calls Tryz.prog 17 #[vs s, .slice A7 N c7, .int .i64 now] w7 (fun e w' => e = .returned (.tuple #[clV ⟨tn2, kk2, ii2, key2, ex2⟩, .int .i64 (k2 : Int)]) ∧ Below w7.heap.size w7 w') from HVG.out)
        have HHC := Lib.hid (fun V (hb : Below w7.heap.size w7 V) => five_cells ((hb.block _ (Nat.lt_of_lt_of_le hl5 hb7.size)).trans ((hb7.block _ hl5).trans HC5.out)))
        clear hap6 hb6 hown6 ha6 hl6 hq6 hap7 hb7 hown7 ha7 hl7 hq7 hk7 hN HVG hf1 hf2
        go_wp2_with (at_builtin; first | refine wpList_append_run rfl _ _ 34 rfl _ _ _ rfl rfl HAP6.out ?_ | refine wpList_append_run rfl _ _ 34 rfl _ _ _ rfl rfl HAP7.out ?_)
        refine HVG2.out.mono ?_
        rintro e w8 ⟨rfl, hb8⟩
        have HB8 := Lib.hid (below_more HB7.out hb8)
        have HB78 := Lib.hid hb8
        clear hb8
        rcases HMO.out with ⟨h14, h3⟩ | ⟨h14, heq⟩
        · have h14' : k1 = 14 := h14
          have h3' : ((k2 : Int) != 3) = true := by rw [bne_iff_ne]; have h3 : k2 ≠ 3 := h3; omega
          subst h14'
          clear h14 h3
          go_wp2
          go_ret
          exact ⟨rfl, belAlloc HB8.out _⟩
        · have h14' : ¬ (k1 : Int) = 14 := by have h14 : k1 ≠ 14 := h14; omega
          simp only [Prod.mk.injEq, Cl.mk.injEq] at heq
          obtain ⟨⟨rfl, rfl, rfl, rfl, rfl⟩, rfl⟩ := heq
          have hc8 := HHC.out _ (belAlloc' HB78.out (.cells #[vs tn2, vs kk2, vs ii2, vs key2, .int .i64 ex2] 26))
          obtain ⟨p0, p1, p2, p3, p4, -⟩ := hc8
          obtain ⟨m0, m1, m2, m3, m4, -⟩ := five_cells (heap_alloc_new w8 (.cells #[vs tn2, vs kk2, vs ii2, vs key2, .int .i64 ex2] 26))
          clear h14
          go_wp2
          go_ret
          exact ⟨rfl, belAlloc HB8.out _⟩
end Go.Proofs.YthgjhfcafdepcaaGreatDoor.Tk

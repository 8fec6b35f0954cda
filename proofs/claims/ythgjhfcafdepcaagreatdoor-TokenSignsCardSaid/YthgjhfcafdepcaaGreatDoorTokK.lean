/-
  TokenAgain, walked.
-/
import Derived.Test.YthgjhfcafdepcaaGreatDoorTokJ
namespace Go.Proofs.YthgjhfcafdepcaaGreatDoor.Tk
open Go.RowKit Go.Proofs.YthgjhfcafdepcaaGreatDoor.B Go.Proofs.YthgjhfcafdepcaaGreatDoor.S10
open Go.Proofs.YthgjhfcafdepcaaGreatDoor.M
open Go.Proofs.YthgjhfcafdepcaaGreatDoor.C (QRow Turn)
open Go.Proofs.YthgjhfcafdepcaaGreatDoor.Sh (macF macF_len RdB)
open Go.Proofs.YthgjhfcafdepcaaGreatDoor.S01 (hexF unhexF)
set_option linter.unusedVariables false
set_option linter.unusedSimpArgs false

theorem find_some {n : Bs} {k : Ky} : ∀ {ks : List Ky}, findK ks n = some k → ∃ j, j < ks.length ∧ kAt ks j = k ∧ (kAt ks j).name = n ∧ ∀ i, i < j → ((kAt ks i).name == n) = false
  | [], h => by cases h
  | x :: ks, h => by
    by_cases hx : (x.name == n) = true
    · have : findK (x :: ks) n = some x := List.find?_cons_of_pos (p := fun k : Ky => k.name == n) hx
      rw [this] at h
      cases h
      exact ⟨0, by simp, rfl, (by show k.name = n; simpa using hx), fun i hi => by omega⟩
    · have : findK (x :: ks) n = findK ks n := List.find?_cons_of_neg (p := fun k : Ky => k.name == n) (by simpa using hx)
      rw [this] at h
      obtain ⟨j, h1, h2, h3, h4⟩ := find_some h
      refine ⟨j + 1, by simpa using h1, h2, h3, fun i hi => ?_⟩
      match i, hi with
      | 0, _ => show (x.name == n) = false; simpa using hx
      | i + 1, hi => exact h4 i (by omega)
theorem ver_cases (s : Bs) (ks : List Ky) (now : Int) : (∃ k : Nat, verF (readP s) ks now = (noC, k) ∧ (k = 3 ∨ k = 14 ∨ k = 15 ∨ k = 16)) ∨
    ∃ c t g k, readP s = some (c, t, g) ∧ findK ks c.key = some k ∧ k.rev = false ∧ macF k.bytes t = g ∧ now < c.ex ∧ verF (readP s) ks now = (c, 0) := by
  cases h : readP s with
  | none => exact .inl ⟨3, rfl, .inl rfl⟩
  | some r =>
    obtain ⟨c, t, g⟩ := r
    rw [ver_eq]
    cases hk : findK ks c.key with
    | none => exact .inl ⟨14, rfl, .inr (.inl rfl)⟩
    | some k =>
      simp only
      by_cases hr : k.rev = true
      · rw [if_pos hr]; exact .inl ⟨14, rfl, .inr (.inl rfl)⟩
      · rw [if_neg hr]
        by_cases hm : (macF k.bytes t == g) = false
        · rw [if_pos hm]; exact .inl ⟨15, rfl, .inr (.inr (.inl rfl))⟩
        · rw [if_neg hm]
          by_cases he : c.ex ≤ now
          · rw [if_pos he]; exact .inl ⟨16, rfl, .inr (.inr (.inr rfl))⟩
          · rw [if_neg he]
            exact .inr ⟨c, t, g, k, rfl, hk, by simpa using hr, by simpa using hm, by omega, rfl⟩
theorem read_back {s : Bs} {c : Cl} {t g : Bs} (h : readP s = some (c, t, g)) : okC c = true ∧ textF c = t ∧ s = t ++ 47 :: hexF g := by
  unfold readP at h
  split at h
  · cases h
  · rename_i hn
    obtain ⟨hs, hx⟩ := last_split (s := s) (fun h => hn (.inl h))
    generalize headT s = hd at *
    generalize tailT s = x at *
    unfold readR at h
    cases hu : unhexF x with
    | none => rw [hu] at h; cases h
    | some g' =>
      rw [hu] at h
      simp only at h
      split at h
      · rename_i hc
        simp only [Option.some.injEq, Prod.mk.injEq] at h
        obtain ⟨rfl, rfl, rfl⟩ := h
        obtain ⟨h5, ht, hcl, hne⟩ := text_head hc.1
        rw [hcl]
        exact ⟨text_ok (by rw [ht]; exact hne), ht, by rw [hex_unhex hu]; exact hs⟩
      · cases h
theorem okc_sz {c : Cl} (h : okC c = true) : Szc c := by
  have o := okc h
  have h1 := name_len o.tn
  have h2 := name_len o.k
  have h3 := id_len o.i
  have h4 := name_len o.key
  have h5 := o.e0
  have h6 := o.e1
  exact ⟨by omega, by omega, by omega, by omega, by omega, by omega⟩
theorem sign_back {s : Bs} {c : Cl} {t g b : Bs} (h : readP s = some (c, t, g)) (hm : macF b t = g) : signF b c = s := by
  obtain ⟨h1, h2, h3⟩ := read_back h
  have hne : textF c ≠ [] := by
    rw [text_is h1]
    unfold partsT
    simp [joi]
  unfold signF
  rw [if_neg (by simpa using hne), h2, hm, ← h3]
theorem below_drewN2 {B : Nat} {w W : World} (h : Below B w W) (n : Nat) : Below B w (W.drewN n) := ⟨h.os, h.tape, h.output, h.size, h.block⟩
set_option maxRecDepth 100000 in
set_option maxHeartbeats 4000000 in
theorem again_calls (s : Bs) (ks : List Ky) (A : Option Addr) (n c : Nat) (now : Int) (w : World) (hs : s.length ≤ 9223372036854775807) (h : KeysR w ks A n) (ht : Nu.Tab w) (he : Nu.Errs w) :
    Calls Tryz.prog 7 #[vs s, .slice A n c, .int .i64 now] w (BRet w true) := by
  have HT := Lib.hid ht
  have HE := Lib.hid he
  have S := Lib.hid h
  have hnl := h.2.1
  have hkl := h.1
  clear ht he h
  go_enter Tryz.func7, Tryz.ntmps7
  go_wp2_with fail
  refine (awake_calls w HT.out HE.out).mono ?_
  rintro e w1 ⟨rfl, hb1⟩
  have HB1 := Lib.hid hb1
  have HFW := Lib.hid (few_calls ks A n c w1 (keys_below S.out hb1))
  obtain ⟨fb, hfb⟩ : ∃ b, fewB ks = b := ⟨_, rfl⟩
  rw [hfb] at HFW
  have HFB := Lib.hid hfb
  clear hb1 hfb
  go_wp2_with fail
  refine HFW.out.mono ?_
  rintro e w2 ⟨rfl, hb2⟩
  have HB2 := Lib.hid (below_more HB1.out hb2)
  clear hb2
  cases fb with
  | false =>
    go_wp2
    go_ret
    exact ⟨rfl, HB2.out⟩
  | true =>
    by_cases hlong : 2000 < s.length
    · have hlong' : (2000 : Int) < (s.length : Int) := by omega
      go_wp2
      go_ret
      exact ⟨rfl, HB2.out⟩
    · have hlong' : ¬ (2000 : Int) < (s.length : Int) := by omega
      have HVF := Lib.hid (Verify_calls s (by omega) ks A n c now w2 (keys_below S.out HB2.out) (Few.of HFB.out) (Nu.Tab.below HT.out HB2.out) (Nu.Errs.below HE.out HB2.out))
      rcases ver_cases s ks now with ⟨k, hv, hk⟩ | ⟨cl, t, g, k, hr, hfk, hrev, hmac, hex, hv⟩
      · rw [hv] at HVF
        have HVF2 := Lib.hid (show Calls Tryz.prog 17 #[vs s, .slice A n c, .int .i64 now] w2 (fun e w' => e = .returned (.tuple #[.agg #[.string ⟨#[]⟩, .string ⟨#[]⟩, .string ⟨#[]⟩, .string ⟨#[]⟩, .int .i64 0], .int .i64 (k : Int)]) ∧ Below w2.heap.size w2 w') from HVF.out)
        have hk0 : ((k : Int) != 0) = true := by rw [bne_iff_ne]; omega
        clear HVF hv hk
        go_wp2_with fail
        refine HVF2.out.mono ?_
        rintro e w3 ⟨rfl, hb3⟩
        have HB3 := Lib.hid (below_more HB2.out hb3)
        clear hb3
        go_wp2
        go_ret
        exact ⟨rfl, belAlloc HB3.out _⟩
      · rw [hv] at HVF
        obtain ⟨hok, htx, -⟩ := read_back hr
        have HSZ := Lib.hid (okc_sz hok)
        have HSG := Lib.hid (sign_back hr hmac)
        obtain ⟨j, hj, hkj, hnm, hbf⟩ := find_some hfk
        have HKJ := Lib.hid hkj
        have HBF := Lib.hid hbf
        have HNM := Lib.hid hnm
        clear hv hok htx hr hmac hfk hkj hbf hnm
        have HVF2 := Lib.hid (show Calls Tryz.prog 17 #[vs s, .slice A n c, .int .i64 now] w2 (fun e w' => e = .returned (.tuple #[clV cl, .int .i64 0]) ∧ Below w2.heap.size w2 w') from HVF.out)
        clear HVF
        obtain ⟨tn, kk, ii, key, ex⟩ := cl
        go_wp2_with fail
        refine HVF2.out.mono ?_
        rintro e w3 ⟨rfl, hb3⟩
        have HB3 := Lib.hid (below_more HB2.out hb3)
        clear hb3
        obtain ⟨w4, hw4⟩ : ∃ w4, w3.alloc (.cells #[vs tn, vs kk, vs ii, vs key, .int .i64 ex] 26) = w4 := ⟨_, rfl⟩
        have HB4 := Lib.hid (show Below w.heap.size w w4 by rw [← hw4]; exact belAlloc HB3.out _)
        have HC4 := Lib.hid (show w4.heap[w3.heap.size]? = some (.cells #[vs tn, vs kk, vs ii, vs key, .int .i64 ex] 26 (0, 0)) by rw [← hw4]; exact heap_alloc_new w3 _)
        have hl4 : w3.heap.size < w4.heap.size := by rw [← hw4]; simp
        have HCW := Lib.hid (fun V (hb : Below w4.heap.size w4 V) => five_cells ((hb.block w3.heap.size hl4).trans HC4.out))
        have hexZ := hex
        go_wp2_with fail
        go_loopw [11] (fun v11 wr => ∃ i : Nat, i ≤ j ∧ v11 = .int .i64 i ∧ Hid (Below w4.heap.size w4 wr)) (fun v11 _ => n - (intOf v11).toNat)
        case atStart => exact ⟨0, Nat.zero_le _, rfl, Lib.hid (Below.refl _ _)⟩
        case round =>
          obtain ⟨i, hij, rfl, HBW⟩ := hrel
          have hin : i < n := by omega
          have hiz : (i : Int) < (n : Int) := by omega
          have hi0 : (0 : Int) ≤ (i : Int) := by omega
          obtain ⟨q0, q1, q2, q3, q4, -⟩ := HCW.out wr HBW.out
          obtain ⟨ad, p, B, m, d, rfl, hp, d0, d1, d2, hbl, hbd, hbr⟩ := key_cells (keys_below S.out (below_more HB4.out HBW.out)) i hin
          by_cases hlt : i < j
          · have hne := HBF.out i hlt
            have HLT := Lib.hid hlt
            obtain ⟨ki, hki⟩ : ∃ ki, (kAt ks i).name = ki := ⟨_, rfl⟩
            rw [hki] at d0 hne
            have hne' : (ki == key) = false := hne
            clear hne hki hlt hbl hbr d1 d2
            go_wp2_with fail
            go_quiet (fail)
            go_wp2
            exact ⟨⟨i + 1, by have := HLT.out; omega, by go_num, Lib.hid (below_drewN2 HBW.out _)⟩, by simp [intOf]; omega⟩
          · have hie : i = j := by omega
            subst hie
            rw [show (kAt ks i).name = key from HNM.out] at d0
            rw [HKJ.out] at d2 hbl hbr
            rw [hrev] at d2
            have HSGN := Lib.hid (fun V (hb : Below wr.heap.size wr V) => Sign_calls (l := k.bytes) ⟨tn, kk, ii, key, ex⟩ HSZ.out V (Nu.Tab.below HT.out (below_more (below_more HB4.out HBW.out) hb)) hbl hbd (by have := (few_of HFB.out).2 i; rw [HKJ.out, hbl] at this; omega) (hbr.below hb (fun _ _ _ => trivial) : RdB V (fun _ => True) B k.bytes))
            rw [HSG.out] at HSGN
            clear hlt hbl hbr
            have HKC := Lib.hid (fun V (hb : Below wr.heap.size wr V) => (show V.cell? ⟨p.block, p.off + 1, none⟩ = some (.slice B m d) ∧ V.cell? ⟨p.block, p.off + 2, none⟩ = some (.bool false) ∧ V.cell? ⟨w3.heap.size, 0, none⟩ = some (vs tn) ∧ V.cell? ⟨w3.heap.size, 1, none⟩ = some (vs kk) ∧ V.cell? ⟨w3.heap.size, 2, none⟩ = some (vs ii) ∧ V.cell? ⟨w3.heap.size, 3, none⟩ = some (vs key) ∧ V.cell? ⟨w3.heap.size, 4, none⟩ = some (.int .i64 ex) from
              ⟨keepC hb d1, keepC hb d2, keepC hb q0, keepC hb q1, keepC hb q2, keepC hb q3, keepC hb q4⟩))
            have HBW0 := Lib.hid (below_more HB4.out HBW.out)
            have HSGN := Lib.hid HSGN.out
            go_wp2_with fail
            go_quiet (fail)
            go_wp2_with fail
            generalize hW5 : World.drewN wr _ = w5
            have hb5 : Below wr.heap.size wr w5 := by rw [← hW5]; exact below_drewN2 (Below.refl _ _) _
            have HB5 := Lib.hid hb5
            have HBd := Lib.hid (show Below wr.heap.size wr w5.drew from below_drewN' hb5)
            clear hW5 hb5 d0 d1 d2 q0 q1 q2 q3 q4
            obtain ⟨d1, d2, q0, q1, q2, q3, q4⟩ := HKC.out w5 HB5.out
            go_region_held3 (fun V => V.cell? ⟨p.block, p.off + 1, none⟩ = some (.slice B m d) ∧ V.cell? ⟨p.block, p.off + 2, none⟩ = some (.bool false) ∧ V.cell? ⟨w3.heap.size, 0, none⟩ = some (vs tn) ∧ V.cell? ⟨w3.heap.size, 1, none⟩ = some (vs kk) ∧ V.cell? ⟨w3.heap.size, 2, none⟩ = some (vs ii) ∧ V.cell? ⟨w3.heap.size, 3, none⟩ = some (vs key) ∧ V.cell? ⟨w3.heap.size, 4, none⟩ = some (.int .i64 ex)) (go_keep)
              (first
              | ((with_reducible refine (HSGN.out _ HBd.out).mono ?_); rintro e' V ⟨rfl, hb⟩
                 have HBV := Lib.hid (below_more HBd.out hb)
                 obtain ⟨d1, d2, q0, q1, q2, q3, q4⟩ := HKC.out V HBV.out
                 clear hb))
            all_goals
              go_wp2
              go_ret
              exact ⟨rfl, below_more HBW0.out HBV.out⟩
end Go.Proofs.YthgjhfcafdepcaaGreatDoor.Tk

/-
  Tokens: the document's Verify.
-/
import Derived.Test.YthgjhfcafdepcaaGreatDoorTokS
namespace Go.Proofs.YthgjhfcafdepcaaGreatDoor.Tk
open Go.RowKit Go.Proofs.YthgjhfcafdepcaaGreatDoor.B Go.Proofs.YthgjhfcafdepcaaGreatDoor.S10
open Go.Proofs.YthgjhfcafdepcaaGreatDoor.M
open Go.Proofs.YthgjhfcafdepcaaGreatDoor.C (QRow Turn)
open Go.Proofs.YthgjhfcafdepcaaGreatDoor.Sh (macF macF_len RdB)
open Go.Proofs.YthgjhfcafdepcaaGreatDoor.S01 (hexF unhexF)
set_option linter.unusedVariables false
set_option linter.unusedSimpArgs false

set_option maxRecDepth 100000 in
set_option maxHeartbeats 8000000 in
theorem refVerify_calls (s : Bs) (hs : s.length ≤ 1000000) (ks : List Ky) (A : Option Addr) (n c : Nat) (now : Int) (w : World) (h : KeysR w ks A n) (hf : ∀ j, (kAt ks j).bytes.length ≤ 200) :
    Calls Tryz.prog 18 #[vs s, .slice A n c, .int .i64 now] w (VfRet w (verF (readP s) ks now)) := by
  have HK := Lib.hid h
  have HF := Lib.hid hf
  have hnl := h.2.1
  have hkl := h.1
  clear h hf
  obtain ⟨w0, hw0⟩ : ∃ w0, w.alloc (.cells (clC noC) 26) = w0 := ⟨_, rfl⟩
  have hs0 : w0.heap.size = w.heap.size + 1 := by rw [← hw0]; simp
  have HR0 := Lib.hid (show w0.heap[w.heap.size]? = some (.cells (clC noC) 26 (0, 0)) by rw [← hw0]; exact heap_alloc_new w _)
  have HB0 := Lib.hid (show Below w.heap.size w w0 by rw [← hw0]; exact (Below.refl _ w).alloc (Nat.le_refl _) _)
  have hw0' : w.alloc (.cells #[.string { data := #[] }, .string { data := #[] }, .string { data := #[] }, .string { data := #[] }, .int .i64 0] 26) = w0 := hw0
  clear hw0
  have HNR := Lib.hid (fun (V : World) (hb : Below w0.heap.size w0 V) => (hb.block w.heap.size (by omega)).trans HR0.out)
  have HNO := Lib.hid (fun (V : World) (hb : Below w0.heap.size w0 V) => five_cells (HNR.out V hb))
  have HBR := Lib.hid (Below.refl w0.heap.size w0)
  have HRD := Lib.hid (refRead_calls s hs w0)
  rw [← read_same s] at HRD
  go_enter Tryz.func18, Tryz.ntmps18
  go_wp2_with fail
  refine HRD.out.mono ?_
  rintro e' w1 ⟨hb1, hr⟩
  have HB1 := Lib.hid hb1
  clear hb1 HRD
  obtain ⟨r, hrr⟩ : ∃ r, readP s = r := ⟨_, rfl⟩
  rw [hrr] at hr
  have HRR := Lib.hid hrr
  clear hrr
  cases r with
  | none =>
    have hr' : e' = .returned (.tuple #[.agg #[.string ⟨#[]⟩, .string ⟨#[]⟩, .string ⟨#[]⟩, .string ⟨#[]⟩, .int .i64 0], .string ⟨#[]⟩, .slice none 0 0, .bool false]) := hr
    subst hr'
    clear hr
    have HP := Lib.hid (show verF (readP s) ks now = (noC, 3) by rw [HRR.out]; rfl)
    have HB2 := Lib.hid (HB1.out.alloc HB1.out.size (.cells #[.string ⟨#[]⟩, .string ⟨#[]⟩, .string ⟨#[]⟩, .string ⟨#[]⟩, .int .i64 0] 26))
    obtain ⟨r0, r1, r2, r3, r4, f0, f1, f2, f3, f4⟩ := HNO.out (w1.alloc (.cells #[.string ⟨#[]⟩, .string ⟨#[]⟩, .string ⟨#[]⟩, .string ⟨#[]⟩, .int .i64 0] 26)) HB2.out
    go_wp2_with fail
    have hh5 := set5 (HNR.out (w1.alloc (.cells #[.string ⟨#[]⟩, .string ⟨#[]⟩, .string ⟨#[]⟩, .string ⟨#[]⟩, .int .i64 0] 26)) HB2.out) (.string ⟨#[]⟩) (.string ⟨#[]⟩) (.string ⟨#[]⟩) (.string ⟨#[]⟩) (.int .i64 0)
    have hb5 := Sh.below_turn (below_more HB0.out HB2.out) (set5_turn (w1.alloc (.cells #[.string ⟨#[]⟩, .string ⟨#[]⟩, .string ⟨#[]⟩, .string ⟨#[]⟩, .int .i64 0] 26)) w.heap.size (.string ⟨#[]⟩) (.string ⟨#[]⟩) (.string ⟨#[]⟩) (.string ⟨#[]⟩) (.int .i64 0)) (Nat.le_refl _)
    generalize hW5 : ((((((w1.alloc (.cells #[.string ⟨#[]⟩, .string ⟨#[]⟩, .string ⟨#[]⟩, .string ⟨#[]⟩, .int .i64 0] 26)).setCell ⟨w.heap.size, 0, none⟩ (.string ⟨#[]⟩)).setCell ⟨w.heap.size, 1, none⟩ (.string ⟨#[]⟩)).setCell ⟨w.heap.size, 2, none⟩ (.string ⟨#[]⟩)).setCell ⟨w.heap.size, 3, none⟩ (.string ⟨#[]⟩)).setCell ⟨w.heap.size, 4, none⟩ (.int .i64 0)) = W5 at hh5 hb5 ⊢
    obtain ⟨m0, m1, m2, m3, m4, -⟩ := five_cells hh5
    exact bodyPost_ret (v := .tuple #[.agg #[.string ⟨#[]⟩, .string ⟨#[]⟩, .string ⟨#[]⟩, .string ⟨#[]⟩, .int .i64 0], .int .i64 3]) (by simp [results, Tryz.results18, go_sem, m0, m1, m2, m3, m4]) rfl (by rw [HP.out]; exact ⟨rfl, hb5⟩)
  | some r =>
    obtain ⟨cl, t, g⟩ := r
    simp only at hr
    obtain ⟨A8, cp, rfl, hg, hcp, hr8⟩ := hr
    have HR8 := Lib.hid hr8
    have HG := Lib.hid hg
    clear hr8 hg
    have hVF := show verF (readP s) ks now = (match findK ks cl.key with
      | none => (noC, 14)
      | some k => if k.rev = true then (noC, 14) else if (macF k.bytes t == g) = false then (noC, 15) else if cl.ex ≤ now then (noC, 16) else (cl, 0)) by rw [HRR.out]; rfl
    have HVF := Lib.hid hVF
    have htl : t.length ≤ 900000 := by
      have := readP_len HRR.out
      omega
    clear hVF
    obtain ⟨tn, kk, ii, key, ex⟩ := cl
    obtain ⟨w2, hw2⟩ : ∃ w2, w1.alloc (.cells #[vs tn, vs kk, vs ii, vs key, .int .i64 ex] 26) = w2 := ⟨_, rfl⟩
    have hb12 : Below w1.heap.size w1 w2 := by rw [← hw2]; exact (Below.refl _ w1).alloc (Nat.le_refl _) _
    have HC2 := Lib.hid (show w2.heap[w1.heap.size]? = some (.cells #[vs tn, vs kk, vs ii, vs key, .int .i64 ex] 26 (0, 0)) by rw [← hw2]; exact heap_alloc_new w1 _)
    have hl2 : w1.heap.size < w2.heap.size := by rw [← hw2]; simp
    have HB2 := Lib.hid (below_more HB1.out hb12)
    have HR82 := Lib.hid (HR8.out.below hb12 (F' := fun _ => True) (fun _ _ _ => trivial))
    have hsz1 := HB1.out.size
    clear hb12
    have HCK := Lib.hid (fun (V : World) (hb : Below w2.heap.size w2 V) => (hb.block w1.heap.size hl2).trans HC2.out)
    have HC5 := Lib.hid (fun (V : World) (hb : Below w2.heap.size w2 V) => five_cells (HCK.out V hb))
    go_wp2_with fail
    go_loopw [12] (fun v12 wr => ∃ i : Nat, i ≤ n ∧ v12 = .int .i64 i ∧ Hid (∀ j, j < i → ((kAt ks j).name == key) = false) ∧ Hid (Below w2.heap.size w2 wr)) (fun v12 _ => n - (intOf v12).toNat)
    case atStart => exact ⟨0, Nat.zero_le _, rfl, Lib.hid (fun j hj => by omega), Lib.hid (Below.refl _ _)⟩
    case round =>
      obtain ⟨i, hin, rfl, HBF, HBW⟩ := hrel
      have hi0 : (0 : Int) ≤ (i : Int) := by omega
      have HBW0 := Lib.hid (below_more HB2.out HBW.out)
      obtain ⟨q0, q1, q2, q3, q4, -⟩ := HC5.out wr HBW.out
      by_cases hlt : i < n
      · have hlt' : (i : Int) < (n : Int) := by omega
        have hine : ¬ (i : Int) = (n : Int) := by omega
        obtain ⟨ad, p, B, m, d, rfl, hp, d0, d1, d2, hbl, hbd, hbr⟩ := key_cells (keys_below HK.out (below_more HB0.out HBW0.out)) i hlt
        have hkl' := HF.out i
        have HBL := Lib.hid hbl
        have HBR8 := Lib.hid hbr
        clear hbl hbr
        obtain ⟨k, hk⟩ : ∃ k, kAt ks i = k := ⟨_, rfl⟩
        have HKI := Lib.hid hk
        rw [hk] at d0 d2 HBL HBR8 hkl'
        clear hk
        obtain ⟨kn, kb, kr⟩ := k
        cases hne : kn == key with
        | false =>
          have HBF2 := Lib.hid (show ∀ j, j < i + 1 → ((kAt ks j).name == key) = false from fun j hj => by
            rcases Nat.lt_or_ge j i with h | h
            · exact HBF.out j h
            · obtain rfl : j = i := by omega
              rw [HKI.out]; exact hne)
          go_wp2_with fail
          go_quiet (fail)
          go_wp2
          exact ⟨⟨i + 1, by omega, by go_num, HBF2, Lib.hid (below_drewN2 HBW.out _)⟩, by simp [intOf]; omega⟩
        | true =>
          have HFK := Lib.hid (show findK ks key = some ⟨kn, kb, kr⟩ by rw [← HKI.out]; exact find_hit (by omega) HBF.out (by rw [HKI.out]; exact hne))
          have HVF2 := Lib.hid (show verF (readP s) ks now = if kr = true then (noC, 14) else if (macF kb t == g) = false then (noC, 15) else if ex ≤ now then (noC, 16) else (⟨tn, kk, ii, key, ex⟩, 0) by rw [HVF.out]; show (match findK ks key with | none => _ | some k => _) = _; rw [HFK.out])
          clear HBF HKI
          have hine' : ((i : Int) == (n : Int)) = false := by rw [beq_eq_false_iff_ne]; omega
          go_wp2_with fail
          go_quiet (fail)
          generalize hW5 : World.drewN wr _ = w5
          have hb5 : Below wr.heap.size wr w5 := by rw [← hW5]; exact below_drewN2 (Below.refl _ _) _
          have HBK := Lib.hid hb5
          have HB5 := Lib.hid (below_more HBW0.out hb5)
          have HB25 := Lib.hid (below_more HBW.out hb5)
          clear hW5 hb5 q0 q1 q2 q3 q4
          obtain ⟨q0, q1, q2, q3, q4, -⟩ := HC5.out w5 HB25.out
          have d1 := keepC HBK.out d1
          have d2 := keepC HBK.out d2
          cases kr with
          | true =>
            have HP := Lib.hid (show verF (readP s) ks now = (noC, 14) by rw [HVF2.out, if_pos rfl])
            obtain ⟨r0, r1, r2, r3, r4, f0, f1, f2, f3, f4⟩ := HNO.out (w5) HB5.out
            go_wp2_with fail
            have hh5 := set5 (HNR.out (w5) HB5.out) (.string ⟨#[]⟩) (.string ⟨#[]⟩) (.string ⟨#[]⟩) (.string ⟨#[]⟩) (.int .i64 0)
            have hb5 := Sh.below_turn (below_more HB0.out HB5.out) (set5_turn (w5) w.heap.size (.string ⟨#[]⟩) (.string ⟨#[]⟩) (.string ⟨#[]⟩) (.string ⟨#[]⟩) (.int .i64 0)) (Nat.le_refl _)
            generalize hW5 : ((((((w5).setCell ⟨w.heap.size, 0, none⟩ (.string ⟨#[]⟩)).setCell ⟨w.heap.size, 1, none⟩ (.string ⟨#[]⟩)).setCell ⟨w.heap.size, 2, none⟩ (.string ⟨#[]⟩)).setCell ⟨w.heap.size, 3, none⟩ (.string ⟨#[]⟩)).setCell ⟨w.heap.size, 4, none⟩ (.int .i64 0)) = W5 at hh5 hb5 ⊢
            obtain ⟨m0, m1, m2, m3, m4, -⟩ := five_cells hh5
            exact bodyPost_ret (v := .tuple #[.agg #[.string ⟨#[]⟩, .string ⟨#[]⟩, .string ⟨#[]⟩, .string ⟨#[]⟩, .int .i64 0], .int .i64 14]) (by simp [results, Tryz.results18, go_sem, m0, m1, m2, m3, m4]) rfl (by rw [HP.out]; exact ⟨rfl, hb5⟩)
          | false =>
            have hb5d : Below w5.heap.size w5 w5.drew := below_drewN2 (Below.refl _ _) 1
            have HBD := Lib.hid hb5d
            obtain ⟨c4, w6, hcv, hc4, hr4, hb6⟩ := conv_text w5.drew t
            have hb56 := below_more hb5d hb6
            have HB6 := Lib.hid hb56
            have HKB := Lib.hid ((HBR8.out.below HBK.out (F' := fun _ => True) (fun _ _ _ => trivial)).below hb56 (F' := fun _ => True) (fun _ _ _ => trivial))
            have HMC0 := Lib.hid (Sh.dmac_calls (c := d) (c2 := c4) HBL.out (by rw [← HBL.out]; omega) HKB.out rfl (by omega) hr4)
            have HMC := Lib.hid (show Calls Tryz.prog 29 #[.slice B m d, .slice (some ⟨w5.heap.size, 0, none⟩) t.length c4] w6 _ from HMC0.out)
            clear HMC0
            have HG5 := Lib.hid (HR82.out.below HB25.out (F' := fun _ => True) (fun _ _ _ => trivial))
            have HGV := Lib.hid (fun V (hb : Below w5.heap.size w5 V) => conv_rd (c := cp) (rd_bread (HG5.out.below hb (F' := fun _ => True) (fun _ _ _ => trivial)) HG.out (by omega)))
            have g5 := HGV.out w5.drew HBD.out
            have g6 := HGV.out w6 hb56
            have d15 := keepC hb5d d1
            have d16 := keepC hb56 d1
            have q35 := keepC hb5d q4
            obtain ⟨M, hM⟩ : ∃ M, macF kb t = M := ⟨_, rfl⟩
            have HML := Lib.hid (show M.length = 32 by rw [← hM]; exact macF_len _ _)
            rw [hM] at HMC HVF2
            clear hr4 hb6 hb56 hb5d hM
            go_wp2_with fail
            go_region_law (first
              | (go_simp; (with_reducible refine HMC.out.mono ?_); rintro e w7 ⟨v, rfl, hown, hb7⟩
                 obtain ⟨A9, c9, rfl, -, hr9⟩ := Sh.BOwn.rd (F := fun _ => True) hown (fun b hb => trivial)
                 have HB7 := Lib.hid (below_more HB6.out hb7)
                 have g7 := HGV.out w7 HB7.out
                 have m7 := conv_rd (c := c9) (rd_bread hr9 rfl (by rw [HML.out]; omega))
                 clear hown hb7 hr9))
            all_goals
              have HBX := Lib.hid (below_more HB5.out HB7.out)
              obtain ⟨z0, z1, z2, z3, z4, -⟩ := HC5.out w7 (below_more HB25.out HB7.out)
              obtain ⟨b, hb⟩ : ∃ b, (M == g) = b := ⟨_, rfl⟩
              rw [hb] at HVF2 ⊢
              clear hb
              cases b with
              | false =>
                have HP := Lib.hid (show verF (readP s) ks now = (noC, 15) by rw [HVF2.out, if_neg (by simp), if_pos rfl])
                obtain ⟨r0, r1, r2, r3, r4, f0, f1, f2, f3, f4⟩ := HNO.out (w7) HBX.out
                go_wp2_with fail
                have hh5 := set5 (HNR.out (w7) HBX.out) (.string ⟨#[]⟩) (.string ⟨#[]⟩) (.string ⟨#[]⟩) (.string ⟨#[]⟩) (.int .i64 0)
                have hb5 := Sh.below_turn (below_more HB0.out HBX.out) (set5_turn (w7) w.heap.size (.string ⟨#[]⟩) (.string ⟨#[]⟩) (.string ⟨#[]⟩) (.string ⟨#[]⟩) (.int .i64 0)) (Nat.le_refl _)
                generalize hW5 : ((((((w7).setCell ⟨w.heap.size, 0, none⟩ (.string ⟨#[]⟩)).setCell ⟨w.heap.size, 1, none⟩ (.string ⟨#[]⟩)).setCell ⟨w.heap.size, 2, none⟩ (.string ⟨#[]⟩)).setCell ⟨w.heap.size, 3, none⟩ (.string ⟨#[]⟩)).setCell ⟨w.heap.size, 4, none⟩ (.int .i64 0)) = W5 at hh5 hb5 ⊢
                obtain ⟨m0, m1, m2, m3, m4, -⟩ := five_cells hh5
                exact bodyPost_ret (v := .tuple #[.agg #[.string ⟨#[]⟩, .string ⟨#[]⟩, .string ⟨#[]⟩, .string ⟨#[]⟩, .int .i64 0], .int .i64 15]) (by simp [results, Tryz.results18, go_sem, m0, m1, m2, m3, m4]) rfl (by rw [HP.out]; exact ⟨rfl, hb5⟩)
              | true =>
                by_cases hex : ex ≤ now
                · have HP := Lib.hid (show verF (readP s) ks now = (noC, 16) by rw [HVF2.out, if_neg (by simp), if_neg (by simp), if_pos hex])
                  obtain ⟨r0, r1, r2, r3, r4, f0, f1, f2, f3, f4⟩ := HNO.out (w7) HBX.out
                  go_wp2_with fail
                  have hh5 := set5 (HNR.out (w7) HBX.out) (.string ⟨#[]⟩) (.string ⟨#[]⟩) (.string ⟨#[]⟩) (.string ⟨#[]⟩) (.int .i64 0)
                  have hb5 := Sh.below_turn (below_more HB0.out HBX.out) (set5_turn (w7) w.heap.size (.string ⟨#[]⟩) (.string ⟨#[]⟩) (.string ⟨#[]⟩) (.string ⟨#[]⟩) (.int .i64 0)) (Nat.le_refl _)
                  generalize hW5 : ((((((w7).setCell ⟨w.heap.size, 0, none⟩ (.string ⟨#[]⟩)).setCell ⟨w.heap.size, 1, none⟩ (.string ⟨#[]⟩)).setCell ⟨w.heap.size, 2, none⟩ (.string ⟨#[]⟩)).setCell ⟨w.heap.size, 3, none⟩ (.string ⟨#[]⟩)).setCell ⟨w.heap.size, 4, none⟩ (.int .i64 0)) = W5 at hh5 hb5 ⊢
                  obtain ⟨m0, m1, m2, m3, m4, -⟩ := five_cells hh5
                  exact bodyPost_ret (v := .tuple #[.agg #[.string ⟨#[]⟩, .string ⟨#[]⟩, .string ⟨#[]⟩, .string ⟨#[]⟩, .int .i64 0], .int .i64 16]) (by simp [results, Tryz.results18, go_sem, m0, m1, m2, m3, m4]) rfl (by rw [HP.out]; exact ⟨rfl, hb5⟩)
                · have HP := Lib.hid (show verF (readP s) ks now = (⟨tn, kk, ii, key, ex⟩, 0) by rw [HVF2.out, if_neg (by simp), if_neg (by simp), if_neg hex])
                  have hex' : now < ex := by omega
                  obtain ⟨r0, r1, r2, r3, r4, f0, f1, f2, f3, f4⟩ := HNO.out (w7) HBX.out
                  go_wp2_with fail
                  have hh5 := set5 (HNR.out (w7) HBX.out) (vs tn) (vs kk) (vs ii) (vs key) (.int .i64 ex)
                  have hb5 := Sh.below_turn (below_more HB0.out HBX.out) (set5_turn (w7) w.heap.size (vs tn) (vs kk) (vs ii) (vs key) (.int .i64 ex)) (Nat.le_refl _)
                  generalize hW5 : ((((((w7).setCell ⟨w.heap.size, 0, none⟩ (vs tn)).setCell ⟨w.heap.size, 1, none⟩ (vs kk)).setCell ⟨w.heap.size, 2, none⟩ (vs ii)).setCell ⟨w.heap.size, 3, none⟩ (vs key)).setCell ⟨w.heap.size, 4, none⟩ (.int .i64 ex)) = W5 at hh5 hb5 ⊢
                  obtain ⟨m0, m1, m2, m3, m4, -⟩ := five_cells hh5
                  exact bodyPost_ret (v := .tuple #[.agg #[vs tn, vs kk, vs ii, vs key, .int .i64 ex], .int .i64 0]) (by simp [results, Tryz.results18, go_sem, m0, m1, m2, m3, m4]) rfl (by rw [HP.out]; exact ⟨rfl, hb5⟩)
      · have hie : i = n := by omega
        subst hie
        have HFK := Lib.hid (show findK ks key = none from find_miss (by rw [hkl]; exact HBF.out))
        have HP := Lib.hid (show verF (readP s) ks now = (noC, 14) by rw [HVF.out]; show (match findK ks key with | none => _ | some k => _) = _; rw [HFK.out])
        go_wp2_with fail
        go_quiet (fail)
        generalize hW5 : World.drewN wr _ = w5
        have HB5 := Lib.hid (below_more HBW0.out (show Below wr.heap.size wr w5 by rw [← hW5]; exact below_drewN2 (Below.refl _ _) _))
        clear hW5
        obtain ⟨r0, r1, r2, r3, r4, f0, f1, f2, f3, f4⟩ := HNO.out (w5) HB5.out
        go_wp2_with fail
        have hh5 := set5 (HNR.out (w5) HB5.out) (.string ⟨#[]⟩) (.string ⟨#[]⟩) (.string ⟨#[]⟩) (.string ⟨#[]⟩) (.int .i64 0)
        have hb5 := Sh.below_turn (below_more HB0.out HB5.out) (set5_turn (w5) w.heap.size (.string ⟨#[]⟩) (.string ⟨#[]⟩) (.string ⟨#[]⟩) (.string ⟨#[]⟩) (.int .i64 0)) (Nat.le_refl _)
        generalize hW5 : ((((((w5).setCell ⟨w.heap.size, 0, none⟩ (.string ⟨#[]⟩)).setCell ⟨w.heap.size, 1, none⟩ (.string ⟨#[]⟩)).setCell ⟨w.heap.size, 2, none⟩ (.string ⟨#[]⟩)).setCell ⟨w.heap.size, 3, none⟩ (.string ⟨#[]⟩)).setCell ⟨w.heap.size, 4, none⟩ (.int .i64 0)) = W5 at hh5 hb5 ⊢
        obtain ⟨m0, m1, m2, m3, m4, -⟩ := five_cells hh5
        exact bodyPost_ret (v := .tuple #[.agg #[.string ⟨#[]⟩, .string ⟨#[]⟩, .string ⟨#[]⟩, .string ⟨#[]⟩, .int .i64 0], .int .i64 14]) (by simp [results, Tryz.results18, go_sem, m0, m1, m2, m3, m4]) rfl (by rw [HP.out]; exact ⟨rfl, hb5⟩)
end Go.Proofs.YthgjhfcafdepcaaGreatDoor.Tk

/-
  Tokens: Verify, the program's.
-/
import Derived.Test.YthgjhfcafdepcaaGreatDoorTokH
namespace Go.Proofs.YthgjhfcafdepcaaGreatDoor.Tk
open Go.RowKit Go.Proofs.YthgjhfcafdepcaaGreatDoor.B Go.Proofs.YthgjhfcafdepcaaGreatDoor.S10
open Go.Proofs.YthgjhfcafdepcaaGreatDoor.M
open Go.Proofs.YthgjhfcafdepcaaGreatDoor.C (QRow Turn)
open Go.Proofs.YthgjhfcafdepcaaGreatDoor.Sh (macF macF_len RdB)
open Go.Proofs.YthgjhfcafdepcaaGreatDoor.S01 (hexF unhexF)
set_option linter.unusedVariables false
set_option linter.unusedSimpArgs false

theorem readP_len {s : Bs} {c : Cl} {t g : Bs} (h : readP s = some (c, t, g)) : t.length ≤ s.length ∧ s.length ≤ 512 ∧ g.length = 32 := by
  unfold readP at h
  split at h
  · cases h
  · rename_i hn
    unfold readR at h
    split at h
    · split at h
      · rename_i hc
        simp only [Option.some.injEq, Prod.mk.injEq] at h
        obtain ⟨-, rfl, rfl⟩ := h
        refine ⟨?_, by omega, hc.2⟩
        unfold headT
        rw [List.length_take]; omega
      · cases h
    · cases h
def VfRet (w : World) (r : Cl × Nat) (e : Ending) (w' : World) : Prop := e = .returned (.tuple #[clV r.1, .int .i64 (r.2 : Int)]) ∧ Below w.heap.size w w'
def Few (ks : List Ky) : Prop := ks.length ≤ 1000000 ∧ ∀ j, (kAt ks j).bytes.length ≤ 1152921504606840000
set_option maxRecDepth 100000 in
set_option maxHeartbeats 4000000 in
theorem Verify_calls (s : Bs) (hs : s.length ≤ 1000000) (ks : List Ky) (A : Option Addr) (n c : Nat) (now : Int) (w : World) (h : KeysR w ks A n) (hf : Few ks) (ht : Nu.Tab w) (he : Nu.Errs w) :
    Calls Tryz.prog 17 #[vs s, .slice A n c, .int .i64 now] w (VfRet w (verF (readP s) ks now)) := by
  have HT := Lib.hid ht
  have HE := Lib.hid he
  have HK := Lib.hid h
  have HF := Lib.hid hf
  have hnl := h.2.1
  have hkl := h.1
  clear ht he h hf
  obtain ⟨w0, hw0⟩ : ∃ w0, (w.alloc (.cells (clC noC) 26)).alloc (.cells (clC noC) 26) = w0 := ⟨_, rfl⟩
  have hs1 : (w.alloc (.cells (clC noC) 26)).heap.size = w.heap.size + 1 := by simp
  have hs0 : w0.heap.size = w.heap.size + 1 + 1 := by rw [← hw0]; simp
  have HR0 := Lib.hid (show w0.heap[w.heap.size]? = some (.cells (clC noC) 26 (0, 0)) by rw [← hw0]; exact (alloc_old _ (by omega)).trans (heap_alloc_new w _))
  have HZ0 := Lib.hid (show w0.heap[w.heap.size + 1]? = some (.cells (clC noC) 26 (0, 0)) by rw [← hw0, ← hs1]; exact heap_alloc_new _ _)
  have HB0 := Lib.hid (show Below w.heap.size w w0 by rw [← hw0]; exact ((Below.refl _ w).alloc (Nat.le_refl _) _).alloc (by omega) _)
  have hw0' : (w.alloc (.cells #[.string { data := #[] }, .string { data := #[] }, .string { data := #[] }, .string { data := #[] }, .int .i64 0] 26)).alloc (.cells #[.string { data := #[] }, .string { data := #[] }, .string { data := #[] }, .string { data := #[] }, .int .i64 0] 26) = w0 := hw0
  clear hw0
  have HNR := Lib.hid (fun (V : World) (hb : Below w0.heap.size w0 V) => (hb.block w.heap.size (by omega)).trans HR0.out)
  have HNZ := Lib.hid (fun (V : World) (hb : Below w0.heap.size w0 V) => (hb.block (w.heap.size + 1) (by omega)).trans HZ0.out)
  have HNO := Lib.hid (fun (V : World) (hb : Below w0.heap.size w0 V) => five_cells (HNR.out V hb))
  have HNC := Lib.hid (fun (V : World) (hb : Below w0.heap.size w0 V) => five_cells (HNZ.out V hb))
  have HBR := Lib.hid (Below.refl w0.heap.size w0)
  go_enter Tryz.func17, Tryz.ntmps17
  go_wp2_with fail
  refine (Read_calls s hs _ (Nu.Tab.below HT.out HB0.out) (Nu.Errs.below HE.out HB0.out)).mono ?_
  rintro e' w1 ⟨hb1, hr⟩
  have HB1 := Lib.hid hb1
  clear hb1
  obtain ⟨r, hrr⟩ : ∃ r, readP s = r := ⟨_, rfl⟩
  rw [hrr] at hr
  have HRR := Lib.hid hrr
  clear hrr
  cases r with
  | none =>
    have hr' : e' = .returned (.tuple #[.agg #[.string ⟨#[]⟩, .string ⟨#[]⟩, .string ⟨#[]⟩, .string ⟨#[]⟩, .int .i64 0], .string ⟨#[]⟩, .slice none 0 0, .bool false]) := hr
    subst hr'
    clear hr
    have HP := Lib.hid (show verF (readP s) ks now = (noC, 3) by rw [HRR.out]; rfl)
    have HB2 := Lib.hid (HB1.out.alloc HB1.out.size (.cells #[.string ⟨#[]⟩, .string ⟨#[]⟩, .string ⟨#[]⟩, .string ⟨#[]⟩, .int .i64 0] 26))
    obtain ⟨r0, r1, r2, r3, r4, f0, f1, f2, f3, f4⟩ := HNO.out (w1.alloc (.cells #[.string ⟨#[]⟩, .string ⟨#[]⟩, .string ⟨#[]⟩, .string ⟨#[]⟩, .int .i64 0] 26)) HB2.out
    obtain ⟨z0, z1, z2, z3, z4, -⟩ := HNC.out (w1.alloc (.cells #[.string ⟨#[]⟩, .string ⟨#[]⟩, .string ⟨#[]⟩, .string ⟨#[]⟩, .int .i64 0] 26)) HB2.out
    go_wp2_with fail
    have hh5 := set5 (HNR.out (w1.alloc (.cells #[.string ⟨#[]⟩, .string ⟨#[]⟩, .string ⟨#[]⟩, .string ⟨#[]⟩, .int .i64 0] 26)) HB2.out) (vs noC.tn) (vs noC.k) (vs noC.i) (vs noC.key) (.int .i64 noC.ex)
    have hb5 := Sh.below_turn (below_more HB0.out HB2.out) (set5_turn (w1.alloc (.cells #[.string ⟨#[]⟩, .string ⟨#[]⟩, .string ⟨#[]⟩, .string ⟨#[]⟩, .int .i64 0] 26)) w.heap.size (vs noC.tn) (vs noC.k) (vs noC.i) (vs noC.key) (.int .i64 noC.ex)) (Nat.le_refl _)
    generalize hW5 : (((((w1.alloc (.cells #[.string ⟨#[]⟩, .string ⟨#[]⟩, .string ⟨#[]⟩, .string ⟨#[]⟩, .int .i64 0] 26)).setCell ⟨w.heap.size, 0, none⟩ (vs noC.tn)).setCell ⟨w.heap.size, 1, none⟩ (vs noC.k)).setCell ⟨w.heap.size, 2, none⟩ (vs noC.i)).setCell ⟨w.heap.size, 3, none⟩ (vs noC.key)).setCell ⟨w.heap.size, 4, none⟩ (.int .i64 noC.ex) = W5 at hh5 hb5 ⊢
    obtain ⟨m0, m1, m2, m3, m4, -⟩ := five_cells hh5
    exact bodyPost_ret (v := .tuple #[clV noC, .int .i64 3]) (by simp [results, Tryz.results17, go_sem, m0, m1, m2, m3, m4]) rfl (by rw [HP.out]; exact ⟨rfl, hb5⟩)
  | some r =>
    obtain ⟨cl, t, g⟩ := r
    simp only at hr
    obtain ⟨A8, cp, rfl, hg, hcp, hr8⟩ := hr
    have HR8 := Lib.hid hr8
    have HG := Lib.hid hg
    clear hr8 hg
    have hVF := show verF (readP s) ks now = (match findK ks cl.key with
      | none => (noC, 14)
      | some k => if k.rev = true then (noC, 14) else if (macF k.bytes t == g) = false then (noC, 15) else if cl.ex ≤ now then (noC, 16) else (cl, 0)) by rw [HRR.out]; rfl
    have HVF := Lib.hid hVF
    clear hVF
    obtain ⟨tn, kk, ii, key, ex⟩ := cl
    obtain ⟨w2, hw2⟩ : ∃ w2, w1.alloc (.cells #[vs tn, vs kk, vs ii, vs key, .int .i64 ex] 26) = w2 := ⟨_, rfl⟩
    have hb12 : Below w1.heap.size w1 w2 := by rw [← hw2]; exact (Below.refl _ w1).alloc (Nat.le_refl _) _
    have HC2 := Lib.hid (show w2.heap[w1.heap.size]? = some (.cells #[vs tn, vs kk, vs ii, vs key, .int .i64 ex] 26 (0, 0)) by rw [← hw2]; exact heap_alloc_new w1 _)
    have hl2 : w1.heap.size < w2.heap.size := by rw [← hw2]; simp
    have HB2 := Lib.hid (below_more HB1.out hb12)
    have HR82 := Lib.hid (HR8.out.below hb12 (F' := fun _ => True) (fun _ _ _ => trivial))
    have hsz1 := HB1.out.size
    clear hb12
    have HCK := Lib.hid (fun (V : World) (hb : Below w2.heap.size w2 V) => (hb.block w1.heap.size hl2).trans HC2.out)
    have HC5 := Lib.hid (fun (V : World) (hb : Below w2.heap.size w2 V) => five_cells (HCK.out V hb))
    have HIX := Lib.hid (idxKey_calls ks A n c w1.heap.size key w2 (keys_below HK.out (below_more HB0.out HB2.out)) (HC5.out w2 (Below.refl _ _)).2.2.2.1)
    go_wp2_with fail
    refine HIX.out.mono ?_
    rintro e' w3 ⟨r, rfl, hb3, hfd⟩
    have HB23 := Lib.hid hb3
    have HB3 := Lib.hid (below_more HB2.out hb3)
    clear hb3 HIX
    rcases hfd with ⟨rfl, hfk⟩ | ⟨j, hj, rfl, hfk⟩
    · have HP := Lib.hid (show verF (readP s) ks now = (noC, 14) by rw [HVF.out]; show (match findK ks key with | none => _ | some k => _) = _; rw [hfk])
      clear hfk
      obtain ⟨r0, r1, r2, r3, r4, f0, f1, f2, f3, f4⟩ := HNO.out w3 HB3.out
      obtain ⟨z0, z1, z2, z3, z4, -⟩ := HNC.out w3 HB3.out
      go_wp2_with fail
      have hh5 := set5 (HNR.out w3 HB3.out) (vs noC.tn) (vs noC.k) (vs noC.i) (vs noC.key) (.int .i64 noC.ex)
      have hb5 := Sh.below_turn (below_more HB0.out HB3.out) (set5_turn w3 w.heap.size (vs noC.tn) (vs noC.k) (vs noC.i) (vs noC.key) (.int .i64 noC.ex)) (Nat.le_refl _)
      generalize hW5 : ((((w3.setCell ⟨w.heap.size, 0, none⟩ (vs noC.tn)).setCell ⟨w.heap.size, 1, none⟩ (vs noC.k)).setCell ⟨w.heap.size, 2, none⟩ (vs noC.i)).setCell ⟨w.heap.size, 3, none⟩ (vs noC.key)).setCell ⟨w.heap.size, 4, none⟩ (.int .i64 noC.ex) = W5 at hh5 hb5 ⊢
      obtain ⟨m0, m1, m2, m3, m4, -⟩ := five_cells hh5
      exact bodyPost_ret (v := .tuple #[clV noC, .int .i64 14]) (by simp [results, Tryz.results17, go_sem, m0, m1, m2, m3, m4]) rfl (by rw [HP.out]; exact ⟨rfl, hb5⟩)
    · have hVF2 := HVF.out
      have hj0 : ¬ (j : Int) < 0 := by omega
      have hji : (j : Int) < (n : Int) := by omega
      obtain ⟨ad, p, B, m, d, rfl, hp, d0, d1, d2, hbl, hbd, hbr⟩ := key_cells (keys_below HK.out (below_more HB0.out HB3.out)) j (by omega)
      have hkl' := HF.out.2 j
      obtain ⟨k, hk⟩ : ∃ k, kAt ks j = k := ⟨_, rfl⟩
      rw [hk] at d0 d2 hbl hbr hkl' hfk
      obtain ⟨kn, kb, kr⟩ := k
      have HVF2 := Lib.hid (show verF (readP s) ks now = if kr = true then (noC, 14) else if (macF kb t == g) = false then (noC, 15) else if ex ≤ now then (noC, 16) else (⟨tn, kk, ii, key, ex⟩, 0) by rw [hVF2]; show (match findK ks key with | none => _ | some k => _) = _; rw [hfk])
      have HBR8 := Lib.hid hbr
      have HBL := Lib.hid hbl
      clear hVF2 hk hfk hbr hbl
      cases kr with
      | true =>
        have HP := Lib.hid (show verF (readP s) ks now = (noC, 14) by rw [HVF2.out, if_pos rfl])
        obtain ⟨r0, r1, r2, r3, r4, f0, f1, f2, f3, f4⟩ := HNO.out w3 HB3.out
        obtain ⟨z0, z1, z2, z3, z4, -⟩ := HNC.out w3 HB3.out
        go_wp2_with fail
        have hh5 := set5 (HNR.out w3 HB3.out) (vs noC.tn) (vs noC.k) (vs noC.i) (vs noC.key) (.int .i64 noC.ex)
        have hb5 := Sh.below_turn (below_more HB0.out HB3.out) (set5_turn w3 w.heap.size (vs noC.tn) (vs noC.k) (vs noC.i) (vs noC.key) (.int .i64 noC.ex)) (Nat.le_refl _)
        generalize hW5 : ((((w3.setCell ⟨w.heap.size, 0, none⟩ (vs noC.tn)).setCell ⟨w.heap.size, 1, none⟩ (vs noC.k)).setCell ⟨w.heap.size, 2, none⟩ (vs noC.i)).setCell ⟨w.heap.size, 3, none⟩ (vs noC.key)).setCell ⟨w.heap.size, 4, none⟩ (.int .i64 noC.ex) = W5 at hh5 hb5 ⊢
        obtain ⟨m0, m1, m2, m3, m4, -⟩ := five_cells hh5
        exact bodyPost_ret (v := .tuple #[clV noC, .int .i64 14]) (by simp [results, Tryz.results17, go_sem, m0, m1, m2, m3, m4]) rfl (by rw [HP.out]; exact ⟨rfl, hb5⟩)
      | false =>
        have hl3 := HBL.out
        obtain ⟨c4, w4, hcv, hc4, hr4, hb4⟩ := conv_text w3 t
        have HB24 := Lib.hid (below_more HB23.out hb4)
        have HB4 := Lib.hid (below_more HB3.out hb4)
        have HR4 := Lib.hid hr4
        have HKB := Lib.hid (HBR8.out.below hb4 (F' := fun _ => True) (fun _ _ _ => trivial))
        have HG4 := Lib.hid (HR82.out.below HB24.out (F' := fun _ => True) (fun _ _ _ => trivial))
        have htl : t.length ≤ 1000000 := by
          have := readP_len HRR.out
          omega
        clear hr4 hb4 hl3
        obtain ⟨b, hb⟩ : ∃ b, (macF kb t == g) = b := ⟨_, rfl⟩
        have HCH := Lib.hid (Sh.Check_calls (w := w4) HBL.out hbd (by rw [← HBL.out]; exact hkl') HKB.out rfl hc4 (by omega) HR4.out (c3 := cp) HG.out HG4.out)
        rw [hb] at HCH HVF2
        clear hb
        go_wp2_with fail
        refine HCH.out.mono ?_
        rintro e' w5 ⟨rfl, hb5⟩
        have HB25 := Lib.hid (below_more HB24.out hb5)
        have HB5 := Lib.hid (below_more HB4.out hb5)
        clear hb5
        cases b with
        | false =>
          have HP := Lib.hid (show verF (readP s) ks now = (noC, 15) by rw [HVF2.out, if_neg (by simp), if_pos rfl])
          obtain ⟨r0, r1, r2, r3, r4, f0, f1, f2, f3, f4⟩ := HNO.out w5 HB5.out
          obtain ⟨z0, z1, z2, z3, z4, -⟩ := HNC.out w5 HB5.out
          go_wp2_with fail
          have hh5 := set5 (HNR.out w5 HB5.out) (vs noC.tn) (vs noC.k) (vs noC.i) (vs noC.key) (.int .i64 noC.ex)
          have hb5 := Sh.below_turn (below_more HB0.out HB5.out) (set5_turn w5 w.heap.size (vs noC.tn) (vs noC.k) (vs noC.i) (vs noC.key) (.int .i64 noC.ex)) (Nat.le_refl _)
          generalize hW5 : ((((w5.setCell ⟨w.heap.size, 0, none⟩ (vs noC.tn)).setCell ⟨w.heap.size, 1, none⟩ (vs noC.k)).setCell ⟨w.heap.size, 2, none⟩ (vs noC.i)).setCell ⟨w.heap.size, 3, none⟩ (vs noC.key)).setCell ⟨w.heap.size, 4, none⟩ (.int .i64 noC.ex) = W5 at hh5 hb5 ⊢
          obtain ⟨m0, m1, m2, m3, m4, -⟩ := five_cells hh5
          exact bodyPost_ret (v := .tuple #[clV noC, .int .i64 15]) (by simp [results, Tryz.results17, go_sem, m0, m1, m2, m3, m4]) rfl (by rw [HP.out]; exact ⟨rfl, hb5⟩)
        | true =>
          obtain ⟨k0, k1, k2, k3, k4, -⟩ := HC5.out w5 HB25.out
          by_cases hex : ex ≤ now
          · have HP := Lib.hid (show verF (readP s) ks now = (noC, 16) by rw [HVF2.out, if_neg (by simp), if_neg (by simp), if_pos hex])
            obtain ⟨r0, r1, r2, r3, r4, f0, f1, f2, f3, f4⟩ := HNO.out w5 HB5.out
            obtain ⟨z0, z1, z2, z3, z4, -⟩ := HNC.out w5 HB5.out
            go_wp2_with fail
            have hh5 := set5 (HNR.out w5 HB5.out) (vs noC.tn) (vs noC.k) (vs noC.i) (vs noC.key) (.int .i64 noC.ex)
            have hb5 := Sh.below_turn (below_more HB0.out HB5.out) (set5_turn w5 w.heap.size (vs noC.tn) (vs noC.k) (vs noC.i) (vs noC.key) (.int .i64 noC.ex)) (Nat.le_refl _)
            generalize hW5 : ((((w5.setCell ⟨w.heap.size, 0, none⟩ (vs noC.tn)).setCell ⟨w.heap.size, 1, none⟩ (vs noC.k)).setCell ⟨w.heap.size, 2, none⟩ (vs noC.i)).setCell ⟨w.heap.size, 3, none⟩ (vs noC.key)).setCell ⟨w.heap.size, 4, none⟩ (.int .i64 noC.ex) = W5 at hh5 hb5 ⊢
            obtain ⟨m0, m1, m2, m3, m4, -⟩ := five_cells hh5
            exact bodyPost_ret (v := .tuple #[clV noC, .int .i64 16]) (by simp [results, Tryz.results17, go_sem, m0, m1, m2, m3, m4]) rfl (by rw [HP.out]; exact ⟨rfl, hb5⟩)
          · have HP := Lib.hid (show verF (readP s) ks now = (⟨tn, kk, ii, key, ex⟩, 0) by rw [HVF2.out, if_neg (by simp), if_neg (by simp), if_neg hex])
            obtain ⟨r0, r1, r2, r3, r4, f0, f1, f2, f3, f4⟩ := HNO.out w5 HB5.out
            have hex' : now < ex := by omega
            go_wp2_with fail
            have hh5 := set5 (HNR.out w5 HB5.out) (vs tn) (vs kk) (vs ii) (vs key) (.int .i64 ex)
            have hb5 := Sh.below_turn (below_more HB0.out HB5.out) (set5_turn w5 w.heap.size (vs tn) (vs kk) (vs ii) (vs key) (.int .i64 ex)) (Nat.le_refl _)
            generalize hW5 : ((((w5.setCell ⟨w.heap.size, 0, none⟩ (vs tn)).setCell ⟨w.heap.size, 1, none⟩ (vs kk)).setCell ⟨w.heap.size, 2, none⟩ (vs ii)).setCell ⟨w.heap.size, 3, none⟩ (vs key)).setCell ⟨w.heap.size, 4, none⟩ (.int .i64 ex) = W5 at hh5 hb5 ⊢
            obtain ⟨m0, m1, m2, m3, m4, -⟩ := five_cells hh5
            exact bodyPost_ret (v := .tuple #[clV ⟨tn, kk, ii, key, ex⟩, .int .i64 0]) (by simp [results, Tryz.results17, go_sem, m0, m1, m2, m3, m4]) rfl (by rw [HP.out]; exact ⟨rfl, hb5⟩)
end Go.Proofs.YthgjhfcafdepcaaGreatDoor.Tk

/-
  The document's reader: term.
-/
import Derived.Test.YtgmlcnikphbiiaaDoorLangZ2
namespace Go.Proofs.YtgmlcnikphbiiaaDoor.L
open Go.RowKit Go.Proofs.YtgmlcnikphbiiaaDoor.B Go.Proofs.YtgmlcnikphbiiaaDoor.S10 Go.Proofs.YtgmlcnikphbiiaaDoor.Nm
open Go.Proofs.YtgmlcnikphbiiaaDoor.C (QRow Turn wpList_append_q)
set_option linter.unusedVariables false
set_option linter.unusedSimpArgs false

set_option maxRecDepth 100000 in
set_option maxHeartbeats 4000000 in
theorem rterm_calls {rb : Nat} {op : Int} (one : P Ex) (hless : Less one) (hlow : Low one) (hone : ∀ w L, RO w rb op L → Calls Tryd.prog 87 #[.pointer (some ⟨rb, 0, none⟩)] w (EndsR rb op w (ExRet w) (one L)))
    {w : World} {L : List Tk} (h : RO w rb op L) : Calls Tryd.prog 74 #[.pointer (some ⟨rb, 0, none⟩)] w (EndsR rb op w (ExRet w) (chainS [38] (fun _ => 3) one L)) := by
  have hlt := h.lt
  have HP0 := Lib.hid (h.below ((Below.refl _ w).alloc (Nat.le_refl _) (.cells #[.int .i64 0, .string ⟨#[]⟩, .string ⟨#[]⟩, .slice none 0 0] 38)))
  have HONE := Lib.hid hone
  have HLESS := Lib.hid hless
  have HLOW := Lib.hid hlow
  have hfl := field67
  clear h hone hless hlow
  go_enter Tryd.func74, Tryd.ntmps74
  go_wp2_with fail
  refine (HONE.out _ L HP0.out).mono ?_
  intro e w1 h1
  obtain ⟨x, kx, ax, bx, Ax, nx, cx, rfl, hA1, hV1, hcase⟩ := ends_exR h1
  have hrb1 := hA1.kept (heap_alloc_new w (.cells #[.int .i64 0, .string ⟨#[]⟩, .string ⟨#[]⟩, .slice none 0 0] 38)) (Nat.ne_of_gt hlt)
  have hs1 := hA1.size
  rw [show (w.alloc (.cells #[.int .i64 0, .string ⟨#[]⟩, .string ⟨#[]⟩, .slice none 0 0] 38)).heap.size = w.heap.size + 1 by simp] at hs1
  have hA01 := ((At.refl rb w).alloc_new (.cells #[.int .i64 0, .string ⟨#[]⟩, .string ⟨#[]⟩, .slice none 0 0] 38)).trans hA1
  obtain ⟨tot, k0, hT0, hTI⟩ : ∃ tot k0, chainS [38] (fun _ => 3) one L = tot ∧ TI rb op [38] (fun _ => 3) one w w1.heap.size tot k0 (w1.alloc (.cells #[.int .i64 kx, vs ax, vs bx, .slice Ax nx cx] 38)) := by
    have hcom : ∀ tot k', ((∃ d, RE w1 rb op d ∧ tot = .error d ∧ k' = 0) ∨ (∃ L', RO w1 rb op L' ∧ tot = chainGo [38] (fun _ => 3) one L'.length x L' ∧ k' = L'.length + 1 ∧ x.height ≤ 12)) → TI rb op [38] (fun _ => 3) one w w1.heap.size tot k' (w1.alloc (.cells #[.int .i64 kx, vs ax, vs bx, .slice Ax nx cx] 38)) := fun tot k' hk' =>
      ⟨x, kx, ax, bx, Ax, nx, cx, heap_alloc_new w1 _, (hV1.mono (fun b hb hl => by simp at hb; omega)).alloc _, hA01.alloc_new _, (alloc_old _ (lt_of_heap hrb1)).trans hrb1, by
        rcases hk' with ⟨d, h1, h2⟩ | ⟨L', h1, h2⟩
        · exact .inl ⟨d, h1.below ((Below.refl _ w1).alloc (Nat.le_refl _) _), h2⟩
        · exact .inr ⟨L', h1.below ((Below.refl _ w1).alloc (Nat.le_refl _) _), h2⟩⟩
    rcases hcase with ⟨d, ho, hE⟩ | ⟨l4, ho, hP⟩
    · exact ⟨_, 0, chainS_err ho, hcom _ 0 (.inl ⟨d, hE, rfl, rfl⟩)⟩
    · exact ⟨_, _, chainS_ok ho, hcom _ _ (.inr ⟨l4, hP, rfl, rfl, HLOW.out _ _ _ ho⟩)⟩
  have HT0 := Lib.hid hT0
  have HTI := Lib.hid hTI
  clear h1 hA1 hV1 hcase hrb1 hA01 hT0 hTI
  go_wp2_with fail
  generalize hbe0 : w1.heap.size = be at *
  have HBE0 := Lib.hid hbe0
  clear hbe0
  go_loopg [] k0 (fun k wr => TI rb op [38] (fun _ => 3) one w be tot k wr)
  case atStart => exact HTI.out
  case round =>
    clear HTI
    generalize hgk : gk = k at *
    clear hgk
    obtain ⟨e, kk, aa, bb, AA, nn, cc, hbe, hV, hA, hrb, hcase⟩ := hrel
    have HBE := Lib.hid hbe
    have HV := Lib.hid hV
    have HA := Lib.hid hA
    have HRB := Lib.hid hrb
    clear hbe hV hA hrb
    rcases hcase with ⟨d, hE, htot, hk⟩ | ⟨L', hP, htot, hk, hle⟩
    · have HTOT := Lib.hid htot
      have HEE := Lib.hid hE
      obtain ⟨e1, e2⟩ := hE.ne
      obtain ⟨-, -, -, c5, -⟩ := hE.cell
      obtain ⟨b0, b1, b2, b3, -⟩ := four_of HBE.out
      obtain ⟨q0, q1, q2, q3, j0, j1, j2, j3⟩ := four_of HRB.out
      have HE := Lib.hid (exitRE hlt HA.out hE HRB.out (HV.out.mono (fun b hb _ => hb.1)))
      clear htot hE hk
      go_wp2
      obtain ⟨hE, hH⟩ := HE.out
      refine bodyPost_ret (results_cell_row rfl _ _ w.heap.size 38 #[.int .i64 kk, vs aa, vs bb, .slice AA nn cc] (0, 0) _ rfl hH Tryd.underlying38 rfl (by kernel_rfl)) rfl ?_
      rw [HT0.out, HTOT.out]
      exact hE
    obtain ⟨TL, at_, t, l, hd, rfl, ht, hdr, hf⟩ := hP.open_
    obtain ⟨-, -, c5⟩ := hP.cell
    have HTOT := Lib.hid htot
    have HKL := Lib.hid hk
    have HP := Lib.hid hP
    have HD := Lib.hid hd
    have HT := Lib.hid ht
    have HDR := Lib.hid hdr
    have HFI := Lib.hid hf
    have HLE := Lib.hid hle
    clear htot hk hP hd ht hdr hf hle
    cases hsg : t.s == [38] with
    | false =>
      have HSG := Lib.hid (show ([38] : Bs).any (fun c => t.s == [c]) = false by simp only [List.any_cons, List.any_nil, hsg]; rfl)
      go_wp2_with fail
      refine (next_open HD.out HT.out).mono ?_
      rintro e1 w1' ⟨rfl, hb1⟩
      obtain ⟨b0, b1, b2, b3, -⟩ := four_of (hb1.block _ (lt_of_heap HBE.out) |>.trans HBE.out)
      obtain ⟨q0, q1, q2, q3, j0, j1, j2, j3⟩ := four_of (hb1.block _ (lt_of_heap HRB.out) |>.trans HRB.out)
      have HE := Lib.hid (exitR hlt (HA.out.below hb1) (HP.out.below hb1) (hb1.block _ (lt_of_heap HRB.out) |>.trans HRB.out) ((HV.out.below hb1).mono (fun b hb _ => hb.1)))
      have HFIN := Lib.hid (show tot = .ok (e, t :: l) by
        rw [HTOT.out]
        unfold chainGo
        rw [if_neg (by rw [HSG.out]; simp)])
      clear hb1
      go_wp2
      obtain ⟨hE, hH⟩ := HE.out
      refine bodyPost_ret (results_cell_row rfl _ _ w.heap.size 38 #[.int .i64 kk, vs aa, vs bb, .slice AA nn cc] (0, 0) _ rfl hH Tryd.underlying38 rfl (by kernel_rfl)) rfl ?_
      rw [HT0.out, HFIN.out]
      exact hE
    | true =>
      have HSG := Lib.hid (show ([38] : Bs).any (fun c => t.s == [c]) = true by simp only [List.any_cons, List.any_nil, hsg]; rfl)
      have HNE := Lib.hid (show t.s ≠ [] ∧ t.s ≠ [63] by rw [eq_of_beq hsg]; exact ⟨by simp, by simp⟩)
      go_wp2_with fail
      refine (next_open HD.out HT.out).mono ?_
      rintro e1 w1' ⟨rfl, hb1⟩
      have HB1 := Lib.hid hb1
      have hd1 := HD.out.below hb1
      have HD1 := Lib.hid hd1
      clear hb1 hd1
      go_wp2_with fail
      refine (next_open HD1.out HT.out).mono ?_
      rintro e2 w2 ⟨rfl, hb2'⟩
      have hb2 := below_then HB1.out HB1.out.size hb2'
      clear hb2'
      have htb2 := heap_alloc_new w2 (.cells #[vs t.s, .int .i64 t.line, .int .i64 t.col] 67)
      have hb2' := Below.trans hb2 ((Below.refl w2.heap.size w2).alloc (Nat.le_refl _) (.cells #[vs t.s, .int .i64 t.line, .int .i64 t.col] 67) |> fun h => (⟨h.os, h.tape, h.output, h.size, fun i hi => h.block i (Nat.lt_of_lt_of_le hi hb2.size)⟩ : Below wr.heap.size w2 _))
      have HB2 := Lib.hid hb2'
      have HTB := Lib.hid htb2
      obtain ⟨A0, c0, hg, -, hat, hle, -⟩ := id (HD.out.below hb2')
      have g1 := cells_of hg 1 (.int .i64 at_) rfl
      have f1 := frz_of hg 1
      have hat5 : at_ ≤ 5000 := by omega
      have HP3 := Lib.hid (RO.step (t := t) (HD.out.below hb2') HDR.out (HFI.out.next HNE.out.1 HNE.out.2))
      have hwr : rb < wr.heap.size := HD.out.lt
      have hs2 := hb2.size
      clear hb2 hb2' htb2 hg hat hle

      go_wp2_with fail
      refine (HONE.out _ _ HP3.out).mono ?_
      intro e4 w4 h4
      obtain ⟨y, ky, ay, by_, Ay, ny, cy, rfl, hA4, hV4, hcase⟩ := ends_exR h4
      -- the world ahead of the call
      have hA3 : At rb wr ((w2.alloc (.cells #[vs t.s, .int .i64 t.line, .int .i64 t.col] 67)).setCell ⟨rb, 1, none⟩ (.int .i64 (at_ + 1 : Nat))) := (at_below HB2.out).trans (at_set _ rb 1 _)
      have hV3 := (HV.out.below HB2.out).set (c := rb) (fun b hb => by omega) 1 (.int .i64 (at_ + 1 : Nat))
      have hsz3 : ((w2.alloc (.cells #[vs t.s, .int .i64 t.line, .int .i64 t.col] 67)).setCell ⟨rb, 1, none⟩ (.int .i64 (at_ + 1 : Nat))).heap.size = w2.heap.size + 1 := by simp
      have hbe3 := (heap_setCell_other (w2.alloc (.cells #[vs t.s, .int .i64 t.line, .int .i64 t.col] 67)) ⟨rb, 1, none⟩ be (.int .i64 (at_ + 1 : Nat)) (by show be ≠ rb; omega)).trans ((HB2.out.block _ (lt_of_heap HBE.out)).trans HBE.out)
      have hrb3 := (heap_setCell_other (w2.alloc (.cells #[vs t.s, .int .i64 t.line, .int .i64 t.col] 67)) ⟨rb, 1, none⟩ w.heap.size (.int .i64 (at_ + 1 : Nat)) (by show w.heap.size ≠ rb; omega)).trans ((HB2.out.block _ (lt_of_heap HRB.out)).trans HRB.out)
      have htb3 := (heap_setCell_other (w2.alloc (.cells #[vs t.s, .int .i64 t.line, .int .i64 t.col] 67)) ⟨rb, 1, none⟩ w2.heap.size (.int .i64 (at_ + 1 : Nat)) (by show w2.heap.size ≠ rb; omega)).trans HTB.out
      have hbl := lt_of_heap HBE.out
      have hA04 := (HA.out.trans hA3).trans hA4
      have hbe4 := hA4.kept hbe3 (by omega)
      have hrb4 := hA4.kept hrb3 (by omega)
      have htb4 := hA4.kept htb3 (by omega)
      have hV4e := hV3.at hA4 (F' := fun b => w.heap.size < b ∧ b ≠ be) (fun b hb _ => ⟨by omega, hb⟩)
      have hV4y := hV4.mono (F' := fun b => w.heap.size < b ∧ b ≠ be) (fun b hb _ => by rw [hsz3] at hb; omega)
      have hs4 := hA4.size
      rw [hsz3] at hs4
      have HA4 := Lib.hid (hA04.alloc_new (.cells #[.int .i64 ky, vs ay, vs by_, .slice Ay ny cy] 38))
      have hyb := heap_alloc_new w4 (.cells #[.int .i64 ky, vs ay, vs by_, .slice Ay ny cy] 38)
      have hbe5 := (alloc_old (.cells #[.int .i64 ky, vs ay, vs by_, .slice Ay ny cy] 38) (lt_of_heap hbe4)).trans hbe4
      have hrb5 := (alloc_old (.cells #[.int .i64 ky, vs ay, vs by_, .slice Ay ny cy] 38) (lt_of_heap hrb4)).trans hrb4
      have htb5 := (alloc_old (.cells #[.int .i64 ky, vs ay, vs by_, .slice Ay ny cy] 38) (lt_of_heap htb4)).trans htb4
      obtain ⟨r, hr, hSt, hlow⟩ : ∃ r : Except Dg (List Tk), (∀ d, r = .error d → one l = .error d) ∧ St (w4.alloc (.cells #[.int .i64 ky, vs ay, vs by_, .slice Ay ny cy] 38)) rb op r ∧ (∀ L, r = .ok L → one l = .ok (y, L) ∧ e.height ≤ 12 ∧ y.height ≤ 12) := by
        rcases hcase with ⟨d, ho, hE⟩ | ⟨l4, ho, hP⟩
        · exact ⟨.error d, (fun d' h => by cases h; exact ho), RE.below hE ((Below.refl _ w4).alloc (Nat.le_refl _) _), (fun L h => by cases h)⟩
        · exact ⟨.ok l4, (fun d' h => by cases h), RO.below hP ((Below.refl _ w4).alloc (Nat.le_refl _) _), (fun L h => by cases h; exact ⟨ho, HLE.out, HLOW.out _ _ _ ho⟩)⟩
      have HR := Lib.hid hr
      have HST := Lib.hid hSt
      have HLO := Lib.hid hlow
      have HVE := Lib.hid (hV4e.alloc (.cells #[.int .i64 ky, vs ay, vs by_, .slice Ay ny cy] 38))
      have HVY := Lib.hid (hV4y.alloc (.cells #[.int .i64 ky, vs ay, vs by_, .slice Ay ny cy] 38))
      have HBE5 := Lib.hid hbe5
      have HRB5 := Lib.hid hrb5
      obtain ⟨x0, x1, x2⟩ := three_of htb5
      obtain ⟨b0, b1, b2, b3, -⟩ := four_of hbe5
      obtain ⟨y0, y1, y2, y3, -⟩ := four_of hyb
      have l1 := lt_of_heap hbe4
      have l2 := lt_of_heap htb4
      clear h4 hA4 hV4 hcase hA3 hV3 hbe3 hrb3 htb3 hA04 hbe4 hrb4 htb4 hV4e hV4y hyb hbe5 hrb5 htb5 hr hSt hlow hsz3 g1 f1
      go_wp2_with fail
      refine (two_any r HST.out (fun b => w.heap.size < b ∧ b ≠ be) (fun b hb => by omega) (3) t e y kk aa bb AA nn cc ky ay by_ Ay ny cy HVE.out HVY.out (fun L hL => (HLO.out L hL).2)).mono ?_
      rintro e6 w6 ⟨z, kz, az, bz, Az, nz, cz, rfl, hA6, hVZ, hSt6, hok⟩
      have hs5 : (w4.alloc (.cells #[.int .i64 ky, vs ay, vs by_, .slice Ay ny cy] 38)).heap.size = w4.heap.size + 1 := by simp
      have hbe6 := hA6.kept HBE5.out (by omega)
      have hrb6 := hA6.kept HRB5.out (by omega)
      have hA06 := HA4.out.trans hA6
      obtain ⟨b0, b1, b2, b3, f0, f1, f2, f3⟩ := four_of hbe6
      have hVZ' : ExV w6 (fun b => w.heap.size < b ∧ b ≠ be) z (exAgg kz az bz Az nz cz) := hVZ.mono (fun b hb _ => by
        rcases hb with hb | hb
        · exact hb
        · rw [hs5] at hb; omega)
      have HFIN : Hid (∃ k', k' < k ∧ TI rb op [38] (fun _ => 3) one w be tot k' ((((w6.setCell ⟨be, 0, none⟩ (.int .i64 kz)).setCell ⟨be, 1, none⟩ (vs az)).setCell ⟨be, 2, none⟩ (vs bz)).setCell ⟨be, 3, none⟩ (.slice Az nz cz))) := Lib.hid (by
        have hT := turn_set4 w6 be (.int .i64 kz) (vs az) (vs bz) (.slice Az nz cz)
        have hne : ∀ b, (w.heap.size < b ∧ b ≠ be) → b ≠ be := fun b hb => hb.2
        have hcom : ∀ k', ((∃ d, RE w6 rb op d ∧ tot = .error d ∧ k' = 0) ∨ (∃ L', RO w6 rb op L' ∧ tot = chainGo [38] (fun _ => 3) one L'.length z L' ∧ k' = L'.length + 1 ∧ z.height ≤ 12)) →
            TI rb op [38] (fun _ => 3) one w be tot k' ((((w6.setCell ⟨be, 0, none⟩ (.int .i64 kz)).setCell ⟨be, 1, none⟩ (vs az)).setCell ⟨be, 2, none⟩ (vs bz)).setCell ⟨be, 3, none⟩ (.slice Az nz cz)) := fun k' hk' =>
          ⟨z, kz, az, bz, Az, nz, cz, set4 hbe6 _ _ _ _, (((hVZ'.set hne 0 _).set hne 1 _).set hne 2 _).set hne 3 _, (((hA06.set_new (by omega) 0 _).set_new (by omega) 1 _).set_new (by omega) 2 _).set_new (by omega) 3 _, (set4_old (by omega) _ _ _ _).trans hrb6, by
            rcases hk' with ⟨d, h1, h2⟩ | ⟨L', h1, h2⟩
            · exact .inl ⟨d, h1.turn hT (fun b hb e => by omega), h2⟩
            · exact .inr ⟨L', h1.turn hT (fun b hb e => by omega), h2⟩⟩
        cases r with
        | error d => exact ⟨0, by have := HKL.out; omega, hcom 0 (.inl ⟨d, hSt6, by rw [HTOT.out, chainGo_err HSG.out (HR.out d rfl)], rfl⟩)⟩
        | ok l2 =>
          have ho := (HLO.out l2 rfl).1
          by_cases h12 : (two (3) e y).height > 12
          · have e1 : twoSt (3) e y t (.ok l2) = .error ⟨t.line, t.col, 9⟩ := by show (if _ then _ else _) = _; rw [if_pos h12]
            rw [e1] at hSt6
            refine ⟨0, by have := HKL.out; omega, hcom 0 (.inl ⟨_, hSt6, ?_, rfl⟩)⟩
            rw [HTOT.out, chainGo_deep HSG.out ho h12]
            rfl
          · have e1 : twoSt (3) e y t (.ok l2) = .ok l2 := by show (if _ then _ else _) = _; rw [if_neg h12]
            rw [e1] at hSt6 hok
            obtain ⟨hz, -, -⟩ := hok l2 rfl
            have hll := HLESS.out _ _ _ ho
            refine ⟨l2.length + 1, by have := HKL.out; simp at this; omega, hcom _ (.inr ⟨l2, hSt6, ?_, rfl, by rw [hz]; exact Int.not_lt.1 h12⟩)⟩
            rw [HTOT.out, chainGo_on HLESS.out HSG.out ho h12, hz])
      clear hA6 hVZ hSt6 hok hbe6 hrb6 hA06 hVZ' x0 x1 x2 y0 y1 y2 y3
      go_wp2
      obtain ⟨k', hk', hTI⟩ := HFIN.out
      go_roundg k'
      case measure => exact hk'
      case rel => exact hTI
end Go.Proofs.YtgmlcnikphbiiaaDoor.L

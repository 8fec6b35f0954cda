/-
  The document's reader in any state: ref.
-/
import Derived.Test.YtgmlcnikphbiiaaDoorLangZ5
namespace Go.Proofs.YtgmlcnikphbiiaaDoor.L
open Go.RowKit Go.Proofs.YtgmlcnikphbiiaaDoor.B Go.Proofs.YtgmlcnikphbiiaaDoor.S10 Go.Proofs.YtgmlcnikphbiiaaDoor.Nm
open Go.Proofs.YtgmlcnikphbiiaaDoor.C (QRow Turn wpList_append_q)
set_option linter.unusedVariables false
set_option linter.unusedSimpArgs false

theorem isR_err {q : Bs} {d : Dg} : isR q (.error d) = (false, .error d) := rfl
theorem isR_ok {q : Bs} {L : List Tk} : isR q (.ok L) = ((hasS q L).1, .ok (hasS q L).2) := rfl
theorem isR_true {q : Bs} {r : Except Dg (List Tk)} (h : (isR q r).1 = true) : ∃ L, r = .ok L ∧ (hasS q L).1 = true ∧ (isR q r).2 = .ok (hasS q L).2 := by
  cases r with
  | error d => cases h
  | ok L => exact ⟨L, rfl, h, rfl⟩
theorem turn_set2 (w : World) (b : Nat) (y0 y1 : Value) : Turn (fun k => k = b) w ((w.setCell ⟨b, 0, none⟩ y0).setCell ⟨b, 1, none⟩ y1) := turn_then (Turn.setCell _ _ _ rfl) (Turn.setCell _ _ _ rfl)
theorem ref_of {r : Except Dg (List Tk)} {s : Bs} (h1 : ∀ L a' l, r = .ok L → nameS L = .ok (a', l) → s = a') (hb : (isR [35] (stp nameS r)).1 = false) :
    stp refS r = (isR [35] (stp nameS r)).2 ∧ ∀ L a' l, r = .ok L → refS L = .ok (a', l) → (⟨s, []⟩ : Rf) = a' := by
  cases r with
  | error d => exact ⟨rfl, fun L a' l h => by cases h⟩
  | ok L =>
    cases hn : nameS L with
    | error d =>
      refine ⟨by rw [stp_err (refS_err hn), stp_err hn]; rfl, fun L' a' l h h2 => ?_⟩
      cases h
      rw [refS_err hn] at h2; cases h2
    | ok p =>
      obtain ⟨a, l⟩ := p
      have hs := h1 L a l rfl hn
      subst hs
      rw [stp_ok hn] at hb ⊢
      have hr := refS_one hn (show (hasS [35] l).1 = false from hb)
      exact ⟨stp_ok hr, fun L' a' l' h h2 => by cases h; rw [hr] at h2; cases h2; rfl⟩
theorem ref_of2 {r : Except Dg (List Tk)} {s o : Bs} (h1 : ∀ L a' l, r = .ok L → nameS L = .ok (a', l) → s = a') (hb : (isR [35] (stp nameS r)).1 = true) (h2 : ∀ L a' l, (isR [35] (stp nameS r)).2 = .ok L → nameS L = .ok (a', l) → o = a') :
    stp refS r = stp nameS (isR [35] (stp nameS r)).2 ∧ ∀ L a' l, r = .ok L → refS L = .ok (a', l) → (⟨s, o⟩ : Rf) = a' := by
  cases r with
  | error d => cases hb
  | ok L =>
    cases hn : nameS L with
    | error d => rw [stp_err hn] at hb; cases hb
    | ok p =>
      obtain ⟨a, l⟩ := p
      have hs := h1 L a l rfl hn
      subst hs
      rw [stp_ok hn] at hb h2 ⊢
      have hb' : (hasS [35] l).1 = true := hb
      cases ho : nameS (hasS [35] l).2 with
      | error d =>
        have hr := refS_err2 hn hb' ho
        exact ⟨by rw [stp_err hr]; exact (stp_err ho).symm, fun L' a' l' h h3 => by cases h; rw [hr] at h3; cases h3⟩
      | ok q =>
        obtain ⟨o', l2⟩ := q
        have := h2 _ o' l2 rfl ho
        subst this
        have hr := refS_two hn hb' ho
        exact ⟨by rw [stp_ok hr]; exact (stp_ok ho).symm, fun L' a' l' h h3 => by cases h; rw [hr] at h3; cases h3; rfl⟩
set_option maxRecDepth 100000 in
set_option maxHeartbeats 2000000 in
theorem ref_any {w : World} {rb : Nat} {op : Int} (r : Except Dg (List Tk)) (h : St w rb op r) : Calls Tryd.prog 55 #[.pointer (some ⟨rb, 0, none⟩)] w (Any rb op w RefRet refS r) := by
  have hlt := h.lt
  have H0 := Lib.hid (h.alloc (.cells #[.string ⟨#[]⟩, .string ⟨#[]⟩] 81))
  clear h
  go_enter Tryd.func55, Tryd.ntmps55
  go_wp2_with fail
  refine (name_any r H0.out).mono ?_
  rintro e w1 ⟨s, rfl, hA1, hS1, hv1⟩
  have hA01 := ((At.refl rb w).alloc_new (.cells #[.string ⟨#[]⟩, .string ⟨#[]⟩] 81)).trans hA1
  have hrb1 := hA1.kept (heap_alloc_new w (.cells #[.string ⟨#[]⟩, .string ⟨#[]⟩] 81)) (Nat.ne_of_gt hlt)
  have HV1 := Lib.hid hv1
  have HA1 := Lib.hid hA01
  have HS1 := Lib.hid hS1
  have HRB1 := Lib.hid hrb1
  have hs1 := lt_of_heap hrb1
  clear hA1 hS1 hv1 hA01 hrb1
  go_wp2_with fail
  refine (is_any _ (HS1.out.alloc _) _ [35] rfl (by simp) (by simp)).mono ?_
  rintro e w2 ⟨rfl, hS2, hA2⟩
  have hrb2 := hA2.kept ((alloc_old _ hs1).trans HRB1.out) (Nat.ne_of_gt hlt)
  have hxb2 := hA2.kept (heap_alloc_new w1 (.cells #[vs s, .string ⟨#[]⟩] 81)) (by omega)
  have HA2 := Lib.hid ((HA1.out.alloc_new (.cells #[vs s, .string ⟨#[]⟩] 81)).trans hA2)
  have HS2 := Lib.hid hS2
  have HRB2 := Lib.hid hrb2
  have HXB2 := Lib.hid hxb2
  have hs2 := hA2.size
  simp at hs2
  clear hA2 hS2
  generalize w1.heap.size = xb at *
  obtain ⟨q0, q1, j0, j1⟩ := two_of hrb2
  obtain ⟨x0, x1, f0, f1⟩ := two_of hxb2
  cases hb : (isR [35] (stp nameS r)).1 with
  | false =>
    obtain ⟨hst, hval⟩ := ref_of HV1.out hb
    have HF := Lib.hid (And.intro hst hval)
    clear hb hst hval hrb2 hxb2
    go_wp2
    refine bodyPost_ret (results_cell_row rfl _ _ w.heap.size 81 #[vs s, .string ⟨#[]⟩] (0, 0) _ rfl (set2 HRB2.out _ _) Tryd.underlying81 rfl (by kernel_rfl)) rfl ?_
    obtain ⟨hst, hval⟩ := HF.out
    refine ⟨⟨s, []⟩, rfl, (HA2.out.set_new (Nat.le_refl _) 0 _).set_new (Nat.le_refl _) 1 _, ?_, hval⟩
    rw [hst]
    exact HS2.out.turn (turn_set2 _ _ _ _) (fun b hb e => by omega)
  | true =>
    have HB := Lib.hid hb
    clear hb q0 q1 j0 j1 x0 x1 f0 f1 hrb2 hxb2
    go_wp2_with fail
    refine (name_any _ HS2.out).mono ?_
    rintro e w3 ⟨o, rfl, hA3, hS3, hv3⟩
    obtain ⟨hst, hval⟩ := ref_of2 HV1.out HB.out hv3
    have hrb3 := hA3.kept HRB2.out (Nat.ne_of_gt hlt)
    have hxb3 := hA3.kept HXB2.out (by omega)
    have hne : w.heap.size ≠ xb := by omega
    have hA4 := (HA2.out.trans hA3).set_new (b := xb) (by omega) 1 (vs o)
    have hS4 : St (w3.setCell ⟨xb, 1, none⟩ (vs o)) rb op _ := hS3.turn (Turn.setCell (fp := fun b => b = xb) w3 ⟨xb, 1, none⟩ (vs o) rfl) (fun b hb e => by omega)
    have hrb4 := (heap_setCell_other w3 ⟨xb, 1, none⟩ w.heap.size (vs o) hne).trans hrb3
    have HF := Lib.hid (And.intro hst (And.intro hval (And.intro hA4 (And.intro hS4 hrb4))))
    obtain ⟨q0, q1, j0, j1⟩ := two_of hrb3
    obtain ⟨x0, x1, f0, f1⟩ := two_of hxb3
    have hne' := hne.symm
    clear hst hval hA4 hS4 hrb4 hA3 hS3 hv3 hrb3 hxb3
    go_wp2
    obtain ⟨hst, hval, hA4, hS4, hrb4⟩ := HF.out
    refine bodyPost_ret (results_cell_row rfl _ _ w.heap.size 81 #[vs s, vs o] (0, 0) _ rfl (set2 hrb4 _ _) Tryd.underlying81 rfl (by kernel_rfl)) rfl ?_
    refine ⟨⟨s, o⟩, rfl, (hA4.set_new (Nat.le_refl _) 0 _).set_new (Nat.le_refl _) 1 _, ?_, hval⟩
    rw [hst]
    exact hS4.turn (turn_set2 _ _ _ _) (fun b hb e => by omega)
end Go.Proofs.YtgmlcnikphbiiaaDoor.L

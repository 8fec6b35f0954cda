/-
  JsonBack: the walk.
-/
import Derived.Test.YtminegmjklehnaaDoorJsonAw
import Derived.Test.YtminegmjklehnaaDoorJsonWt
namespace Go.Proofs.YtminegmjklehnaaDoor.J
open Go.RowKit Go.Proofs.YtminegmjklehnaaDoor.B
open Go.Proofs.YtminegmjklehnaaDoor.M hiding Bs
open Go.Proofs.YtminegmjklehnaaDoor.C (QRow Turn)
set_option linter.unusedVariables false
set_option linter.unusedSimpArgs false

theorem BsV.form {w : World} {v : Value} {L : Bs} (h : BsV w v L) : ∃ A c, v = .slice A L.length c := by
  rcases h with ⟨rfl, A, c, rfl⟩ | ⟨g, off, cap, rfl, -⟩
  · exact ⟨A, c, rfl⟩
  · exact ⟨_, _, rfl⟩
theorem same_refl : ∀ j : Js, sameJ j j = true
  | .mk k n t names nk kid => by
    rw [sameJ_at, beq_self_eq_true, Bool.true_and]
    split
    · rfl
    split
    · simp
    split
    · simp
    · rw [beq_self_eq_true, Bool.or_true, Bool.true_and]
      unfold kidsEq
      rw [dif_pos rfl]
      exact andTo_true (fun i => same_refl (kid i))
theorem show_pos (j : Js) : 0 < (showJ j).length := by
  obtain ⟨c, r, h, -⟩ := show_nosp j
  rw [h]; simp
set_option maxRecDepth 100000 in
set_option maxHeartbeats 16000000 in
theorem back_calls {j : Js} {w : World} {F : Nat → Prop} {k n : Int} {t : Bs} {A : Option Addr} {an ac : Nat} {B : Option Addr} {bn bc : Nat} (h : JsV w F j (jAgg k n t A an ac B bn bc)) (hf : FitJ j) (hT : TabW w) (hP : TabP w) :
    Calls Tryd.prog 3 #[jAgg k n t A an ac B bn bc] w (BRet w true) := by
  have hb0 : Below w.heap.size w (w.alloc (.cells (jcs k n t A an ac B bn bc) 25)) := (Below.refl _ w).alloc (Nat.le_refl _) _
  have hj0 := heap_alloc_new w (.cells (jcs k n t A an ac B bn bc) 25)
  have HAW := Lib.hid (awake_calls (hT.below hb0) (hP.below hb0))
  have HT := Lib.hid (hT.below hb0)
  have HP := Lib.hid (hP.below hb0)
  have HJ := Lib.hid (h.below hb0)
  have HF := Lib.hid hf
  have HB0 := Lib.hid hb0
  have HJ0 := Lib.hid hj0
  clear h hf hT hP hb0 hj0
  go_enter Tryd.func3, Tryd.ntmps3
  go_wp2_with fail
  generalize (w.alloc (.cells (jcs k n t A an ac B bn bc) 25)) = V at *
  refine HAW.out.mono ?_
  rintro e w1 ⟨rfl, hb⟩
  have HB1 := Lib.hid hb
  have HW := Lib.hid (Weight_calls j w1 F k n t A an ac B bn bc 600 (HJ.out.below hb) HF.out (by decide) (by decide))
  have hj1 := (hb.block _ (lt_of_heap HJ0.out)).trans HJ0.out
  obtain ⟨i0, i1, i2, i3, i4, -⟩ := five_of hj1
  have HJ1 := Lib.hid hj1
  clear hb HAW hj1
  go_wp2_with fail
  refine HW.out.mono ?_
  rintro e w2 ⟨r, rfl, hok, hb⟩
  have HB2 := Lib.hid (keepB HB1.out hb)
  have hj2 := (hb.block _ (lt_of_heap HJ1.out)).trans HJ1.out
  obtain ⟨i0, i1, i2, i3, i4, -⟩ := five_of hj2
  have HJ2 := Lib.hid hj2
  have HOK := Lib.hid hok
  clear hb hok HW hj2 HJ1
  by_cases hr : r = 0
  · subst hr
    go_wp2
    go_ret
    exact ⟨rfl, keepB HB0.out HB2.out⟩
  have hrb : (r == 0) = false := beq_eq_false_iff_ne.2 hr
  have HSM := Lib.hid (show mayJ j 12 = true → SmallJ j from fun hm => (HOK.out.2.2 (by have := HOK.out.1; omega) 12 hm).1)
  have HSL := Lib.hid (show mayJ j 12 = true → (showJ j).length ≤ 5000000 from fun hm => by
    have h0 := HOK.out.1
    have := (HOK.out.2.2 (by omega) 12 hm).2
    omega)
  have HE := Lib.hid (Encode_calls (HJ.out.below HB2.out) HF.out HSM.out (HT.out.below HB2.out) (HP.out.below HB2.out))
  clear HOK
  go_wp2_with fail
  refine HE.out.mono ?_
  rintro e w3 ⟨hb, v, rfl, hv⟩
  obtain ⟨vA, vc, rfl⟩ := hv.form
  have HB3 := Lib.hid (keepB HB2.out hb)
  have hj3 := (hb.block _ (lt_of_heap HJ2.out)).trans HJ2.out
  obtain ⟨i0, i1, i2, i3, i4, -⟩ := five_of hj3
  have HJ3 := Lib.hid hj3
  have HV := Lib.hid hv
  have HM := Lib.hid (May_calls (HJ.out.below HB3.out) HF.out (HT.out.below HB3.out))
  clear hb hv HE hj3 HJ2
  go_wp2_with fail
  refine HM.out.mono ?_
  rintro e w4 ⟨rfl, hb⟩
  have HB4 := Lib.hid (keepB HB3.out hb)
  have hj4 := (hb.block _ (lt_of_heap HJ3.out)).trans HJ3.out
  have HV4 := Lib.hid (HV.out.below hb)
  have HJ4 := Lib.hid hj4
  clear hb hj4 HJ3 HV
  cases hm : mayJ j 12 with
  | false =>
    have hE : encodeP j = [] := by unfold encodeP; rw [hm]; rfl
    rw [hE]
    clear hm hE
    go_wp2
    go_ret
    exact ⟨rfl, keepB HB0.out HB4.out⟩
  | true =>
    have hE : encodeP j = showJ j := by unfold encodeP; rw [hm]; rfl
    rw [hE] at HV4 ⊢
    have HD := Lib.hid (Decode_calls HV4.out (by have := HSL.out hm; omega) (TabW.tabs (HT.out.below HB4.out)))
    rw [decode_show hm] at HD
    have HSAME := Lib.hid (same_norm j 12 hm)
    clear hm hE
    go_wp2_with fail
    refine HD.out.mono ?_
    rintro e w5 ⟨hb, v, rfl, hv⟩
    obtain ⟨xk, xn, xt, xA, xan, xac, xB, xbn, xbc, rfl⟩ := hv.form
    have HB5 := Lib.hid (keepB HB4.out hb)
    have hj5 := (hb.block _ (lt_of_heap HJ4.out)).trans HJ4.out
    obtain ⟨i0, i1, i2, i3, i4, -⟩ := five_of hj5
    have l0 := cellAlloc i0 (.cells (jcs xk xn xt xA xan xac xB xbn xbc) 25)
    have l1 := cellAlloc i1 (.cells (jcs xk xn xt xA xan xac xB xbn xbc) 25)
    have l2 := cellAlloc i2 (.cells (jcs xk xn xt xA xan xac xB xbn xbc) 25)
    have l3 := cellAlloc i3 (.cells (jcs xk xn xt xA xan xac xB xbn xbc) 25)
    have l4 := cellAlloc i4 (.cells (jcs xk xn xt xA xan xac xB xbn xbc) 25)
    have hb6 : Below w5.heap.size w5 (w5.alloc (.cells (jcs xk xn xt xA xan xac xB xbn xbc) 25)) := (Below.refl _ w5).alloc (Nat.le_refl _) _
    have HB6 := Lib.hid (keepB HB5.out hb6)
    have HS := Lib.hid (Same_calls (normJ j) j _ _ _ _ _ _ _ _ _ _ _ _ _ _ _ _ _ _ _ _ _ (hv.below hb6) (HJ.out.below HB6.out))
    rw [HSAME.out] at HS
    clear hb hv HD hj5 HJ4 hb6
    go_wp2_with fail
    refine HS.out.mono ?_
    rintro e w6 ⟨rfl, hb⟩
    have HB7 := Lib.hid (keepB HB6.out hb)
    clear hb
    go_wp2
    go_ret
    exact ⟨rfl, keepB HB0.out HB7.out⟩
end Go.Proofs.YtminegmjklehnaaDoor.J

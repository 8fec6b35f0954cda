/-
  JsonEncodes: the walk. Printed by wip/tools/gen_jd_en.py.
-/
import Derived.Test.YtminegmjklehnaaGreatDoorJdT
import Derived.Test.YtminegmjklehnaaGreatDoorJdV
import Derived.Test.YtminegmjklehnaaGreatDoorJsonWt
import Derived.Test.YtminegmjklehnaaGreatDoorJsonAw
namespace Go.Proofs.YtminegmjklehnaaGreatDoor.J
open Go.RowKit Go.Proofs.YtminegmjklehnaaGreatDoor.B
open Go.Proofs.YtminegmjklehnaaGreatDoor.M hiding Bs
open Go.Proofs.YtminegmjklehnaaGreatDoor.C (QRow Turn)
set_option linter.unusedVariables false
set_option linter.unusedSimpArgs false

set_option maxRecDepth 100000 in
set_option maxHeartbeats 2000000 in
theorem dMay_calls {j : Js} {w : World} {F : Nat → Prop} {k n : Int} {t : Bs} {A : Option Addr} {an ac : Nat} {B : Option Addr} {bn bc : Nat} (h : JsV w F j (jAgg k n t A an ac B bn bc)) (hf : FitJ j) :
    Calls Tryz.prog 12 #[jAgg k n t A an ac B bn bc] w (BRet w (mayJ j 12)) := by
  have hb1 : Below w.heap.size w (w.alloc (.cells (jcs k n t A an ac B bn bc) 27)) := (Below.refl _ w).alloc (Nat.le_refl _) _
  have HM := Lib.hid (dmay_calls 12 (by decide) j _ F k n t A an ac B bn bc 0 (h.below hb1) hf (by decide))
  have HB := Lib.hid hb1
  have hj := heap_alloc_new w (.cells (jcs k n t A an ac B bn bc) 27)
  obtain ⟨j0, j1, j2, j3, j4, -⟩ := five_of hj
  clear h hf hb1 hj
  go_enter Tryz.func12, Tryz.ntmps12
  go_wp2_with fail
  refine HM.out.mono ?_
  rintro e w1 ⟨rfl, hb⟩
  have HB1 := Lib.hid (keepB HB.out hb)
  clear hb
  go_wp2
  go_ret
  exact ⟨rfl, HB1.out⟩
set_option maxRecDepth 100000 in
set_option maxHeartbeats 2000000 in
theorem dEncode_calls {j : Js} {w : World} {F : Nat → Prop} {k n : Int} {t : Bs} {A : Option Addr} {an ac : Nat} {B : Option Addr} {bn bc : Nat} (h : JsV w F j (jAgg k n t A an ac B bn bc)) (hf : FitJ j) (hs : mayJ j 12 = true → SmallJ j) :
    Calls Tryz.prog 14 #[jAgg k n t A an ac B bn bc] w (EncRet w (encodeP j)) := by
  have hb1 : Below w.heap.size w (w.alloc (.cells (jcs k n t A an ac B bn bc) 27)) := (Below.refl _ w).alloc (Nat.le_refl _) _
  have HM := Lib.hid (dMay_calls (h.below hb1) hf)
  have HS := Lib.hid (fun (hm : mayJ j 12 = true) W (hb : Below w.heap.size w W) => dshow_calls j W F k n t A an ac B bn bc (h.below hb) (hs hm))
  have HE := Lib.hid (show encodeP j = if mayJ j 12 then showJ j else [] from rfl)
  have HB := Lib.hid hb1
  have hj := heap_alloc_new w (.cells (jcs k n t A an ac B bn bc) 27)
  obtain ⟨j0, j1, j2, j3, j4, -⟩ := five_of hj
  clear h hf hs hb1 hj
  go_enter Tryz.func14, Tryz.ntmps14
  go_wp2_with fail
  refine HM.out.mono ?_
  rintro e w1 ⟨rfl, hb⟩
  have i0 := keepC hb j0
  have i1 := keepC hb j1
  have i2 := keepC hb j2
  have i3 := keepC hb j3
  have i4 := keepC hb j4
  have HB1 := Lib.hid (keepB HB.out hb)
  clear hb
  cases hm : mayJ j 12 with
  | false =>
    have HE2 := Lib.hid (HE.out.trans (show _ = ([] : Bs) by rw [hm]; rfl))
    go_wp2
    go_ret
    exact ⟨HB1.out, _, rfl, by rw [HE2.out]; exact .inl ⟨rfl, none, 0, rfl⟩⟩
  | true =>
    have HE2 := Lib.hid (HE.out.trans (show _ = showJ j by rw [hm]; rfl))
    have HC := Lib.hid (HS.out hm)
    clear hm
    go_wp2_with fail
    refine (HC.out _ HB1.out).mono ?_
    rintro e w2 ⟨rfl, hb⟩
    have HB2 := Lib.hid (keepB HB1.out hb)
    clear hb
    have hcv := Lib.run_convert_string_bytes (P := Tryz.prog) w2 9 22 5 ⟨(showJ j).toArray⟩ Tryz.underlying9 Tryz.underlying22 Tryz.underlying5
    rw [sz] at hcv
    have HW := Lib.hid (bw_bytes w2 5 (showJ j) (grownCap w2 (showJ j).length 0 5))
    have HBW := Lib.hid (keepB HB2.out (bw_below w2 5 ⟨(showJ j).toArray⟩))
    generalize Lib.bytesWorld w2 5 ⟨(showJ j).toArray⟩ = W3 at *
    go_wp2
    go_ret
    exact ⟨HBW.out, _, rfl, by rw [HE2.out]; exact HW.out⟩
theorem EncRet.form {w w' : World} {l : Bs} {e : Ending} (h : EncRet w l e w') : Below w.heap.size w w' ∧ ∃ A n c, e = .returned (.slice A n c) ∧ BsV w' (.slice A n c) l := by
  obtain ⟨hb, v, rfl, hv⟩ := h
  refine ⟨hb, ?_⟩
  rcases id hv with ⟨rfl, A, c, rfl⟩ | ⟨g, off, cap, rfl, -⟩
  · exact ⟨_, _, _, rfl, hv⟩
  · exact ⟨_, _, _, rfl, hv⟩
set_option maxRecDepth 100000 in
set_option maxHeartbeats 16000000 in
theorem encodes_calls {j : Js} {w : World} {F : Nat → Prop} {k n : Int} {t : Bs} {A : Option Addr} {an ac : Nat} {B : Option Addr} {bn bc : Nat} (h : JsV w F j (jAgg k n t A an ac B bn bc)) (hf : FitJ j) (hT : TabW w) (hP : TabP w) :
    Calls Tryz.prog 4 #[jAgg k n t A an ac B bn bc] w (BRet w true) := by
  have hb0 : Below w.heap.size w (w.alloc (.cells (jcs k n t A an ac B bn bc) 27)) := (Below.refl _ w).alloc (Nat.le_refl _) _
  have hj0 := heap_alloc_new w (.cells (jcs k n t A an ac B bn bc) 27)
  have HAW := Lib.hid (awake_calls (hT.below hb0) (hP.below hb0))
  have HT := Lib.hid (hT.below hb0)
  have HP := Lib.hid (hP.below hb0)
  have HJ := Lib.hid (h.below hb0)
  have HF := Lib.hid hf
  have HB0 := Lib.hid hb0
  have HJ0 := Lib.hid hj0
  clear h hf hT hP hb0 hj0
  go_enter Tryz.func4, Tryz.ntmps4
  go_wp2_with fail
  generalize (w.alloc (.cells (jcs k n t A an ac B bn bc) 27)) = V at *
  refine HAW.out.mono ?_
  rintro e w1 ⟨rfl, hb⟩
  have HB1 := Lib.hid hb
  have HW := Lib.hid (Weight_calls j w1 F k n t A an ac B bn bc 600 (HJ.out.below hb) HF.out (by decide) (by decide))
  have hj1 := (hb.block _ (lt_of_heap HJ0.out)).trans HJ0.out
  obtain ⟨i0, i1, i2, i3, i4, -⟩ := five_of hj1
  have HJ1 := Lib.hid hj1
  clear hb HAW hj1
  go_wp2_with fail
  refine HW.out.mono ?_
  rintro e w2 ⟨r, rfl, hok, hb⟩
  have HB2 := Lib.hid (keepB HB1.out hb)
  have hj2 := (hb.block _ (lt_of_heap HJ1.out)).trans HJ1.out
  have HOK := Lib.hid hok
  clear hb hok HW HJ1 i0 i1 i2 i3 i4
  by_cases hr : r = 0
  · subst hr
    clear hj2
    go_wp2
    go_ret
    exact ⟨rfl, keepB HB0.out HB2.out⟩
  have hrb : (r == 0) = false := beq_eq_false_iff_ne.2 hr
  have HSM := Lib.hid (show mayJ j 12 = true → SmallJ j from fun hm => (HOK.out.2.2 (by have := HOK.out.1; omega) 12 hm).1)
  have HMA := Lib.hid (fun W (hb : Below V.heap.size V W) => May_calls (HJ.out.below hb) HF.out (HT.out.below hb))
  have HRM := Lib.hid (fun W (hb : Below V.heap.size V W) => dMay_calls (HJ.out.below hb) HF.out)
  have HEN := Lib.hid (fun W (hb : Below V.heap.size V W) => Encode_calls (HJ.out.below hb) HF.out HSM.out (HT.out.below hb) (HP.out.below hb))
  have HRE := Lib.hid (fun W (hb : Below V.heap.size V W) => dEncode_calls (HJ.out.below hb) HF.out HSM.out)
  generalize mayJ j 12 = m at *
  generalize encodeP j = el at *
  have HBD := Lib.hid (show Below V.heap.size V w2.drew from below_drewN HB2.out 1)
  obtain ⟨p0, p1, p2, p3, p4, -⟩ := five_of (show w2.drew.heap[w.heap.size]? = _ from hj2)
  obtain ⟨i0, i1, i2, i3, i4, -⟩ := five_of hj2
  clear hr HOK hj2
  go_wp2_with fail
  go_region_law (first
    | (go_simp; (with_reducible refine (HMA.out _ HBD.out).mono ?_); rintro e wm ⟨rfl, hb⟩
       have HBm := Lib.hid (keepB HBD.out hb)
       have p0m := keepC hb p0
       have p1m := keepC hb p1
       have p2m := keepC hb p2
       have p3m := keepC hb p3
       have p4m := keepC hb p4
       clear hb)
    | (go_simp; (with_reducible refine (HRM.out _ HBm.out).mono ?_); rintro e wmr ⟨rfl, hb⟩
       have HBmr := Lib.hid (keepB HBm.out hb)
       have p0mr := keepC hb p0m
       have p1mr := keepC hb p1m
       have p2mr := keepC hb p2m
       have p3mr := keepC hb p3m
       have p4mr := keepC hb p4m
       clear hb)
    | (go_simp; (with_reducible refine (HEN.out _ HBmr.out).mono ?_); intro e wmre h9
       obtain ⟨hb, Amre, nmre, cmre, rfl, hvmre⟩ := h9.form
       have HBmre := Lib.hid (keepB HBmr.out hb)
       have HVmre := Lib.hid hvmre
       have cvmre := conv_bytes hvmre
       have p0mre := keepC hb p0mr
       have p1mre := keepC hb p1mr
       have p2mre := keepC hb p2mr
       have p3mre := keepC hb p3mr
       have p4mre := keepC hb p4mr
       clear hb hvmre h9)
    | (go_simp; (with_reducible refine (HRE.out _ HBmre.out).mono ?_); intro e wmref h9
       obtain ⟨hb, Amref, nmref, cmref, rfl, hvmref⟩ := h9.form
       have HBmref := Lib.hid (keepB HBmre.out hb)
       have HVmref := Lib.hid hvmref
       have cvmref := conv_bytes hvmref
       have p0mref := keepC hb p0mre
       have p1mref := keepC hb p1mre
       have p2mref := keepC hb p2mre
       have p3mref := keepC hb p3mre
       have p4mref := keepC hb p4mre
       have cvmrefmre := conv_bytes (HVmre.out.below hb)
       clear hb hvmref h9))
  all_goals
    go_wp2
    go_ret
    exact ⟨by first | rfl | simp [Array.getD], keepB HB0.out HBmref.out⟩
end Go.Proofs.YtminegmjklehnaaGreatDoor.J

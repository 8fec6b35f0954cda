/-
  Encode.
-/
import Derived.Test.YtminegmjklehnaaGreatDoorJsonX
import Derived.Lib.ConvBytes
namespace Go.Proofs.YtminegmjklehnaaGreatDoor.J
open Go.RowKit Go.Proofs.YtminegmjklehnaaGreatDoor.B
open Go.Proofs.YtminegmjklehnaaGreatDoor.M hiding Bs
open Go.Proofs.YtminegmjklehnaaGreatDoor.C (QRow Turn)
set_option linter.unusedVariables false
set_option linter.unusedSimpArgs false

theorem bw_below (w : World) (e : TypeId) (s : ByteArray) : Below w.heap.size w (Lib.bytesWorld w e s) :=
  ⟨rfl, rfl, rfl, by rw [Lib.bytesWorld_size]; omega, fun k hk => Lib.bytesWorld_at_old w e s k hk⟩
theorem bw_bytes (w : World) (e : TypeId) (l : Bs) (c : Nat) : BsV (Lib.bytesWorld w e ⟨l.toArray⟩) (.slice (some ⟨w.heap.size, 0, none⟩) l.length c) l :=
  .inr ⟨_, 0, c, rfl, fun i hi => by
    rw [Nat.zero_add, Lib.bytesWorld_cell w e _ i (by rw [sz]; exact hi)]
    simp [List.getD_eq_getElem?_getD, hi]⟩
def EncRet (w : World) (l : Bs) (e : Ending) (w' : World) : Prop := Below w.heap.size w w' ∧ ∃ v, e = .returned v ∧ BsV w' v l
set_option maxRecDepth 100000 in
set_option maxHeartbeats 2000000 in
theorem Encode_calls {j : Js} {w : World} {F : Nat → Prop} {k n : Int} {t : Bs} {A : Option Addr} {an ac : Nat} {B : Option Addr} {bn bc : Nat} (h : JsV w F j (jAgg k n t A an ac B bn bc)) (hf : FitJ j) (hs : mayJ j 12 = true → SmallJ j) (hT : TabW w) (hP : TabP w) :
    Calls Tryz.prog 13 #[jAgg k n t A an ac B bn bc] w (EncRet w (encodeP j)) := by
  have hb1 : Below w.heap.size w (w.alloc (.cells (jcs k n t A an ac B bn bc) 27)) := (Below.refl _ w).alloc (Nat.le_refl _) _
  have HM := Lib.hid (May_calls (h.below hb1) hf (hT.below hb1))
  have HS := Lib.hid (fun (hm : mayJ j 12 = true) W (hb : Below w.heap.size w W) => show_calls j W F k n t A an ac B bn bc (h.below hb) (hs hm) (hP.below hb))
  have HE := Lib.hid (show encodeP j = if mayJ j 12 then showJ j else [] from rfl)
  have HB := Lib.hid hb1
  have hj := heap_alloc_new w (.cells (jcs k n t A an ac B bn bc) 27)
  obtain ⟨j0, j1, j2, j3, j4, -⟩ := five_of hj
  clear h hf hs hT hP hb1 hj
  go_enter Tryz.func13, Tryz.ntmps13
  go_wp2_with fail
  refine HM.out.mono ?_
  rintro e w1 ⟨rfl, hb⟩
  have i0 := keepC hb j0
  have i1 := keepC hb j1
  have i2 := keepC hb j2
  have i3 := keepC hb j3
  have i4 := keepC hb j4
  have HB1 := Lib.hid (keepB HB.out hb)
  clear hb
  cases hm : mayJ j 12 with
  | false =>
    have HE2 := Lib.hid (HE.out.trans (show _ = ([] : Bs) by rw [hm]; rfl))
    go_wp2
    go_ret
    exact ⟨HB1.out, _, rfl, by rw [HE2.out]; exact .inl ⟨rfl, none, 0, rfl⟩⟩
  | true =>
    have HE2 := Lib.hid (HE.out.trans (show _ = showJ j by rw [hm]; rfl))
    have HC := Lib.hid (HS.out hm)
    clear hm
    go_wp2_with fail
    refine (HC.out _ HB1.out).mono ?_
    rintro e w2 ⟨rfl, hb⟩
    have HB2 := Lib.hid (keepB HB1.out hb)
    clear hb
    have hcv := Lib.run_convert_string_bytes (P := Tryz.prog) w2 9 22 5 ⟨(showJ j).toArray⟩ Tryz.underlying9 Tryz.underlying22 Tryz.underlying5
    rw [sz] at hcv
    have HW := Lib.hid (bw_bytes w2 5 (showJ j) (grownCap w2 (showJ j).length 0 5))
    have HBW := Lib.hid (keepB HB2.out (bw_below w2 5 ⟨(showJ j).toArray⟩))
    generalize Lib.bytesWorld w2 5 ⟨(showJ j).toArray⟩ = W3 at *
    go_wp2
    go_ret
    exact ⟨HBW.out, _, rfl, by rw [HE2.out]; exact HW.out⟩
end Go.Proofs.YtminegmjklehnaaGreatDoor.J

/-
  The document's Same and Field.
-/
import Derived.Test.YtminegmjklehnaaGreatDoorJsonSa
import Derived.StillTailTactics
namespace Go.Proofs.YtminegmjklehnaaGreatDoor.J
open Go.RowKit Go.Proofs.YtminegmjklehnaaGreatDoor.B
open Go.Proofs.YtminegmjklehnaaGreatDoor.M hiding Bs
open Go.Proofs.YtminegmjklehnaaGreatDoor.C (QRow Turn)
set_option linter.unusedVariables false
set_option linter.unusedSimpArgs false

/-- the document's Same, of one value. -/
def DSpec (j : Js) : Prop := ∀ (j' : Js) (w : World) (F F' : Nat → Prop) (k n : Int) (t : Bs) (A : Option Addr) (an ac : Nat) (B : Option Addr) (bn bc : Nat) (k' n' : Int) (t' : Bs) (A' : Option Addr) (an' ac' : Nat) (B' : Option Addr) (bn' bc' : Nat),
  JsV w F j (jAgg k n t A an ac B bn bc) → JsV w F' j' (jAgg k' n' t' A' an' ac' B' bn' bc') →
  Calls Tryz.prog 9 #[jAgg k n t A an ac B bn bc, jAgg k' n' t' A' an' ac' B' bn' bc'] w (BRet w (sameJ j j'))
set_option maxRecDepth 100000 in
set_option maxHeartbeats 16000000 in
theorem dsame_step {k n : Int} {t : Bs} {names : List Bs} {nk : Nat} {kid : Fin nk → Js} (hrec : ∀ i, DSpec (kid i)) : DSpec (.mk k n t names nk kid) := by
  intro j' w F F' ka na ta A an ac B bn bc kb nb tb A' an' ac' B' bn' bc' h h'
  obtain ⟨kb0, nb0, tb0, names', nk', kid'⟩ := j'
  obtain ⟨rfl, rfl, rfl, rfl, rfl, hns, hnk, hac⟩ := h.shape
  obtain ⟨rfl, rfl, rfl, rfl, rfl, hns', hnk', hac'⟩ := h'.shape
  have hnl := hns.2.1
  have hnl' := hns'.2.1
  have hM := sameJ_at ka na ta names bn kid kb nb tb names' bn' kid'
  obtain ⟨hc1, hc2, hb⟩ := two_jboxes (w := w) (c1 := jcs ka na ta A names.length ac B bn bc) (c2 := jcs kb nb tb A' names'.length ac' B' bn' bc') (t := 27) (Below.refl _ _)
  obtain ⟨i0, i1, i2, i3, i4, -⟩ := five_of hc1
  obtain ⟨j0, j1, j2, j3, j4, -⟩ := five_of hc2
  have HB := Lib.hid hb
  have HS := Lib.hid hns
  have HS' := Lib.hid hns'
  have HJ := Lib.hid h
  have HJ' := Lib.hid h'
  have HREC := Lib.hid hrec
  have HC0 := Lib.hid (And.intro hc1 hc2)
  clear h h' hc1 hc2 hb hns hns' hrec
  by_cases hk : ka = kb
  rotate_left
  · rw [beq_eq_false_iff_ne.2 hk, Bool.false_and] at hM
    have HM := Lib.hid hM
    clear hM
    go_enter Tryz.func9, Tryz.ntmps9
    go_wp2
    go_ret
    exact ⟨by rw [HM.out]; rfl, HB.out⟩
  subst hk
  rw [beq_self_eq_true, Bool.true_and] at hM
  by_cases k0 : ka = 0
  · subst k0
    rw [if_pos rfl] at hM
    have HM := Lib.hid hM
    clear hM
    go_enter Tryz.func9, Tryz.ntmps9
    go_wp2
    go_ret
    exact ⟨by rw [HM.out]; rfl, HB.out⟩
  rw [if_neg k0] at hM
  by_cases k1 : ka = 1
  · subst k1
    rw [if_pos (.inl rfl)] at hM
    have HM := Lib.hid hM
    clear hM
    go_enter Tryz.func9, Tryz.ntmps9
    go_wp2
    go_ret
    exact ⟨by rw [HM.out]; first | rfl | simp, HB.out⟩
  by_cases k2 : ka = 2
  · subst k2
    rw [if_pos (.inr rfl)] at hM
    have HM := Lib.hid hM
    clear hM
    go_enter Tryz.func9, Tryz.ntmps9
    go_wp2
    go_ret
    exact ⟨by rw [HM.out]; first | rfl | simp, HB.out⟩
  rw [if_neg (by omega)] at hM
  by_cases k3 : ka = 3
  · subst k3
    rw [if_pos rfl] at hM
    have HM := Lib.hid hM
    clear hM
    go_enter Tryz.func9, Tryz.ntmps9
    go_wp2
    go_ret
    exact ⟨by rw [HM.out]; first | rfl | simp, HB.out⟩
  rw [if_neg k3] at hM
  by_cases hnn : bn = bn'
  rotate_left
  · have hne : ((bn : Int) != (bn' : Int)) = true := bne_iff_ne.2 (by omega)
    have HM := Lib.hid (hM.trans (show _ = false by unfold kidsEq; rw [dif_neg hnn, Bool.and_false]))
    clear hM hnn
    by_cases k5 : ka = 5
    · subst k5
      go_enter Tryz.func9, Tryz.ntmps9
      go_wp2
      go_ret
      exact ⟨by rw [HM.out]; rfl, HB.out⟩
    · have e0 : (ka == 0) = false := beq_eq_false_iff_ne.2 k0
      have e1 : (ka == 1) = false := beq_eq_false_iff_ne.2 k1
      have e2 : (ka == 2) = false := beq_eq_false_iff_ne.2 k2
      have e3 : (ka == 3) = false := beq_eq_false_iff_ne.2 k3
      go_enter Tryz.func9, Tryz.ntmps9
      go_wp2
      go_ret
      exact ⟨by rw [HM.out]; rfl, HB.out⟩
  subst hnn
  have HK := Lib.hid (show kidsEq kid kid' = allTo (n := bn) (fun i => sameJ (kid i) (kid' i)) bn by unfold kidsEq; rw [dif_pos rfl, andTo_all]; rfl)
  have hne : ((bn : Int) != (bn : Int)) = false := by simp
  by_cases k5 : ka = 5
  rotate_left
  · rw [show (ka != 5) = true by simpa using k5, Bool.true_or, Bool.true_and] at hM
    have HM := Lib.hid hM
    have e0 : (ka == 0) = false := beq_eq_false_iff_ne.2 k0
    have e1 : (ka == 1) = false := beq_eq_false_iff_ne.2 k1
    have e2 : (ka == 2) = false := beq_eq_false_iff_ne.2 k2
    have e3 : (ka == 3) = false := beq_eq_false_iff_ne.2 k3
    have e5 : (ka == 5) = false := beq_eq_false_iff_ne.2 k5
    clear hM k0 k1 k2 k3 k5
    go_enter Tryz.func9, Tryz.ntmps9
    go_wp2_with fail
    go_loopw [5] (fun v5 wr => v5 = .int .i64 0 ∧ Hid (Below w.heap.size w wr) ∧ Hid (wr.heap[w.heap.size]? = some (.cells (jcs ka na ta A names.length ac B bn bc) 27 (0, 0)) ∧ wr.heap[w.heap.size + 1]? = some (.cells (jcs ka nb tb A' names'.length ac' B' bn bc') 27 (0, 0)))) (fun v5 _ => 0)
    case atStart => exact ⟨rfl, HB, HC0⟩
    case round =>
      obtain ⟨rfl, HBR, HCC⟩ := hrel
      obtain ⟨p0, -, -, p3, p4, -⟩ := five_of HCC.out.1
      obtain ⟨-, -, -, -, q4, -⟩ := five_of HCC.out.2
      clear i0 i1 i2 i3 i4 j0 j1 j2 j3 j4
      by_cases hl : 0 < names.length
      · go_wp2_with fail
        go_loopw [6, 7] (fun v6 v7 wr => ∃ j : Nat, j ≤ bn ∧ v6 = .int .i64 j ∧ Hid (allTo (n := bn) (fun i => sameJ (kid i) (kid' i)) j = true) ∧ Hid (Below w.heap.size w wr) ∧ Hid (wr.heap[w.heap.size]? = some (.cells (jcs ka na ta A names.length ac B bn bc) 27 (0, 0)) ∧ wr.heap[w.heap.size + 1]? = some (.cells (jcs ka nb tb A' names'.length ac' B' bn bc') 27 (0, 0)))) (fun v6 _ _ => bn - (intOf v6).toNat)
        case atStart => exact ⟨0, Nat.zero_le _, rfl, Lib.hid rfl, HBR, HCC⟩
        case round =>
          obtain ⟨j, hjn, rfl, HALL, HBQ, HCQ⟩ := hrel
          obtain ⟨-, -, -, -, p4, -⟩ := five_of HCQ.out.1
          obtain ⟨-, -, -, -, q4, -⟩ := five_of HCQ.out.2
          by_cases hj : j < bn
          · have hS := HJ.out.below HBQ.out
            have hS' := HJ'.out.below HBQ.out
            obtain ⟨ad, p, k0, n0, t0, A0, an0, ac0, B0, bn0, bc0, rfl, hp, -, d0, d1, d2, d3, d4, hk⟩ := hS.kid j hj
            obtain ⟨ad', p', k1, n1, t1, A1, an1, ac1, B1, bn1, bc1, rfl, hp', -, d0', d1', d2', d3', d4', hk'⟩ := hS'.kid j hj
            have HST := Lib.hid (allTo_step (n := bn) (fun i => sameJ (kid i) (kid' i)) hj)
            have HAF := Lib.hid (allTo_false (n := bn) (fun i => sameJ (kid i) (kid' i)) bn hj hj)
            have HBD := Lib.hid (below_drew HBQ.out)
            have HCD := Lib.hid (show wr.drew.heap[w.heap.size]? = some (.cells (jcs ka na ta A names.length ac (some ad) bn bc) 27 (0, 0)) ∧ wr.drew.heap[w.heap.size + 1]? = some (.cells (jcs ka nb tb A' names'.length ac' (some ad') bn bc') 27 (0, 0)) from HCQ.out)
            have HC := Lib.hid (HREC.out ⟨j, hj⟩ _ wr.drew F F' _ _ _ _ _ _ _ _ _ _ _ _ _ _ _ _ _ _ (hk.below (below_drewN (Below.refl _ wr) 1)) (hk'.below (below_drewN (Below.refl _ wr) 1)))
            obtain ⟨m, hm⟩ : ∃ m, sameJ (kid ⟨j, hj⟩) (kid' ⟨j, hj⟩) = m := ⟨_, rfl⟩
            rw [hm] at HST HAF HC
            have HMM := Lib.hid hm
            clear hm hk hS hk' hS'
            go_wp2
            go_still_tail 10, (by kernel_rfl)
            change wpList _ _ _ _ _ wr.drew
            clear d0 d1 d2 d3 d4 d0' d1' d2' d3' d4' p4 q4 HBQ HCQ
            generalize wr.drew = wd at *
            go_wp2_with fail
            refine HC.out.mono ?_
            rintro e w1 ⟨rfl, hb⟩
            have HB1 := Lib.hid (keepB HBD.out hb)
            have HC1 := Lib.hid (And.intro ((hb.block _ (lt_of_heap HCD.out.1)).trans HCD.out.1) ((hb.block _ (lt_of_heap HCD.out.2)).trans HCD.out.2))
            clear hb
            cases m
            · go_wp2
              go_ret
              exact ⟨by rw [HM.out, HK.out, HAF.out trivial]; rfl, HB1.out⟩
            · go_wp2
              exact ⟨⟨j + 1, by omega, by go_num, Lib.hid (by rw [HST.out, HALL.out]; rfl), HB1, HC1⟩, by simp [intOf]; omega⟩
          · have hjn' : j = bn := by omega
            subst hjn'
            go_wp2
            go_ret
            exact ⟨by rw [HM.out, HK.out, HALL.out]; rfl, HBQ.out⟩
      · go_wp2_with fail
        go_loopw [6, 7] (fun v6 v7 wr => ∃ j : Nat, j ≤ bn ∧ v6 = .int .i64 j ∧ Hid (allTo (n := bn) (fun i => sameJ (kid i) (kid' i)) j = true) ∧ Hid (Below w.heap.size w wr) ∧ Hid (wr.heap[w.heap.size]? = some (.cells (jcs ka na ta A names.length ac B bn bc) 27 (0, 0)) ∧ wr.heap[w.heap.size + 1]? = some (.cells (jcs ka nb tb A' names'.length ac' B' bn bc') 27 (0, 0)))) (fun v6 _ _ => bn - (intOf v6).toNat)
        case atStart => exact ⟨0, Nat.zero_le _, rfl, Lib.hid rfl, HBR, HCC⟩
        case round =>
          obtain ⟨j, hjn, rfl, HALL, HBQ, HCQ⟩ := hrel
          obtain ⟨-, -, -, -, p4, -⟩ := five_of HCQ.out.1
          obtain ⟨-, -, -, -, q4, -⟩ := five_of HCQ.out.2
          by_cases hj : j < bn
          · have hS := HJ.out.below HBQ.out
            have hS' := HJ'.out.below HBQ.out
            obtain ⟨ad, p, k0, n0, t0, A0, an0, ac0, B0, bn0, bc0, rfl, hp, -, d0, d1, d2, d3, d4, hk⟩ := hS.kid j hj
            obtain ⟨ad', p', k1, n1, t1, A1, an1, ac1, B1, bn1, bc1, rfl, hp', -, d0', d1', d2', d3', d4', hk'⟩ := hS'.kid j hj
            have HST := Lib.hid (allTo_step (n := bn) (fun i => sameJ (kid i) (kid' i)) hj)
            have HAF := Lib.hid (allTo_false (n := bn) (fun i => sameJ (kid i) (kid' i)) bn hj hj)
            have HBD := Lib.hid (below_drew HBQ.out)
            have HCD := Lib.hid (show wr.drew.heap[w.heap.size]? = some (.cells (jcs ka na ta A names.length ac (some ad) bn bc) 27 (0, 0)) ∧ wr.drew.heap[w.heap.size + 1]? = some (.cells (jcs ka nb tb A' names'.length ac' (some ad') bn bc') 27 (0, 0)) from HCQ.out)
            have HC := Lib.hid (HREC.out ⟨j, hj⟩ _ wr.drew F F' _ _ _ _ _ _ _ _ _ _ _ _ _ _ _ _ _ _ (hk.below (below_drewN (Below.refl _ wr) 1)) (hk'.below (below_drewN (Below.refl _ wr) 1)))
            obtain ⟨m, hm⟩ : ∃ m, sameJ (kid ⟨j, hj⟩) (kid' ⟨j, hj⟩) = m := ⟨_, rfl⟩
            rw [hm] at HST HAF HC
            have HMM := Lib.hid hm
            clear hm hk hS hk' hS'
            go_wp2
            go_still_tail 10, (by kernel_rfl)
            change wpList _ _ _ _ _ wr.drew
            clear d0 d1 d2 d3 d4 d0' d1' d2' d3' d4' p4 q4 HBQ HCQ
            generalize wr.drew = wd at *
            go_wp2_with fail
            refine HC.out.mono ?_
            rintro e w1 ⟨rfl, hb⟩
            have HB1 := Lib.hid (keepB HBD.out hb)
            have HC1 := Lib.hid (And.intro ((hb.block _ (lt_of_heap HCD.out.1)).trans HCD.out.1) ((hb.block _ (lt_of_heap HCD.out.2)).trans HCD.out.2))
            clear hb
            cases m
            · go_wp2
              go_ret
              exact ⟨by rw [HM.out, HK.out, HAF.out trivial]; rfl, HB1.out⟩
            · go_wp2
              exact ⟨⟨j + 1, by omega, by go_num, Lib.hid (by rw [HST.out, HALL.out]; rfl), HB1, HC1⟩, by simp [intOf]; omega⟩
          · have hjn' : j = bn := by omega
            subst hjn'
            go_wp2
            go_ret
            exact ⟨by rw [HM.out, HK.out, HALL.out]; rfl, HBQ.out⟩
  subst k5
  rw [show ((5 : Int) != 5) = false from rfl, Bool.false_or] at hM
  by_cases hln : names.length = names'.length
  rotate_left
  · have hne2 : ((names.length : Int) != (names'.length : Int)) = true := bne_iff_ne.2 (by omega)
    have HM := Lib.hid (hM.trans (show _ = false by rw [show (names == names') = false from beq_eq_false_iff_ne.2 (fun e => hln (by rw [e])), Bool.false_and]))
    clear hM hln
    go_enter Tryz.func9, Tryz.ntmps9
    go_wp2
    go_ret
    exact ⟨by rw [HM.out]; rfl, HB.out⟩
  have hne2 : ((names.length : Int) != (names'.length : Int)) = false := by rw [hln]; simp
  have HLN := Lib.hid hln
  have HM0 := Lib.hid hM
  clear hM k0 k1 k2 k3 hln
  go_enter Tryz.func9, Tryz.ntmps9
  go_wp2_with fail
  go_loopw [5] (fun v5 wr => ∃ i : Nat, i ≤ names.length ∧ v5 = .int .i64 i ∧ Hid (names.take i = names'.take i) ∧ Hid (Below w.heap.size w wr) ∧ Hid (wr.heap[w.heap.size]? = some (.cells (jcs 5 na ta A names.length ac B bn bc) 27 (0, 0)) ∧ wr.heap[w.heap.size + 1]? = some (.cells (jcs 5 nb tb A' names'.length ac' B' bn bc') 27 (0, 0)))) (fun v5 _ => names.length - (intOf v5).toNat)
  case atStart => exact ⟨0, Nat.zero_le _, rfl, Lib.hid rfl, HB, HC0⟩
  case round =>
    obtain ⟨i, hin, rfl, HEQ, HBR, HCC⟩ := hrel
    obtain ⟨p0, -, -, p3, p4, -⟩ := five_of HCC.out.1
    obtain ⟨-, -, -, q3, q4, -⟩ := five_of HCC.out.2
    clear i0 i1 i2 i3 i4 j0 j1 j2 j3 j4
    by_cases hi : i < names.length
    · obtain ⟨x, hx⟩ : ∃ x, names[i]? = some x := ⟨names[i]'hi, List.getElem?_eq_getElem _⟩
      obtain ⟨y, hy⟩ : ∃ y, names'[i]? = some y := ⟨names'[i]'(by rw [← HLN.out]; exact hi), List.getElem?_eq_getElem _⟩
      obtain ⟨a1, p1, rfl, hp1, -, d1⟩ := str_cell (HS.out.below (R' := StrR) (by decide) HBR.out (fun _ _ h => h)) hx
      obtain ⟨a2, p2, rfl, hp2, -, d2⟩ := str_cell (HS'.out.below (R' := StrR) (by decide) HBR.out (fun _ _ h => h)) hy
      have hi' : (i : Int) < (names'.length : Int) := by have := HLN.out; omega
      have HX := Lib.hid hx
      have HY := Lib.hid hy
      have HBD := Lib.hid (below_drew HBR.out)
      have HCD := Lib.hid (show wr.drew.heap[w.heap.size]? = some (.cells (jcs 5 na ta (some a1) names.length ac B bn bc) 27 (0, 0)) ∧ wr.drew.heap[w.heap.size + 1]? = some (.cells (jcs 5 nb tb (some a2) names'.length ac' B' bn bc') 27 (0, 0)) from HCC.out)
      clear hx hy
      cases he : (x == y) with
      | true =>
        have HST := Lib.hid (take_snoc_eq HX.out (by rw [HY.out, eq_of_beq he]) HEQ.out)
        go_wp2_with fail
        go_region
        go_wp2
        exact ⟨⟨i + 1, by omega, by go_num, HST, HBD, HCD⟩, by simp [intOf]; omega⟩
      | false =>
        have HNE := Lib.hid (HM0.out.trans (show _ = false by
          rw [show (names == names') = false from beq_eq_false_iff_ne.2 (fun e => by
            subst e
            have := HX.out.symm.trans HY.out
            cases this
            simp at he)]
          rfl))
        go_wp2_with fail
        go_region
        go_wp2
        go_ret
        exact ⟨by rw [HNE.out]; rfl, HBD.out⟩
    · have hie : i = names.length := by omega
      subst hie
      have HM := Lib.hid (HM0.out.trans (show _ = kidsEq kid kid' by
        have := HEQ.out
        rw [List.take_length, HLN.out, List.take_length] at this
        rw [this]; simp))
      go_wp2_with fail
      go_loopw [6, 7] (fun v6 v7 wr => ∃ j : Nat, j ≤ bn ∧ v6 = .int .i64 j ∧ Hid (allTo (n := bn) (fun i => sameJ (kid i) (kid' i)) j = true) ∧ Hid (Below w.heap.size w wr) ∧ Hid (wr.heap[w.heap.size]? = some (.cells (jcs 5 na ta A names.length ac B bn bc) 27 (0, 0)) ∧ wr.heap[w.heap.size + 1]? = some (.cells (jcs 5 nb tb A' names'.length ac' B' bn bc') 27 (0, 0)))) (fun v6 _ _ => bn - (intOf v6).toNat)
      case atStart => exact ⟨0, Nat.zero_le _, rfl, Lib.hid rfl, HBR, HCC⟩
      case round =>
        obtain ⟨j, hjn, rfl, HALL, HBQ, HCQ⟩ := hrel
        obtain ⟨-, -, -, -, p4, -⟩ := five_of HCQ.out.1
        obtain ⟨-, -, -, -, q4, -⟩ := five_of HCQ.out.2
        by_cases hj : j < bn
        · have hS := HJ.out.below HBQ.out
          have hS' := HJ'.out.below HBQ.out
          obtain ⟨ad, p, k0, n0, t0, A0, an0, ac0, B0, bn0, bc0, rfl, hp, -, d0, d1, d2, d3, d4, hk⟩ := hS.kid j hj
          obtain ⟨ad', p', k1, n1, t1, A1, an1, ac1, B1, bn1, bc1, rfl, hp', -, d0', d1', d2', d3', d4', hk'⟩ := hS'.kid j hj
          have HST := Lib.hid (allTo_step (n := bn) (fun i => sameJ (kid i) (kid' i)) hj)
          have HAF := Lib.hid (allTo_false (n := bn) (fun i => sameJ (kid i) (kid' i)) bn hj hj)
          have HBD := Lib.hid (below_drew HBQ.out)
          have HCD := Lib.hid (show wr.drew.heap[w.heap.size]? = some (.cells (jcs 5 na ta A names.length ac (some ad) bn bc) 27 (0, 0)) ∧ wr.drew.heap[w.heap.size + 1]? = some (.cells (jcs 5 nb tb A' names'.length ac' (some ad') bn bc') 27 (0, 0)) from HCQ.out)
          have HC := Lib.hid (HREC.out ⟨j, hj⟩ _ wr.drew F F' _ _ _ _ _ _ _ _ _ _ _ _ _ _ _ _ _ _ (hk.below (below_drewN (Below.refl _ wr) 1)) (hk'.below (below_drewN (Below.refl _ wr) 1)))
          obtain ⟨m, hm⟩ : ∃ m, sameJ (kid ⟨j, hj⟩) (kid' ⟨j, hj⟩) = m := ⟨_, rfl⟩
          rw [hm] at HST HAF HC
          have HMM := Lib.hid hm
          clear hm hk hS hk' hS'
          go_wp2
          go_still_tail 10, (by kernel_rfl)
          change wpList _ _ _ _ _ wr.drew
          clear d0 d1 d2 d3 d4 d0' d1' d2' d3' d4' p4 q4 HBQ HCQ
          generalize wr.drew = wd at *
          go_wp2_with fail
          refine HC.out.mono ?_
          rintro e w1 ⟨rfl, hb⟩
          have HB1 := Lib.hid (keepB HBD.out hb)
          have HC1 := Lib.hid (And.intro ((hb.block _ (lt_of_heap HCD.out.1)).trans HCD.out.1) ((hb.block _ (lt_of_heap HCD.out.2)).trans HCD.out.2))
          clear hb
          cases m
          · go_wp2
            go_ret
            exact ⟨by rw [HM.out, HK.out, HAF.out trivial]; rfl, HB1.out⟩
          · go_wp2
            exact ⟨⟨j + 1, by omega, by go_num, Lib.hid (by rw [HST.out, HALL.out]; rfl), HB1, HC1⟩, by simp [intOf]; omega⟩
        · have hjn' : j = bn := by omega
          subst hjn'
          go_wp2
          go_ret
          exact ⟨by rw [HM.out, HK.out, HALL.out]; rfl, HBQ.out⟩
theorem dsame_calls : ∀ j : Js, DSpec j
  | .mk k n t names nk kid => dsame_step (fun i => dsame_calls (kid i))
end Go.Proofs.YtminegmjklehnaaGreatDoor.J

/-
  Same: Equal over names, EqualFunc over kids, Same.
-/
import Derived.Test.YtminegmjklehnaaGreatDoorJsonW
namespace Go.Proofs.YtminegmjklehnaaGreatDoor.J
open Go.RowKit Go.Proofs.YtminegmjklehnaaGreatDoor.B
open Go.Proofs.YtminegmjklehnaaGreatDoor.M hiding Bs
open Go.Proofs.YtminegmjklehnaaGreatDoor.C (QRow Turn)
set_option linter.unusedVariables false
set_option linter.unusedSimpArgs false

theorem take_snoc_eq {α : Type} {l l' : List α} {k : Nat} {x : α} (h1 : l[k]? = some x) (h2 : l'[k]? = some x) (h : l.take k = l'.take k) : l.take (k + 1) = l'.take (k + 1) := by
  rw [List.take_add_one, List.take_add_one, h1, h2, h]
theorem below_drew {V W : World} (h : Below V.heap.size V W) : Below V.heap.size V W.drew := below_drewN h 1
set_option maxRecDepth 100000 in
set_option maxHeartbeats 4000000 in
theorem equalN_calls {w : World} {F F' : Nat → Prop} {l l' : List Bs} {A A' : Option Addr} {n c m d : Nat} (h : SlV w F 1 StrR l A n) (h' : SlV w F' 1 StrR l' A' m) :
    Calls Tryz.prog 38 #[.slice A n c, .slice A' m d] w (BRet w (l == l')) := by
  have hnl := h.2.1
  have hml := h'.2.1
  have S := Lib.hid h
  have S' := Lib.hid h'
  have HL := Lib.hid h.1
  have HL' := Lib.hid h'.1
  clear h h'
  by_cases hnm : n = m
  · subst hnm
    go_enter Tryz.func38, Tryz.ntmps38
    go_wp2_with fail
    go_loopg [5, 13] n (fun g v5 v13 wr => ∃ k : Nat, k ≤ n ∧ n - k ≤ g ∧ v13 = .int .i64 k ∧ Hid (l.take k = l'.take k) ∧ Hid (Below w.heap.size w wr))
    case atStart => exact ⟨0, Nat.zero_le _, by omega, rfl, Lib.hid rfl, Lib.hid (Below.refl _ _)⟩
    case round =>
      obtain ⟨k, hk, hg, rfl, HEQ, HB⟩ := hrel
      by_cases hlt : k < n
      · obtain ⟨x, hx⟩ : ∃ x, l[k]? = some x := ⟨l[k]'(by rw [HL.out]; exact hlt), List.getElem?_eq_getElem _⟩
        obtain ⟨y, hy⟩ : ∃ y, l'[k]? = some y := ⟨l'[k]'(by rw [HL'.out]; exact hlt), List.getElem?_eq_getElem _⟩
        obtain ⟨a1, p1, rfl, hp1, -, d1⟩ := str_cell (S.out.below (by decide) HB.out (fun _ _ h => h)) hx
        obtain ⟨a2, p2, rfl, hp2, -, d2⟩ := str_cell (S'.out.below (by decide) HB.out (fun _ _ h => h)) hy
        have HX := Lib.hid hx
        have HY := Lib.hid hy
        have HBD := Lib.hid (below_drew HB.out)
        clear hx hy
        cases he : (x == y) with
        | true =>
          have HST := Lib.hid (take_snoc_eq HX.out (by rw [HY.out, eq_of_beq he]) HEQ.out)
          go_wp2_with fail
          go_region
          go_wp2
          go_roundg (n - (k + 1))
          case measure => omega
          case rel => exact ⟨k + 1, by omega, by omega, by go_num, HST, HBD⟩
        | false =>
          have HNE := Lib.hid (show (l == l') = false by
            refine beq_eq_false_iff_ne.2 (fun e => ?_)
            subst e
            have := HX.out.symm.trans HY.out
            cases this
            simp at he)
          go_wp2_with fail
          go_region
          go_wp2
          go_ret
          exact ⟨by rw [HNE.out]; rfl, HBD.out⟩
      · have hkn : k = n := by omega
        subst hkn
        have HE := Lib.hid (show (l == l') = true by
          have := HEQ.out
          rw [List.take_of_length_le (by rw [HL.out]; exact Nat.le_refl _), List.take_of_length_le (by rw [HL'.out]; exact Nat.le_refl _)] at this
          rw [this]; simp)
        go_wp2
        go_ret
        exact ⟨by rw [HE.out]; rfl, HB.out⟩
  · have hnm' : ¬ (n : Int) = (m : Int) := by omega
    have HNE := Lib.hid (show (l == l') = false from beq_eq_false_iff_ne.2 (fun e => by subst e; exact hnm (HL.out.symm.trans HL'.out)))
    go_enter Tryz.func38, Tryz.ntmps38
    go_wp2
    go_ret
    exact ⟨by rw [HNE.out]; rfl, Below.refl _ _⟩
/-- Same, of one value. -/
def ESpec (j : Js) : Prop := ∀ (j' : Js) (w : World) (F F' : Nat → Prop) (k n : Int) (t : Bs) (A : Option Addr) (an ac : Nat) (B : Option Addr) (bn bc : Nat) (k' n' : Int) (t' : Bs) (A' : Option Addr) (an' ac' : Nat) (B' : Option Addr) (bn' bc' : Nat),
  JsV w F j (jAgg k n t A an ac B bn bc) → JsV w F' j' (jAgg k' n' t' A' an' ac' B' bn' bc') →
  Calls Tryz.prog 26 #[jAgg k n t A an ac B bn bc, jAgg k' n' t' A' an' ac' B' bn' bc'] w (BRet w (sameJ j j'))
def kidsEq {nk nk' : Nat} (kid : Fin nk → Js) (kid' : Fin nk' → Js) : Bool := if h : nk = nk' then andTo (fun i => sameJ (kid i) (kid' (i.cast h))) nk else false
set_option maxRecDepth 100000 in
set_option maxHeartbeats 8000000 in
theorem equalF_calls {w : World} {F F' : Nat → Prop} {k n : Int} {t : Bs} {names : List Bs} {nk : Nat} {kid : Fin nk → Js} {A : Option Addr} {an ac : Nat} {B : Option Addr} {bc : Nat} (h : JsV w F (.mk k n t names nk kid) (jAgg k n t A an ac B nk bc))
    {k' n' : Int} {t' : Bs} {names' : List Bs} {nk' : Nat} {kid' : Fin nk' → Js} {A' : Option Addr} {an' ac' : Nat} {B' : Option Addr} {bc' : Nat} (h' : JsV w F' (.mk k' n' t' names' nk' kid') (jAgg k' n' t' A' an' ac' B' nk' bc')) (hrec : ∀ i, ESpec (kid i)) (c c' : Nat) :
    Calls Tryz.prog 39 #[.slice B nk c, .slice B' nk' c', .func (.func 26) #[] #[]] w (BRet w (kidsEq kid kid')) := by
  obtain ⟨_, _, _, _, -, -, hnl, -⟩ := h.top
  obtain ⟨_, _, _, _, -, -, hnl', -⟩ := h'.top
  by_cases hnk : nk = nk'
  · subst hnk
    have HK := Lib.hid (show kidsEq kid kid' = allTo (n := nk) (fun i => sameJ (kid i) (kid' i)) nk by unfold kidsEq; rw [dif_pos rfl, andTo_all]; rfl)
    have S := Lib.hid h
    have S' := Lib.hid h'
    have HREC := Lib.hid hrec
    clear h h' hrec
    go_enter Tryz.func39, Tryz.ntmps39
    go_wp2_with fail
    go_loopw [7, 8, 9, 17] (fun v7 v8 v9 v17 wr => ∃ j : Nat, j ≤ nk ∧ v17 = .int .i64 j ∧ Hid (allTo (n := nk) (fun i => sameJ (kid i) (kid' i)) j = true) ∧ Hid (Below w.heap.size w wr)) (fun _ _ _ v17 _ => nk - (intOf v17).toNat)
    case atStart => exact ⟨0, Nat.zero_le _, rfl, Lib.hid rfl, Lib.hid (Below.refl _ _)⟩
    case round =>
      obtain ⟨j, hjn, rfl, HALL, HB⟩ := hrel
      by_cases hj : j < nk
      · have hS := S.out.below HB.out
        have hS' := S'.out.below HB.out
        obtain ⟨ad, p, k0, n0, t0, A0, an0, ac0, B0, bn0, bc0, rfl, hp, -, d0, d1, d2, d3, d4, hk⟩ := hS.kid j hj
        obtain ⟨ad', p', k1, n1, t1, A1, an1, ac1, B1, bn1, bc1, rfl, hp', -, d0', d1', d2', d3', d4', hk'⟩ := hS'.kid j hj
        have HST := Lib.hid (allTo_step (n := nk) (fun i => sameJ (kid i) (kid' i)) hj)
        have HAF := Lib.hid (allTo_false (n := nk) (fun i => sameJ (kid i) (kid' i)) nk hj hj)
        have HC := Lib.hid (fun W (hb : Below wr.heap.size wr W) => HREC.out ⟨j, hj⟩ _ W F F' _ _ _ _ _ _ _ _ _ _ _ _ _ _ _ _ _ _ (hk.below hb) (hk'.below hb))
        obtain ⟨m, hm⟩ : ∃ m, sameJ (kid ⟨j, hj⟩) (kid' ⟨j, hj⟩) = m := ⟨_, rfl⟩
        rw [hm] at HST HAF HC
        have HMM := Lib.hid hm
        have e0 := cellAlloc d0' (.cells (jcs k0 n0 t0 A0 an0 ac0 B0 bn0 bc0) 27)
        have e1 := cellAlloc d1' (.cells (jcs k0 n0 t0 A0 an0 ac0 B0 bn0 bc0) 27)
        have e2 := cellAlloc d2' (.cells (jcs k0 n0 t0 A0 an0 ac0 B0 bn0 bc0) 27)
        have e3 := cellAlloc d3' (.cells (jcs k0 n0 t0 A0 an0 ac0 B0 bn0 bc0) 27)
        have e4 := cellAlloc d4' (.cells (jcs k0 n0 t0 A0 an0 ac0 B0 bn0 bc0) 27)
        have HB2 := Lib.hid (show Below wr.heap.size wr ((wr.alloc (.cells (jcs k0 n0 t0 A0 an0 ac0 B0 bn0 bc0) 27)).alloc (.cells (jcs k1 n1 t1 A1 an1 ac1 B1 bn1 bc1) 27)) from ((Below.refl _ wr).alloc (Nat.le_refl _) _).alloc (by simp) _)
        clear hm hk hS hk' hS'
        go_wp2_with fail
        refine (HC.out _ HB2.out).mono ?_
        rintro e w1 ⟨rfl, hb⟩
        have HB1 := Lib.hid (keepB (keepB HB.out HB2.out) hb)
        clear hb
        cases m
        · go_wp2
          go_ret
          exact ⟨by rw [HK.out, HAF.out trivial]; rfl, HB1.out⟩
        · go_wp2
          exact ⟨⟨j + 1, by omega, by go_num, Lib.hid (by rw [HST.out, HALL.out]; rfl), HB1⟩, by simp [intOf]; omega⟩
      · have hjn' : j = nk := by omega
        subst hjn'
        go_wp2
        go_ret
        exact ⟨by rw [HK.out, HALL.out]; rfl, HB.out⟩
  · have hne : ¬ (nk : Int) = (nk' : Int) := by omega
    have HK := Lib.hid (show kidsEq kid kid' = false by unfold kidsEq; rw [dif_neg hnk])
    clear h h' hrec
    go_enter Tryz.func39, Tryz.ntmps39
    go_wp2
    go_ret
    exact ⟨by rw [HK.out]; rfl, Below.refl _ _⟩
theorem sameJ_at (k n : Int) (t : Bs) (names : List Bs) (nk : Nat) (kid : Fin nk → Js) (k' n' : Int) (t' : Bs) (names' : List Bs) (nk' : Nat) (kid' : Fin nk' → Js) : sameJ (.mk k n t names nk kid) (.mk k' n' t' names' nk' kid') = (k == k' && (if k = 0 then true else if k = 1 ∨ k = 2 then n == n' else if k = 3 then t == t'
    else (k != 5 || names == names') && kidsEq kid kid')) := by rw [sameJ]; rfl
theorem two_jboxes {w W : World} {c1 c2 : Array Value} {t : TypeId} (hb : Below ((w.alloc (.cells c1 t)).alloc (.cells c2 t)).heap.size ((w.alloc (.cells c1 t)).alloc (.cells c2 t)) W) :
    W.heap[w.heap.size]? = some (.cells c1 t (0, 0)) ∧ W.heap[w.heap.size + 1]? = some (.cells c2 t (0, 0)) ∧ Below w.heap.size w W := two_boxes hb
set_option maxRecDepth 100000 in
set_option maxHeartbeats 8000000 in
theorem Same_step {k n : Int} {t : Bs} {names : List Bs} {nk : Nat} {kid : Fin nk → Js} (hrec : ∀ i, ESpec (kid i)) : ESpec (.mk k n t names nk kid) := by
  intro j' w F F' ka na ta A an ac B bn bc kb nb tb A' an' ac' B' bn' bc' h h'
  obtain ⟨kb0, nb0, tb0, names', nk', kid'⟩ := j'
  obtain ⟨rfl, rfl, rfl, rfl, rfl, hns, hnk, hac⟩ := h.shape
  obtain ⟨rfl, rfl, rfl, rfl, rfl, hns', hnk', hac'⟩ := h'.shape
  have hM := sameJ_at ka na ta names bn kid kb nb tb names' bn' kid'
  obtain ⟨hc1, hc2, hb⟩ := two_jboxes (w := w) (c1 := jcs ka na ta A names.length ac B bn bc) (c2 := jcs kb nb tb A' names'.length ac' B' bn' bc') (t := 27) (Below.refl _ _)
  obtain ⟨i0, i1, i2, i3, i4, -⟩ := five_of hc1
  obtain ⟨j0, j1, j2, j3, j4, -⟩ := five_of hc2
  have HB := Lib.hid hb
  have HN := Lib.hid (fun W (hb : Below w.heap.size w W) => equalN_calls (c := ac) (d := ac') (SlV.below (R' := StrR) (by decide) hns hb (fun _ _ h => h)) (SlV.below (R' := StrR) (by decide) hns' hb (fun _ _ h => h)))
  have HK := Lib.hid (fun W (hb : Below w.heap.size w W) => equalF_calls (h.below hb) (h'.below hb) hrec bc bc')
  have HC1 := Lib.hid hc1
  have HC2 := Lib.hid hc2
  clear h h' hc1 hc2 hb hns hns' hrec
  by_cases hk : ka = kb
  · subst hk
    rw [beq_self_eq_true, Bool.true_and] at hM
    by_cases k0 : ka = 0
    · subst k0
      rw [if_pos rfl] at hM
      have HM := Lib.hid hM
      clear hM
      go_enter Tryz.func26, Tryz.ntmps26
      go_wp2
      go_ret
      exact ⟨by rw [HM.out]; rfl, HB.out⟩
    rw [if_neg k0] at hM
    by_cases k1 : ka = 1
    · subst k1
      rw [if_pos (.inl rfl)] at hM
      have HM := Lib.hid hM
      clear hM
      go_enter Tryz.func26, Tryz.ntmps26
      go_wp2
      go_ret
      exact ⟨by rw [HM.out]; first | rfl | simp, HB.out⟩
    by_cases k2 : ka = 2
    · subst k2
      rw [if_pos (.inr rfl)] at hM
      have HM := Lib.hid hM
      clear hM
      go_enter Tryz.func26, Tryz.ntmps26
      go_wp2
      go_ret
      exact ⟨by rw [HM.out]; first | rfl | simp, HB.out⟩
    rw [if_neg (by omega)] at hM
    by_cases k3 : ka = 3
    · subst k3
      rw [if_pos rfl] at hM
      have HM := Lib.hid hM
      clear hM
      go_enter Tryz.func26, Tryz.ntmps26
      go_wp2
      go_ret
      exact ⟨by rw [HM.out]; first | rfl | simp, HB.out⟩
    rw [if_neg k3] at hM
    by_cases k5 : ka = 5
    · subst k5
      rw [show ((5 : Int) != 5) = false from rfl, Bool.false_or] at hM
      have HM := Lib.hid hM
      clear hM
      go_enter Tryz.func26, Tryz.ntmps26
      go_wp2_with fail
      refine (HN.out _ HB.out).mono ?_
      rintro e w1 ⟨rfl, hb⟩
      have HB1 := Lib.hid (keepB HB.out hb)
      have l0 := keepC hb i4
      have l1 := keepC hb j4
      clear hb
      cases hn : (names == names') with
      | false =>
        have HM2 := Lib.hid (HM.out.trans (show _ = false by rw [hn]; rfl))
        go_wp2
        go_ret
        exact ⟨by rw [HM2.out]; rfl, HB1.out⟩
      | true =>
        have HM2 := Lib.hid (HM.out.trans (show _ = kidsEq kid kid' by rw [hn]; rfl))
        go_wp2_with fail
        refine (HK.out _ HB1.out).mono ?_
        rintro e w2 ⟨rfl, hb⟩
        have HB2 := Lib.hid (keepB HB1.out hb)
        clear hb
        go_wp2
        go_ret
        exact ⟨by rw [HM2.out]; first | rfl | simp, HB2.out⟩
    · rw [show (ka != 5) = true by simpa using k5, Bool.true_or, Bool.true_and] at hM
      have HM := Lib.hid hM
      clear hM
      go_enter Tryz.func26, Tryz.ntmps26
      go_wp2_with fail
      refine (HK.out _ HB.out).mono ?_
      rintro e w2 ⟨rfl, hb⟩
      have HB2 := Lib.hid (keepB HB.out hb)
      clear hb
      go_wp2
      go_ret
      exact ⟨by rw [HM.out]; first | rfl | simp, HB2.out⟩
  · rw [beq_eq_false_iff_ne.2 hk, Bool.false_and] at hM
    have HM := Lib.hid hM
    clear hM
    go_enter Tryz.func26, Tryz.ntmps26
    go_wp2
    go_ret
    exact ⟨by rw [HM.out]; rfl, HB.out⟩
theorem Same_calls : ∀ j : Js, ESpec j
  | .mk k n t names nk kid => Same_step (fun i => Same_calls (kid i))
end Go.Proofs.YtminegmjklehnaaGreatDoor.J

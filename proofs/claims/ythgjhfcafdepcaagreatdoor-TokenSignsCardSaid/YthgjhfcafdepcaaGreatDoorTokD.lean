/-
  Tokens: Text, the program's.
-/
import Derived.Test.YthgjhfcafdepcaaGreatDoorTokC
import Derived.Test.YthgjhfcafdepcaaGreatDoorTokA
import Derived.Test.YthgjhfcafdepcaaGreatDoorNamesZ
namespace Go.Proofs.YthgjhfcafdepcaaGreatDoor.Tk
open Go.RowKit Go.Proofs.YthgjhfcafdepcaaGreatDoor.B Go.Proofs.YthgjhfcafdepcaaGreatDoor.S10
open Go.Proofs.YthgjhfcafdepcaaGreatDoor.M
open Go.Proofs.YthgjhfcafdepcaaGreatDoor.C (QRow Turn)
open Go.Proofs.YthgjhfcafdepcaaGreatDoor.Sh (macF macF_len)
open Go.Proofs.YthgjhfcafdepcaaGreatDoor.S01 (hexF unhexF)
set_option linter.unusedVariables false
set_option linter.unusedSimpArgs false

/-- what a claim's texts are long. -/
structure Szc (c : Cl) : Prop where
  tn : c.tn.length ≤ 9223372036854775807
  k : c.k.length ≤ 9223372036854775807
  i : c.i.length ≤ 9223372036854775807
  key : c.key.length ≤ 9223372036854775807
  e0 : -9223372036854775808 ≤ c.ex
  e1 : c.ex ≤ 9223372036854775807
theorem ba_who (c : Cl) : showO (ba c.k) (ba c.i) = ba (whoF c) := rfl
theorem below_more {w a b : World} (h : Below w.heap.size w a) (hb : Below a.heap.size a b) : Below w.heap.size w b := Sh.below_more h hb
theorem joinB {V w : World} {o : Obj} (h : Below (V.alloc o).heap.size (V.alloc o) w) : Below V.heap.size V w := below_more ((Below.refl _ V).alloc (Nat.le_refl _) o) h
theorem name_len {q : Bs} (h : nameB (ba q) = true) : q.length ≤ 16 := by
  simp only [nameB, onlyB, Bool.and_eq_true, decide_eq_true_eq] at h
  have := h.2.2.2.1.2.2
  rw [sz] at this
  omega
theorem id_len {q : Bs} (h : idB (ba q) = true) : q.length ≤ 24 := by
  simp only [idB, onlyB, Bool.and_eq_true, decide_eq_true_eq] at h
  have := h.2.2
  rw [sz] at this
  omega
theorem whoF_len (c : Cl) : (whoF c).length ≤ 41 := by
  unfold whoF showO
  by_cases h : (nameB (ba c.k) && idB (ba c.i)) = true
  · rw [if_pos h]
    rw [Bool.and_eq_true] at h
    have h1 := name_len h.1
    have h2 := id_len h.2
    simp
    omega
  · rw [if_neg h]; simp
theorem join5 (V : World) (a b c d e : Bs) (ha : a.length ≤ 2) (hb : b.length ≤ 16) (hc : c.length ≤ 41) (hd : d.length ≤ 16) (he : e.length ≤ 21) :
    Calls Tryz.prog 21 #[.slice (some ⟨V.heap.size, 0, none⟩) 5 5, .string ⟨#[47]⟩] (V.alloc (.cells #[vs a, vs b, vs c, vs d, vs e] 9)) fun e' w' => e' = .returned (vs (joi 47 [a, b, c, d, e])) ∧ Below (V.alloc (.cells #[vs a, vs b, vs c, vs d, vs e] 9)).heap.size (V.alloc (.cells #[vs a, vs b, vs c, vs d, vs e] 9)) w' := by
  have hj : Lib.join ([ba a, ba b, ba c, ba d, ba e].map (·.data.toList)) (⟨#[47]⟩ : ByteArray).data.toList = joi 47 [a, b, c, d, e] := by
    simp [Lib.join, List.intercalate, joi]
  have := Any.strings_Join_many lays156 extraB V.heap.size 0 5 [ba a, ba b, ba c, ba d, ba e] ⟨#[47]⟩ (V.alloc (.cells #[vs a, vs b, vs c, vs d, vs e] 9)) (fun j x hj => by
    rw [cell_of_row _ _ _ _ _ (0, 0) (heap_alloc_new V _), Nat.zero_add]
    match j, hj with
    | 0, hj => cases hj; rfl
    | 1, hj => cases hj; rfl
    | 2, hj => cases hj; rfl
    | 3, hj => cases hj; rfl
    | 4, hj => cases hj; rfl
    | j + 5, hj => simp at hj) (by simp) (by simp) (by simp) (Nat.le_refl _) (by rw [hj]; simp [joi]; omega)
  rw [hj] at this
  exact this
theorem textF_no {c : Cl} (h : okC c = false) : textF c = [] := by unfold textF; rw [h]; rfl
set_option maxRecDepth 100000 in
set_option maxHeartbeats 4000000 in
theorem Text_calls (c : Cl) (hz : Szc c) (w : World) (ht : Nu.Tab w) : Calls Tryz.prog 10 #[clV c] w (ShowRet w (textF c)) := by
  have HZ := Lib.hid hz
  have HT := Lib.hid ht
  have h1 := sz c.tn
  have h2 := sz c.k
  have h3 := sz c.i
  have h4 := sz c.key
  have HNT := fun w => Nm.Name_calls (ba c.tn) w (by rw [h1]; exact HZ.out.tn)
  have HNK := fun w => Nm.Name_calls (ba c.key) w (by rw [h4]; exact HZ.out.key)
  have HW := Nm.ShowObject_calls (ba c.k) (ba c.i) (w.alloc (.cells (clC c) 26)) (by rw [h2]; exact HZ.out.k) (by rw [h3]; exact HZ.out.i)
  rw [ba_who] at HW
  have HW' := Lib.hid HW
  clear HW hz ht
  obtain ⟨W, hW⟩ : ∃ W, whoF c = W := ⟨_, rfl⟩
  rw [hW] at HW'
  have HWW := Lib.hid hW
  clear hW
  obtain ⟨bt, hbt⟩ : ∃ b, nameB (ba c.tn) = b := ⟨_, rfl⟩
  obtain ⟨bk, hbk⟩ : ∃ b, nameB (ba c.key) = b := ⟨_, rfl⟩
  rw [hbt] at HNT
  rw [hbk] at HNK
  have HBT := Lib.hid hbt
  have HBK := Lib.hid hbk
  have HN1 := Lib.hid HNT
  have HN2 := Lib.hid HNK
  clear hbt hbk HNT HNK
  obtain ⟨tn, k, i, key, ex⟩ := c
  go_enter Tryz.func10, Tryz.ntmps10
  go_wp2_with fail
  refine HW'.out.mono ?_
  rintro e w1 ⟨rfl, hb1⟩
  have hg := (hb1.block w.heap.size (by simp)).trans (heap_alloc_new w _)
  have HB := Lib.hid (show Below w.heap.size w w1 from keepB ((Below.refl _ w).alloc (Nat.le_refl _) _) hb1)
  have c0 := cell_of_row w1 w.heap.size 0 _ _ (0, 0) hg
  have c2 := cell_of_row w1 w.heap.size 3 _ _ (0, 0) hg
  have c3 := cell_of_row w1 w.heap.size 4 _ _ (0, 0) hg
  have HT1 := Lib.hid (Nu.Tab.below HT.out HB.out)
  clear hg hb1 h1 h2 h3 h4
  cases hwe : W.isEmpty with
  | true =>
    have HE := Lib.hid (show okC ⟨tn, k, i, key, ex⟩ = false by unfold okC; rw [HWW.out, hwe]; rfl)
    go_wp2
    go_ret
    exact ⟨by rw [textF_no HE.out]; rfl, HB.out⟩
  | false =>
    cases bt with
    | false =>
      have HE := Lib.hid (show okC ⟨tn, k, i, key, ex⟩ = false by unfold okC; rw [show nameB (ba tn) = false from HBT.out]; simp)
      go_wp2_with fail
      refine (HN1.out _).mono ?_
      rintro e w2 ⟨rfl, hw⟩
      rw [← hw]
      clear hw
      go_wp2
      go_ret
      exact ⟨by rw [textF_no HE.out]; rfl, HB.out⟩
    | true =>
      cases bk with
      | false =>
        have HE := Lib.hid (show okC ⟨tn, k, i, key, ex⟩ = false by unfold okC; rw [show nameB (ba key) = false from HBK.out]; simp)
        go_wp2_with fail
        refine (HN1.out _).mono ?_
        rintro e w2 ⟨rfl, hw⟩
        rw [← hw]
        clear hw
        go_wp2_with fail
        refine (HN2.out _).mono ?_
        rintro e w2 ⟨rfl, hw⟩
        rw [← hw]
        clear hw
        go_wp2
        go_ret
        exact ⟨by rw [textF_no HE.out]; rfl, HB.out⟩
      | true =>
        by_cases hex : 0 ≤ ex ∧ ex ≤ 1000000000000000
        · have hx1 : ¬ ex < 0 := by omega
          have hx2 : ¬ 1000000000000000 < ex := by omega
          have HX := Lib.hid hex
          clear hex
          go_wp2_with fail
          refine (HN1.out _).mono ?_
          rintro e w2 ⟨rfl, hw⟩
          rw [← hw]
          clear hw
          go_wp2_with fail
          refine (HN2.out _).mono ?_
          rintro e w2 ⟨rfl, hw⟩
          rw [← hw]
          clear hw
          have HSH := Lib.hid (fun (V : World) (hb : Below w1.heap.size w1 V) => Nu.Show_calls ex (by omega) (by omega) V (Nu.Tab.below HT1.out hb))
          have HBd := Lib.hid (show Below w1.heap.size w1 w1.drew from ⟨rfl, rfl, rfl, Nat.le_refl _, fun _ _ => rfl⟩)
          have HK := Lib.hid (fun (V : World) (hb : Below w1.heap.size w1 V) => show V.cell? ⟨w.heap.size, 0, none⟩ = some (vs tn) ∧ V.cell? ⟨w.heap.size, 3, none⟩ = some (vs key) ∧ V.cell? ⟨w.heap.size, 4, none⟩ = some (.int .i64 ex) from ⟨keepC hb c0, keepC hb c2, keepC hb c3⟩)
          have HLW := Lib.hid (show W.length ≤ 41 by rw [← HWW.out]; exact whoF_len _)
          have HTX := Lib.hid (show textF ⟨tn, k, i, key, ex⟩ = joi 47 [[118, 49], tn, W, key, Lib.itoa ex] by
            unfold textF
            rw [if_pos]
            · show joi 47 [[118, 49], tn, whoF _, key, decF ex] = _
              rw [HWW.out]; rfl
            · unfold okC
              rw [HWW.out, hwe, show nameB (ba tn) = true from HBT.out, show nameB (ba key) = true from HBK.out, decide_eq_true HX.out.1, decide_eq_true HX.out.2]
              rfl)
          have HJ := Lib.hid (fun (V : World) => join5 V [118, 49] tn W key (Lib.itoa ex) (by simp) (name_len HBT.out) HLW.out (name_len HBK.out) (Lib.itoa_length_le ex (by omega) (by omega)))
          clear c0 c2 c3
          obtain ⟨t0, t2, t3⟩ := HK.out _ (Below.refl _ _)
          go_wp2_with fail
          go_region_held3 (fun V => V.cell? ⟨w.heap.size, 0, none⟩ = some (vs tn) ∧ V.cell? ⟨w.heap.size, 3, none⟩ = some (vs key) ∧ V.cell? ⟨w.heap.size, 4, none⟩ = some (.int .i64 ex)) (go_keep)
            (first
            | ((with_reducible refine (HSH.out _ HBd.out).mono ?_); rintro e V ⟨rfl, hb⟩
               have HBV := Lib.hid (below_more HBd.out hb)
               obtain ⟨t0, t2, t3⟩ := HK.out V HBV.out
               clear hb)
            | ((with_reducible refine (HJ.out _).mono ?_); rintro e V2 ⟨rfl, hb⟩
               have HBV2 := Lib.hid (below_more HBV.out (joinB hb))
               obtain ⟨t0, t2, t3⟩ := HK.out V2 HBV2.out
               clear hb))
          all_goals
            go_wp2
            go_ret
            exact ⟨by rw [HTX.out]; rfl, below_more HB.out HBV2.out⟩
        · have HE := Lib.hid (show okC ⟨tn, k, i, key, ex⟩ = false by
            unfold okC
            by_cases h : 0 ≤ ex
            · rw [decide_eq_false (show ¬ ex ≤ 1000000000000000 from fun h2 => hex ⟨h, h2⟩)]; simp
            · rw [decide_eq_false (show ¬ (0 ≤ ex) from h)]; simp)
          go_wp2_with fail
          refine (HN1.out _).mono ?_
          rintro e w2 ⟨rfl, hw⟩
          rw [← hw]
          clear hw
          go_wp2_with fail
          refine (HN2.out _).mono ?_
          rintro e w2 ⟨rfl, hw⟩
          rw [← hw]
          clear hw
          by_cases hx1 : ex < 0
          · go_wp2
            go_ret
            exact ⟨by rw [textF_no HE.out]; rfl, HB.out⟩
          · have hx2 : 1000000000000000 < ex := by omega
            go_wp2
            go_ret
            exact ⟨by rw [textF_no HE.out]; rfl, HB.out⟩
end Go.Proofs.YthgjhfcafdepcaaGreatDoor.Tk

/-
  The statements' own count: Weight: what it answers bounds what is written.
-/
import Derived.Test.YtminegmjklehnaaGreatDoorJsonPs
namespace Go.Proofs.YtminegmjklehnaaGreatDoor.J
open Go.RowKit Go.Proofs.YtminegmjklehnaaGreatDoor.B
open Go.Proofs.YtminegmjklehnaaGreatDoor.M hiding Bs
open Go.Proofs.YtminegmjklehnaaGreatDoor.C (QRow Turn)
set_option linter.unusedVariables false
set_option linter.unusedSimpArgs false

def sumK {nk : Nat} (kid : Fin nk → Js) : Nat → Nat
  | 0 => 0
  | i + 1 => sumK kid i + (if h : i < nk then (showJ (kid ⟨i, h⟩)).length + 6100 else 0)
theorem sumK_step {nk : Nat} (kid : Fin nk → Js) {i : Nat} (h : i < nk) : sumK kid (i + 1) = sumK kid i + ((showJ (kid ⟨i, h⟩)).length + 6100) := by rw [sumK, dif_pos h]
theorem piece_len (k : Int) (names : List Bs) (i : Nat) (s : Bs) (hn : ∀ x ∈ names, x.length ≤ 1000) : (piece k names i s).length + 1 ≤ s.length + 6100 := by
  unfold piece
  split
  · have h1 : (names.getD i []).length ≤ 1000 := by
      rw [List.getD_eq_getElem?_getD]
      cases h : names[i]? with
      | none => simp
      | some x => exact hn x (List.mem_of_getElem? h)
    have h2 := (quoteT_len (names.getD i [])).2
    simp only [List.length_append, List.length_cons]
    omega
  · omega
theorem pieces_sum (k : Int) (names : List Bs) {nk : Nat} (kid : Fin nk → Js) (hn : ∀ x ∈ names, x.length ≤ 1000) : ∀ i, i ≤ nk → (((pieces k names kid).take i).map fun t => t.length + 1).sum ≤ sumK kid i
  | 0, _ => by simp
  | i + 1, h => by
    have ih := pieces_sum k names kid hn i (by omega)
    rw [List.take_add_one, pieces_get k names kid i (by omega), List.map_append, List.sum_append, sumK_step kid (by omega)]
    have := piece_len k names i (showJ (kid ⟨i, by omega⟩)) hn
    simp only [Option.toList_some, List.map_cons, List.map_nil, List.sum_cons, List.sum_nil]
    omega
/-- what Weight's answer tells. -/
def WtOk (j : Js) (m r : Int) : Prop := 0 ≤ r ∧ r ≤ m ∧ (0 < r → ∀ d, mayJ j d = true → SmallJ j ∧ ((showJ j).length : Int) + 6100 ≤ 7000 * (m - r))
def KS {nk : Nat} (kid : Fin nk → Js) (i : Nat) (c : Int) : Prop := ∀ d, (∀ i' : Fin nk, mayJ (kid i') d = true) → (∀ i' : Fin nk, i'.val < i → SmallJ (kid i')) ∧ (sumK kid i : Int) ≤ 7000 * c
theorem KS.zero {nk : Nat} (kid : Fin nk → Js) {q : Int} : KS kid 0 (q - q) := fun d h => ⟨fun i' h => by omega, by rw [sumK]; omega⟩
theorem KS.step {nk : Nat} {kid : Fin nk → Js} {i : Nat} {q0 q r : Int} (hi : i < nk) (h : KS kid i (q0 - q)) (hw : WtOk (kid ⟨i, hi⟩) q r) (h0 : 0 < r) : KS kid (i + 1) (q0 - r) := by
  intro d' hm
  obtain ⟨h2, h3⟩ := h d' hm
  obtain ⟨h4, h5⟩ := hw.2.2 h0 d' (hm ⟨i, hi⟩)
  refine ⟨fun i' hi' => ?_, by rw [sumK_step kid hi]; omega⟩
  by_cases e : i'.val = i
  · obtain ⟨v, hv⟩ := i'
    cases e
    exact h4
  · exact h2 i' (by omega)
theorem wt_zero (j : Js) {m : Int} (h : 0 ≤ m) : WtOk j m 0 := ⟨by omega, h, fun h => by omega⟩
theorem wt_fin {k n : Int} {t : Bs} {names : List Bs} {nk : Nat} {kid : Fin nk → Js} {m q0 r : Int} (hm0 : 0 < m) (hm : m ≤ 600) (h1 : (nk : Int) ≤ m) (h2 : (names.length : Int) ≤ m) (h3 : (t.length : Int) ≤ 10 * m) (hq : q0 = m - 1 - (names.length : Int) - (t.length : Int) / 10)
    (hn : 0 < q0 → ∀ x ∈ names, x.length ≤ 1000) (hr : 0 ≤ r) (hrq : 0 < r → r ≤ q0 ∧ KS kid nk (q0 - r)) : WtOk (.mk k n t names nk kid) m r := by
  refine ⟨hr, ?_, fun h0 d hd => ?_⟩
  · by_cases h0 : 0 < r
    · have := (hrq h0).1; omega
    · omega
  obtain ⟨g1, g2⟩ := hrq h0
  have hn := hn (by omega)
  have hM := showJ_mk k n t names nk kid
  by_cases k0 : k = 0
  · subst k0
    rw [if_pos rfl] at hM
    have hl : (showJ (.mk 0 n t names nk kid)).length = 4 := by rw [hM]; rfl
    refine ⟨?_, by omega⟩
    rw [SmallJ_mk]
    exact ⟨fun h => absurd h (by decide), by omega, fun x hx => by have := hn x hx; omega, by omega, fun h => absurd h (by decide), by omega, fun h => absurd rfl h⟩
  by_cases k1 : k = 1
  · subst k1
    rw [if_neg k0, if_pos rfl] at hM
    have hl : (showJ (.mk 1 n t names nk kid)).length ≤ 5 := by rw [hM]; split <;> simp
    refine ⟨?_, by omega⟩
    rw [SmallJ_mk]
    exact ⟨fun h => absurd h (by decide), by omega, fun x hx => by have := hn x hx; omega, by omega, fun h => absurd h (by decide), by omega, fun _ h => absurd rfl h⟩
  by_cases k2 : k = 2
  · subst k2
    rw [if_neg k0, if_neg k1, if_pos rfl] at hM
    rw [mayJ_k2] at hd
    simp at hd
    have hi := intT_size n 14 (by omega)
    have hl : (showJ (.mk 2 n t names nk kid)).length ≤ 16 := by rw [hM]; split at hi <;> omega
    refine ⟨?_, by omega⟩
    rw [SmallJ_mk]
    exact ⟨fun h => by omega, by omega, fun x hx => by have := hn x hx; omega, by omega, fun h => absurd h (by decide), by omega, fun _ _ h => absurd rfl h⟩
  by_cases k3 : k = 3
  · subst k3
    rw [if_neg k0, if_neg k1, if_neg k2, if_pos rfl] at hM
    have hi := (quoteT_len t).2
    have hl : (showJ (.mk 3 n t names nk kid)).length ≤ 6 * t.length + 2 := by rw [hM]; exact hi
    refine ⟨?_, by omega⟩
    rw [SmallJ_mk]
    exact ⟨fun h => by omega, by omega, fun x hx => by have := hn x hx; omega, by omega, fun h => absurd h (by decide), by omega, fun _ _ _ h => absurd rfl h⟩
  rw [if_neg k0, if_neg k1, if_neg k2, if_neg k3] at hM
  have hps := pieces_sum k names kid hn nk (Nat.le_refl _)
  rw [List.take_of_length_le (by rw [pieces_len]; exact Nat.le_refl _)] at hps
  have hcs := commas_sum (pieces k names kid)
  have hl : (showJ (.mk k n t names nk kid)).length = (commas (pieces k names kid)).length + 2 := by rw [hM]; split <;> simp
  cases d with
  | zero => rw [mayJ_no 0 k0 k1 k2 k3 (.inl rfl)] at hd; cases hd
  | succ d =>
    have hkm : (∀ i' : Fin nk, mayJ (kid i') d = true) ∧ (k = 5 → names.length = nk) := by
      by_cases k4 : k = 4
      · subst k4
        rw [mayJ_k4] at hd
        exact ⟨andTo_at hd, fun h => absurd h (by decide)⟩
      by_cases k5 : k = 5
      · subst k5
        rw [mayJ_k5] at hd
        simp only [Bool.and_eq_true] at hd
        exact ⟨andTo_at hd.2.2, fun _ => by simpa using hd.1⟩
      · rw [mayJ_no (d + 1) k0 k1 k2 k3 (.inr ⟨k4, k5⟩)] at hd; cases hd
    obtain ⟨h4, h5⟩ := g2 d hkm.1
    refine ⟨?_, by omega⟩
    rw [SmallJ_mk]
    exact ⟨fun h => absurd h k2, by omega, fun x hx => by have := hn x hx; omega, by omega, hkm.2, by omega, fun _ _ _ _ i => h4 i i.2⟩
def WtRet (w : World) (j : Js) (m : Int) (e : Ending) (w' : World) : Prop := ∃ r : Int, e = .returned (.int .i64 r) ∧ WtOk j m r ∧ Below w.heap.size w w'
def WSpec (j : Js) : Prop := ∀ (w : World) (F : Nat → Prop) (k n : Int) (t : Bs) (A : Option Addr) (an ac : Nat) (B : Option Addr) (bn bc : Nat) (m : Int), JsV w F j (jAgg k n t A an ac B bn bc) → FitJ j → 0 < m → m ≤ 600 →
  Calls Tryz.prog 10 #[jAgg k n t A an ac B bn bc, .int .i64 m] w (WtRet w j m)
set_option maxRecDepth 100000 in
set_option maxHeartbeats 8000000 in
theorem Weight_step {k n : Int} {t : Bs} {names : List Bs} {nk : Nat} {kid : Fin nk → Js} (hrec : ∀ i, WSpec (kid i)) : WSpec (.mk k n t names nk kid) := by
  intro w F ka na ta A an ac B bn bc m h hf hm0 hm6
  obtain ⟨rfl, rfl, rfl, rfl, rfl, hns, hnk, hac⟩ := h.shape
  unfold FitJ at hf
  obtain ⟨hf1, hf2, hf3⟩ := hf
  have hc := heap_alloc_new w (.cells (jcs ka na ta A names.length ac B bn bc) 27)
  have hb : Below w.heap.size w (w.alloc (.cells (jcs ka na ta A names.length ac B bn bc) 27)) := (Below.refl _ w).alloc (Nat.le_refl _) _
  obtain ⟨j0, j1, j2, j3, j4, -⟩ := five_of hc
  have hnl := hns.2.1
  have HB := Lib.hid hb
  have HS := Lib.hid (SlV.below (R' := StrR) (by decide) hns hb (fun _ _ h => h))
  have HJ := Lib.hid (h.below hb)
  have HF2 := Lib.hid hf2
  have HF3 := Lib.hid hf3
  have HREC := Lib.hid hrec
  have HZ := Lib.hid (wt_zero (.mk ka na ta names bn kid) (Int.le_of_lt hm0))
  have HFIN := Lib.hid (fun q0 r h1 h2 h3 hq hn hr hrq => wt_fin (k := ka) (n := na) (t := ta) (names := names) (kid := kid) (m := m) (q0 := q0) (r := r) hm0 hm6 h1 h2 h3 hq hn hr hrq)
  clear h hc hb hns hf2 hf3 hrec
  have hm10 : 0 ≤ 10 * m := by omega
  have hm11 : 10 * m ≤ 6000 := by omega
  by_cases h1 : (bn : Int) ≤ m
  rotate_left
  · have h1' : m < (bn : Int) := by omega
    clear h1
    go_enter Tryz.func10, Tryz.ntmps10
    go_wp2
    go_ret
    exact ⟨0, rfl, HZ.out, HB.out⟩
  by_cases h2 : (names.length : Int) ≤ m
  rotate_left
  · have h2' : m < (names.length : Int) := by omega
    have h1' : ¬ m < (bn : Int) := by omega
    clear h1 h2
    go_enter Tryz.func10, Tryz.ntmps10
    go_wp2
    go_ret
    exact ⟨0, rfl, HZ.out, HB.out⟩
  by_cases h3 : (ta.length : Int) ≤ 10 * m
  rotate_left
  · have h3' : 10 * m < (ta.length : Int) := by omega
    have h1' : ¬ m < (bn : Int) := by omega
    have h2' : ¬ m < (names.length : Int) := by omega
    clear h1 h2 h3
    go_enter Tryz.func10, Tryz.ntmps10
    go_wp2
    go_ret
    exact ⟨0, rfl, HZ.out, HB.out⟩
  have HFIN2 := Lib.hid (fun q0 r => HFIN.out q0 r h1 h2 h3)
  have h1' : ¬ m < (bn : Int) := by omega
  have h2' : ¬ m < (names.length : Int) := by omega
  have h3' : ¬ 10 * m < (ta.length : Int) := by omega
  have hsz := sz ta
  obtain ⟨q0, hq0⟩ : ∃ q0, m - 1 - (names.length : Int) - (ta.length : Int) / 10 = q0 := ⟨_, rfl⟩
  have HQ := Lib.hid hq0
  have hq1 : q0 ≤ 599 := by omega
  have hq2 : -2000 ≤ q0 := by omega
  clear HFIN h1 h2 h3
  go_enter Tryz.func10, Tryz.ntmps10
  go_wp2_with fail
  go_loopw [5] (fun v5 wr => ∃ i : Nat, i ≤ names.length ∧ v5 = .int .i64 i ∧ Hid (0 < q0 → ∀ x ∈ names.take i, x.length ≤ 1000) ∧ Hid (wr = w.alloc (.cells (jcs ka na ta A names.length ac B bn bc) 27))) (fun v5 _ => names.length - (intOf v5).toNat)
  case atStart => exact ⟨0, Nat.zero_le _, rfl, Lib.hid (fun _ x hx => by simp at hx), Lib.hid rfl⟩
  case round =>
    obtain ⟨i, hin, rfl, HNM, HW⟩ := hrel
    have hw := HW.out
    subst hw
    by_cases hi : i < names.length ∧ 0 < q0
    · obtain ⟨hi, hq⟩ := hi
      obtain ⟨x, hx⟩ : ∃ x, names[i]? = some x := ⟨names[i]'hi, List.getElem?_eq_getElem _⟩
      obtain ⟨ad, p, rfl, hp, -, d0⟩ := str_cell HS.out hx
      have HX := Lib.hid hx
      have hxl := HF2.out x (List.mem_of_getElem? hx)
      have hsx := sz x
      clear hx
      by_cases hx1 : 1000 < x.length
      · go_wp2
        go_ret
        exact ⟨0, rfl, HZ.out, HB.out⟩
      · have HNX := Lib.hid (show 0 < q0 → ∀ y ∈ names.take (i + 1), y.length ≤ 1000 by
          intro h y hy
          rw [List.take_add_one, HX.out] at hy
          rcases List.mem_append.1 hy with hy | hy
          · exact HNM.out h y hy
          · have : y = x := by simpa using hy
            subst this
            omega)
        go_wp2
        exact ⟨⟨i + 1, by omega, by go_num, HNX, Lib.hid trivial⟩, by simp [intOf]; omega⟩
    · have HN := Lib.hid (show 0 < q0 → ∀ x ∈ names, x.length ≤ 1000 by
        intro h
        have hi' : i = names.length := by omega
        subst hi'
        have := HNM.out h
        rwa [List.take_length] at this)
      clear HNM
      have hcase : (i < names.length ∧ ¬ 0 < q0) ∨ ¬ i < names.length := by omega
      clear hi
      rcases hcase with ⟨hi, hq⟩ | hi
      · go_wp2_with fail
        go_loopw [1, 6] (fun v1 v6 wr => ∃ (j : Nat) (q : Int), j ≤ bn ∧ v6 = .int .i64 j ∧ v1 = .int .i64 q ∧ q ≤ q0 ∧ -2000 ≤ q ∧ Hid (0 < q → KS kid j (q0 - q)) ∧ Hid (Below w.heap.size w wr) ∧ Hid (Below (w.alloc (.cells (jcs ka na ta A names.length ac B bn bc) 27)).heap.size (w.alloc (.cells (jcs ka na ta A names.length ac B bn bc) 27)) wr)) (fun _ v6 _ => bn - (intOf v6).toNat)
        case atStart => exact ⟨0, q0, Nat.zero_le _, rfl, rfl, Int.le_refl _, hq2, Lib.hid (fun _ => KS.zero kid), HB, Lib.hid (Below.refl _ _)⟩
        case round =>
          obtain ⟨j, q, hjn, rfl, rfl, hqq, hql, HK, HBR, HBR2⟩ := hrel
          have j0r := keepC HBR2.out j0
          have j3r := keepC HBR2.out j3
          have j4r := keepC HBR2.out j4
          by_cases hj : j < bn ∧ 0 < q
          · exfalso; omega
          · have HF := Lib.hid (show 0 ≤ q → WtOk (.mk ka na ta names bn kid) m q by
              intro h
              refine HFIN2.out q0 q HQ.out.symm HN.out h (fun h0 => ?_)
              have hj' : j = bn := by omega
              subst hj'
              exact ⟨hqq, HK.out h0⟩)
            have hcase : (j < bn ∧ ¬ 0 < q) ∨ ¬ j < bn := by omega
            clear hj
            by_cases hneg : q < 0
            · rcases hcase with ⟨hj, hq0'⟩ | hj
              all_goals
                go_wp2
                go_ret
                exact ⟨0, rfl, HZ.out, HBR.out⟩
            · have HF2 := Lib.hid (HF.out (by omega))
              rcases hcase with ⟨hj, hq0'⟩ | hj
              all_goals
                go_wp2
                go_ret
                exact ⟨q, rfl, HF2.out, HBR.out⟩
      · go_wp2_with fail
        go_loopw [1, 6] (fun v1 v6 wr => ∃ (j : Nat) (q : Int), j ≤ bn ∧ v6 = .int .i64 j ∧ v1 = .int .i64 q ∧ q ≤ q0 ∧ -2000 ≤ q ∧ Hid (0 < q → KS kid j (q0 - q)) ∧ Hid (Below w.heap.size w wr) ∧ Hid (Below (w.alloc (.cells (jcs ka na ta A names.length ac B bn bc) 27)).heap.size (w.alloc (.cells (jcs ka na ta A names.length ac B bn bc) 27)) wr)) (fun _ v6 _ => bn - (intOf v6).toNat)
        case atStart => exact ⟨0, q0, Nat.zero_le _, rfl, rfl, Int.le_refl _, hq2, Lib.hid (fun _ => KS.zero kid), HB, Lib.hid (Below.refl _ _)⟩
        case round =>
          obtain ⟨j, q, hjn, rfl, rfl, hqq, hql, HK, HBR, HBR2⟩ := hrel
          have j0r := keepC HBR2.out j0
          have j3r := keepC HBR2.out j3
          have j4r := keepC HBR2.out j4
          by_cases hj : j < bn ∧ 0 < q
          · obtain ⟨hj, hq0'⟩ := hj
            have hS := HJ.out.below HBR2.out
            obtain ⟨ad, p, kk, kn, kt, kA, kan, kac, kB, kbn, kbc, rfl, hp, -, d0, d1, d2, d3, d4, hk⟩ := hS.kid j hj
            have HC := Lib.hid (HREC.out ⟨j, hj⟩ wr F kk kn kt kA kan kac kB kbn kbc q hk (HF3.out ⟨j, hj⟩) hq0' (by omega))
            clear hS hk
            go_wp2_with fail
            refine HC.out.mono ?_
            rintro e w2 ⟨r, rfl, hok, hb⟩
            have HB2 := Lib.hid (keepB HBR.out hb)
            have HB3 := Lib.hid (keepB HBR2.out hb)
            have hr0 := hok.1
            have hr1 := hok.2.1
            have HK2 := Lib.hid (show 0 < r → KS kid (j + 1) (q0 - r) from fun h => (HK.out hq0').step hj hok h)
            clear hb hok
            go_wp2
            exact ⟨⟨j + 1, r, by omega, by go_num, rfl, by omega, by omega, HK2, HB2, HB3⟩, by simp [intOf]; omega⟩
          · have HF := Lib.hid (show 0 ≤ q → WtOk (.mk ka na ta names bn kid) m q by
              intro h
              refine HFIN2.out q0 q HQ.out.symm HN.out h (fun h0 => ?_)
              have hj' : j = bn := by omega
              subst hj'
              exact ⟨hqq, HK.out h0⟩)
            have hcase : (j < bn ∧ ¬ 0 < q) ∨ ¬ j < bn := by omega
            clear hj
            by_cases hneg : q < 0
            · rcases hcase with ⟨hj, hq0'⟩ | hj
              all_goals
                go_wp2
                go_ret
                exact ⟨0, rfl, HZ.out, HBR.out⟩
            · have HF2 := Lib.hid (HF.out (by omega))
              rcases hcase with ⟨hj, hq0'⟩ | hj
              all_goals
                go_wp2
                go_ret
                exact ⟨q, rfl, HF2.out, HBR.out⟩
theorem Weight_calls : ∀ j : Js, WSpec j
  | .mk k n t names nk kid => Weight_step (fun i => Weight_calls (kid i))
end Go.Proofs.YtminegmjklehnaaGreatDoor.J

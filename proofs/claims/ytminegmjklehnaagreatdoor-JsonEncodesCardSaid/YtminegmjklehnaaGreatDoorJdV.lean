/-
  The document's JSON: show. Printed by wip/tools/gen_jd_sh.py.
-/
import Derived.Test.YtminegmjklehnaaGreatDoorJdU
import Derived.Test.YtminegmjklehnaaGreatDoorJsonX
import Derived.Test.YtminegmjklehnaaGreatDoorNumZ
namespace Go.Proofs.YtminegmjklehnaaGreatDoor.J
open Go.RowKit Go.Proofs.YtminegmjklehnaaGreatDoor.B
open Go.Proofs.YtminegmjklehnaaGreatDoor.M hiding Bs
open Go.Proofs.YtminegmjklehnaaGreatDoor.C (QRow Turn)
set_option linter.unusedVariables false
set_option linter.unusedSimpArgs false

theorem refshow_calls (n : Int) (h0 : -9223372036854775808 ≤ n) (h1 : n ≤ 9223372036854775807) (w : World) : Calls Tryz.prog 64 #[.int .i64 n] w (ShowRet w (intT n)) := by
  by_cases hz : n = 0
  · subst hz
    rw [show intT 0 = [48] by decide]
    go_enter Tryz.func64, Tryz.ntmps64
    go_wp2
    go_ret
    exact ⟨rfl, Below.refl _ _⟩
  rw [intT_itoa]
  by_cases hp : 0 < n
  · have := Nu.refShow_pos n.toNat (by omega) (by omega) w
    rw [show ((n.toNat : Nat) : Int) = n by omega] at this
    exact this
  · have := Nu.refShow_neg (-n).toNat (by omega) (by omega) w
    rw [show -(((-n).toNat : Nat) : Int) = n by omega] at this
    exact this
theorem catV (a b : Bs) : (Value.string ((⟨a.toArray⟩ : ByteArray) ++ ⟨b.toArray⟩)) = vs (a ++ b) := by
  refine congrArg Value.string (ByteArray.ext ?_)
  simp
theorem catC (a : Bs) : (Value.string ((⟨a.toArray⟩ : ByteArray) ++ ⟨#[44]⟩)) = vs (a ++ [44]) := catV a [44]
theorem cat3C (a b : Bs) : (Value.string ((⟨a.toArray⟩ : ByteArray) ++ ⟨b.toArray⟩ ++ ⟨#[58]⟩)) = vs (a ++ (b ++ [58])) := by
  refine congrArg Value.string (ByteArray.ext ?_)
  simp
theorem catO (a : Bs) : (Value.string ((⟨#[123]⟩ : ByteArray) ++ ⟨a.toArray⟩ ++ ⟨#[125]⟩)) = vs (123 :: (a ++ [125])) := by
  refine congrArg Value.string (ByteArray.ext ?_)
  simp
theorem catL (a : Bs) : (Value.string ((⟨#[91]⟩ : ByteArray) ++ ⟨a.toArray⟩ ++ ⟨#[93]⟩)) = vs (91 :: (a ++ [93])) := by
  refine congrArg Value.string (ByteArray.ext ?_)
  simp
theorem commas_snoc : ∀ (l : List Bs) (x : Bs), l ≠ [] → commas (l ++ [x]) = commas l ++ (44 :: x)
  | [], x, h => absurd rfl h
  | [y], x, _ => rfl
  | y :: z :: l, x, _ => by
    show y ++ (44 :: commas ((z :: l) ++ [x])) = (y ++ (44 :: commas (z :: l))) ++ (44 :: x)
    rw [commas_snoc (z :: l) x (by simp)]
    simp
theorem commas_take_le : ∀ (l : List Bs) (i : Nat), (commas (l.take i)).length ≤ (commas l).length
  | [], i => by simp
  | x :: l, 0 => by simp [commas]
  | [x], i + 1 => by simp
  | x :: y :: l, 1 => by
    show x.length ≤ (x ++ (44 :: commas (y :: l))).length
    rw [List.length_append]; omega
  | x :: y :: l, i + 2 => by
    have := commas_take_le (y :: l) (i + 1)
    show (x ++ (44 :: commas ((y :: l).take (i + 1)))).length ≤ (x ++ (44 :: commas (y :: l))).length
    simp only [List.length_append, List.length_cons]
    omega
theorem commas_step {PL : List Bs} {i : Nat} {x : Bs} (h : PL[i]? = some x) : commas (PL.take (i + 1)) = if i = 0 then x else commas (PL.take i) ++ (44 :: x) := by
  rw [List.take_add_one, h]
  have hl := (List.getElem?_eq_some_iff.1 h).1
  by_cases h0 : i = 0
  · subst h0
    rw [if_pos rfl]
    simp [commas]
  · rw [if_neg h0]
    exact commas_snoc _ _ (fun e => by
      have := congrArg List.length e
      rw [List.length_take, List.length_nil] at this
      omega)
/-- the document's show, of one value. -/
def DSSpec (j : Js) : Prop := ∀ (w : World) (F : Nat → Prop) (k n : Int) (t : Bs) (A : Option Addr) (an ac : Nat) (B : Option Addr) (bn bc : Nat), JsV w F j (jAgg k n t A an ac B bn bc) → SmallJ j →
  Calls Tryz.prog 37 #[jAgg k n t A an ac B bn bc] w (ShowRet w (showJ j))
set_option maxRecDepth 100000 in
set_option maxHeartbeats 8000000 in
theorem dshow_leaf {k n : Int} {t : Bs} {names : List Bs} {nk : Nat} {kid : Fin nk → Js} (hk : k = 0 ∨ k = 1 ∨ k = 2 ∨ k = 3) : DSSpec (.mk k n t names nk kid) := by
  intro w F k' n' t' A an ac B bn bc h hs
  obtain ⟨rfl, rfl, rfl, rfl, rfl, -, -, -⟩ := h.shape
  have hj := heap_alloc_new w (.cells (jcs k' n' t' A names.length ac B bn bc) 27)
  have hb : Below w.heap.size w (w.alloc (.cells (jcs k' n' t' A names.length ac B bn bc) 27)) := (Below.refl _ w).alloc (Nat.le_refl _) _
  obtain ⟨j0, j1, j2, j3, j4, -⟩ := five_of hj
  have HB := Lib.hid hb
  unfold SmallJ at hs
  obtain ⟨hn, htl, -⟩ := hs
  have HNB := Lib.hid hn
  clear hn
  have HM := Lib.hid (showJ_mk k' n' t' names bn kid)
  clear h hj hb
  rcases hk with rfl | rfl | rfl | rfl
  · have HM2 := Lib.hid (HM.out.trans (show _ = [110, 117, 108, 108] by rw [if_pos rfl]))
    clear HM
    go_enter Tryz.func37, Tryz.ntmps37
    go_wp2
    go_ret
    exact ⟨by rw [HM2.out]; rfl, HB.out⟩
  · by_cases n1 : n' = 1
    · subst n1
      have HM2 := Lib.hid (HM.out.trans (show _ = [116, 114, 117, 101] by rw [if_neg (by decide), if_pos rfl, if_pos rfl]))
      clear HM
      go_enter Tryz.func37, Tryz.ntmps37
      go_wp2
      go_ret
      exact ⟨by rw [HM2.out]; rfl, HB.out⟩
    · have HM2 := Lib.hid (HM.out.trans (show _ = [102, 97, 108, 115, 101] by rw [if_neg (by decide), if_pos rfl, if_neg n1]))
      have n1' : (n' == 1) = false := beq_eq_false_iff_ne.2 n1
      clear HM n1
      go_enter Tryz.func37, Tryz.ntmps37
      go_wp2
      go_ret
      exact ⟨by rw [HM2.out]; rfl, HB.out⟩
  · have HM2 := Lib.hid (HM.out.trans (show _ = intT n' by rw [if_neg (by decide), if_neg (by decide), if_pos rfl]))
    obtain ⟨hn0, hn1⟩ := HNB.out rfl
    go_enter Tryz.func37, Tryz.ntmps37
    go_wp2_with fail
    refine (refshow_calls n' hn0 hn1 _).mono ?_
    rintro e w1 ⟨rfl, hb⟩
    have HB1 := Lib.hid (keepB HB.out hb)
    clear hb
    go_wp2
    go_ret
    exact ⟨by rw [HM2.out]; rfl, HB1.out⟩
  · have HM2 := Lib.hid (HM.out.trans (show _ = quoteT t' by rw [if_neg (by decide), if_neg (by decide), if_neg (by decide), if_pos rfl]))
    go_enter Tryz.func37, Tryz.ntmps37
    go_wp2_with fail
    refine (dquote_calls t' _ htl).mono ?_
    rintro e w1 ⟨rfl, hb⟩
    have HB1 := Lib.hid (keepB HB.out hb)
    clear hb
    go_wp2
    go_ret
    exact ⟨by rw [HM2.out]; rfl, HB1.out⟩
set_option maxRecDepth 100000 in
set_option maxHeartbeats 16000000 in
theorem dshow_many {k n : Int} {t : Bs} {names : List Bs} {nk : Nat} {kid : Fin nk → Js} (k0 : k ≠ 0) (k1 : k ≠ 1) (k2 : k ≠ 2) (k3 : k ≠ 3) (hrec : ∀ i, DSSpec (kid i)) : DSSpec (.mk k n t names nk kid) := by
  intro w F k' n' t' A an ac B bn bc h hs
  obtain ⟨rfl, rfl, rfl, rfl, rfl, hns, hnk, hac⟩ := h.shape
  have hj := heap_alloc_new w (.cells (jcs k' n' t' A names.length ac B bn bc) 27)
  have hb : Below w.heap.size w (w.alloc (.cells (jcs k' n' t' A names.length ac B bn bc) 27)) := (Below.refl _ w).alloc (Nat.le_refl _) _
  have HB := Lib.hid hb
  have HJ := Lib.hid (h.below hb)
  have hnl := hns.2.1
  have HN := Lib.hid (SlV.below (R' := StrR) (by decide) hns hb (fun _ _ h => h))
  unfold SmallJ at hs
  obtain ⟨-, -, hsn, hsk, hs5, hsl, hsr⟩ := hs
  have hsr := hsr k0 k1 k2 k3
  have HSN := Lib.hid hsn
  have HS5 := Lib.hid hs5
  have HSR := Lib.hid hsr
  have hM := showJ_mk k' n' t' names bn kid
  rw [if_neg k0, if_neg k1, if_neg k2, if_neg k3] at hM
  rw [hM] at hsl
  have hcl : (commas (pieces k' names kid)).length ≤ 1000000000 := by split at hsl <;> (simp at hsl; omega)
  have HM := Lib.hid hM
  have HREC := Lib.hid hrec
  have HPL := Lib.hid (pieces_len k' names kid)
  have HPG := Lib.hid (pieces_get k' names kid)
  have HCL := Lib.hid (fun i => Nat.le_trans (commas_take_le (pieces k' names kid) i) hcl)
  generalize pieces k' names kid = PL at *
  obtain ⟨j0, j1, j2, j3, j4, -⟩ := five_of hj
  clear h hj hb hsn hs5 hsl hsr hM hrec hns hcl
  have HK5 : Hid ((k' == 5) = true → k' = 5) := Lib.hid (fun h => eq_of_beq h)
  have HN5 : Hid ((k' == 5) = false → ¬ k' = 5) := Lib.hid (fun h => beq_eq_false_iff_ne.1 h)
  have e0 : (k' == 0) = false := beq_eq_false_iff_ne.2 k0
  have e1 : (k' == 1) = false := beq_eq_false_iff_ne.2 k1
  have e2 : (k' == 2) = false := beq_eq_false_iff_ne.2 k2
  have e3 : (k' == 3) = false := beq_eq_false_iff_ne.2 k3
  clear k0 k1 k2 k3
  generalize hVV : (w.alloc (.cells (jcs k' n' t' A names.length ac B bn bc) 27)) = V at *
  have HVV := Lib.hid hVV
  clear hVV
  go_enter Tryz.func37, Tryz.ntmps37
  go_wp2_with fail
  rw [HVV.out]
  go_wp2_with fail
  go_loopw [3, 4] (fun v3 v4 wr => ∃ (i : Nat) (acc : Bs), i ≤ bn ∧ v4 = .int .i64 i ∧ v3 = vs acc ∧ Hid (commas (PL.take i) = acc) ∧ Hid (Below V.heap.size V wr)) (fun _ v4 _ => bn - (intOf v4).toNat)
  case atStart => exact ⟨0, [], Nat.zero_le _, rfl, rfl, Lib.hid rfl, Lib.hid (Below.refl _ _)⟩
  case round =>
    obtain ⟨i, acc, hi, rfl, rfl, HA, HBR⟩ := hrel
    have hal : acc.length ≤ 1000000000 := by rw [← HA.out]; exact HCL.out i
    have hasz := sz acc
    have j0r := keepC HBR.out j0
    have j3r := keepC HBR.out j3
    have j4r := keepC HBR.out j4
    by_cases hit : i < bn
    · have hit' : (i : Int) < (bn : Int) := by omega
      have hS := HJ.out.below HBR.out
      obtain ⟨ad, p, kk, kn, kt, kA, kan, kac, kB, kbn, kbc, rfl, hp, -, d0, d1, d2, d3, d4, hk⟩ := hS.kid i hit
      have HC := Lib.hid (fun W (hb : Below wr.heap.size wr W) => HREC.out ⟨i, hit⟩ W F kk kn kt kA kan kac kB kbn kbc (hk.below hb) (HSR.out ⟨i, hit⟩))
      have HPI := Lib.hid (HPG.out i hit)
      have hSL := small_len (HSR.out ⟨i, hit⟩)
      generalize showJ (kid ⟨i, hit⟩) = S at *
      have hssz := sz S
      clear hS hk
      rcases Bool.eq_false_or_eq_true (k' == 5) with e5 | e5
      · obtain ⟨x, hx⟩ : ∃ x, names[i]? = some x := ⟨names[i]'(by rw [HS5.out (HK5.out e5)]; exact hit), List.getElem?_eq_getElem _⟩
        have HX := Lib.hid (HSN.out x (List.mem_of_getElem? hx))
        obtain ⟨an, pn, rfl, hpn, -, dn⟩ := str_cell (SlV.below (R' := StrR) (by decide) HN.out HBR.out (fun _ _ h => h)) hx
        have HPX := Lib.hid (show PL[i]? = some (quoteT x ++ (58 :: S)) by
          rw [HPI.out]
          unfold piece
          rw [if_pos (HK5.out e5), List.getD_eq_getElem?_getD, hx]
          rfl)
        have hxl : i < names.length := (List.getElem?_eq_some_iff.1 hx).1
        have hxl' : (i : Int) < (names.length : Int) := by omega
        have hql : (quoteT x).length ≤ 6000000002 := by
          have h1 := quote_len x
          have h2 := HX.out
          unfold quoteT
          simp only [List.length_cons, List.length_append, List.length_nil]
          omega
        have hqsz := sz (quoteT x)
        have HCS := Lib.hid (commas_step HPX.out)
        clear hx
        by_cases hi0 : i = 0
        · have HCT := Lib.hid (HCS.out.trans (if_pos hi0))
          have HAE := Lib.hid (show acc = [] by rw [← HA.out, hi0]; rfl)
          have hi1 : ¬ (0 : Int) < (i : Int) := by omega
          clear hi0
          go_wp2_with fail
          refine (dquote_calls x _ HX.out).mono ?_
          rintro e w3 ⟨rfl, hb⟩
          have HB3 := Lib.hid (keepB HBR.out hb)
          have HBW := Lib.hid hb
          have d0' := keepC hb d0
          have d1' := keepC hb d1
          have d2' := keepC hb d2
          have d3' := keepC hb d3
          have d4' := keepC hb d4
          have j4s := keepC hb j4r
          clear hb
          go_wp2_with fail
          obtain ⟨ac3, hac3⟩ : ∃ a, acc ++ (quoteT x ++ [58]) = a := ⟨_, rfl⟩
          rw [cat3C, hac3]
          have hal3 : ac3.length ≤ 7000000010 := by rw [← hac3]; simp only [List.length_append, List.length_cons, List.length_nil]; omega
          have has3 := sz ac3
          have HC3 := Lib.hid hac3
          clear hac3
          refine (HC.out _ HBW.out).mono ?_
          rintro e w4 ⟨rfl, hb⟩
          have HB4 := Lib.hid (keepB HB3.out hb)
          clear hb
          go_wp2
          exact ⟨⟨i + 1, ac3 ++ S, by omega, by go_num, catV _ _, Lib.hid (by rw [HCT.out, ← HC3.out, HAE.out]; simp), HB4⟩, by simp [intOf]; omega⟩
        · have HCT := Lib.hid (HCS.out.trans (if_neg hi0))
          have hi1 : (0 : Int) < (i : Int) := by omega
          clear hi0
          go_wp2_with fail
          obtain ⟨ac2, hac2⟩ : ∃ a, acc ++ [44] = a := ⟨_, rfl⟩
          rw [catC, hac2]
          have hal2 : ac2.length ≤ 1000000001 := by rw [← hac2]; simp; omega
          have has2 := sz ac2
          have HC2 := Lib.hid hac2
          clear hac2
          refine (dquote_calls x _ HX.out).mono ?_
          rintro e w3 ⟨rfl, hb⟩
          have HB3 := Lib.hid (keepB HBR.out hb)
          have HBW := Lib.hid hb
          have d0' := keepC hb d0
          have d1' := keepC hb d1
          have d2' := keepC hb d2
          have d3' := keepC hb d3
          have d4' := keepC hb d4
          have j4s := keepC hb j4r
          clear hb
          go_wp2_with fail
          obtain ⟨ac3, hac3⟩ : ∃ a, ac2 ++ (quoteT x ++ [58]) = a := ⟨_, rfl⟩
          rw [cat3C, hac3]
          have hal3 : ac3.length ≤ 7000000010 := by rw [← hac3]; simp only [List.length_append, List.length_cons, List.length_nil]; omega
          have has3 := sz ac3
          have HC3 := Lib.hid hac3
          clear hac3
          refine (HC.out _ HBW.out).mono ?_
          rintro e w4 ⟨rfl, hb⟩
          have HB4 := Lib.hid (keepB HB3.out hb)
          clear hb
          go_wp2
          exact ⟨⟨i + 1, ac3 ++ S, by omega, by go_num, catV _ _, Lib.hid (by rw [HCT.out, ← HC3.out, ← HC2.out, HA.out]; simp), HB4⟩, by simp [intOf]; omega⟩
      · have HPX := Lib.hid (show PL[i]? = some S by
          rw [HPI.out]
          unfold piece
          rw [if_neg (HN5.out e5)])
        have HCS := Lib.hid (commas_step HPX.out)
        by_cases hi0 : i = 0
        · have HCT := Lib.hid (HCS.out.trans (if_pos hi0))
          have HAE := Lib.hid (show acc = [] by rw [← HA.out, hi0]; rfl)
          have hi1 : ¬ (0 : Int) < (i : Int) := by omega
          clear hi0
          go_wp2_with fail
          refine (HC.out _ (Below.refl _ _)).mono ?_
          rintro e w4 ⟨rfl, hb⟩
          have HB4 := Lib.hid (keepB HBR.out hb)
          clear hb
          go_wp2
          exact ⟨⟨i + 1, acc ++ S, by omega, by go_num, catV _ _, Lib.hid (by rw [HCT.out, HAE.out]; rfl), HB4⟩, by simp [intOf]; omega⟩
        · have HCT := Lib.hid (HCS.out.trans (if_neg hi0))
          have hi1 : (0 : Int) < (i : Int) := by omega
          clear hi0
          go_wp2_with fail
          obtain ⟨ac2, hac2⟩ : ∃ a, acc ++ [44] = a := ⟨_, rfl⟩
          rw [catC, hac2]
          have hal2 : ac2.length ≤ 1000000001 := by rw [← hac2]; simp; omega
          have has2 := sz ac2
          have HC2 := Lib.hid hac2
          clear hac2
          refine (HC.out _ (Below.refl _ _)).mono ?_
          rintro e w4 ⟨rfl, hb⟩
          have HB4 := Lib.hid (keepB HBR.out hb)
          clear hb
          go_wp2
          exact ⟨⟨i + 1, ac2 ++ S, by omega, by go_num, catV _ _, Lib.hid (by rw [HCT.out, ← HC2.out, HA.out]; simp), HB4⟩, by simp [intOf]; omega⟩
    · have hie : i = bn := by omega
      have HAC := Lib.hid (show commas PL = acc by rw [← HA.out, hie, ← HPL.out, List.take_length])
      have hie' : ¬ (i : Int) < (bn : Int) := by omega
      clear hit
      rcases Bool.eq_false_or_eq_true (k' == 5) with e5 | e5
      · have HM2 := Lib.hid (HM.out.trans (show _ = 123 :: (acc ++ [125]) by rw [if_pos (HK5.out e5), HAC.out]))
        go_wp2
        go_ret
        exact ⟨by rw [HM2.out, ← catO]; simp [Array.getD], keepB HB.out HBR.out⟩
      · have HM2 := Lib.hid (HM.out.trans (show _ = 91 :: (acc ++ [93]) by rw [if_neg (HN5.out e5), HAC.out]))
        go_wp2
        go_ret
        exact ⟨by rw [HM2.out, ← catL]; simp [Array.getD], keepB HB.out HBR.out⟩
theorem dshow_calls : ∀ j : Js, DSSpec j
  | .mk k n t names nk kid => by
    by_cases k0 : k = 0
    · exact dshow_leaf (.inl k0)
    by_cases k1 : k = 1
    · exact dshow_leaf (.inr (.inl k1))
    by_cases k2 : k = 2
    · exact dshow_leaf (.inr (.inr (.inl k2)))
    by_cases k3 : k = 3
    · exact dshow_leaf (.inr (.inr (.inr k3)))
    exact dshow_many k0 k1 k2 k3 (fun i => dshow_calls (kid i))
end Go.Proofs.YtminegmjklehnaaGreatDoor.J

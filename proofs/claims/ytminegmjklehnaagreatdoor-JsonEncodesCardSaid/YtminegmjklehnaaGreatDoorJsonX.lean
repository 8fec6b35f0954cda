/-
  show: lists and objects.
-/
import Derived.Test.YtminegmjklehnaaGreatDoorJsonW
import Derived.Test.YtminegmjklehnaaGreatDoorJsonJ
namespace Go.Proofs.YtminegmjklehnaaGreatDoor.J
open Go.RowKit Go.Proofs.YtminegmjklehnaaGreatDoor.B
open Go.Proofs.YtminegmjklehnaaGreatDoor.M hiding Bs
open Go.Proofs.YtminegmjklehnaaGreatDoor.C (QRow Turn wpList_append_q)
set_option linter.unusedVariables false
set_option linter.unusedSimpArgs false

theorem cat3 (a S : Bs) : (Value.string ((⟨a.toArray⟩ : ByteArray) ++ ⟨#[58]⟩ ++ ⟨S.toArray⟩)) = vs (a ++ (58 :: S)) := by
  congr 1
  apply ByteArray.ext
  simp
theorem small_len {j : Js} (h : SmallJ j) : (showJ j).length ≤ 1000000000 := by
  obtain ⟨k, n, t, names, nk, kid⟩ := j
  unfold SmallJ at h
  exact h.2.2.2.2.2.1
/-- the pieces so far. -/
def PS (V : World) (l : List Bs) (i : Nat) (v3 : Value) (wr : World) : Prop := ∃ A3 c3, v3 = .slice A3 i c3 ∧ (∀ g, own A3 i c3 = some g → V.heap.size ≤ g) ∧ ∃ css : List (List Value), (∀ c ∈ css, c.length = 1) ∧ QRow wr 9 1 (.slice A3 i c3) i css.flatten ∧ All2 StrR (l.take i) css
theorem ps_own {V wr : World} {l : List Bs} {i : Nat} {v3 : Value} (h : PS V l i v3 wr) (hi : i = l.length) : ∃ A3 c3, v3 = .slice A3 l.length c3 ∧ OwnL wr 9 1 StrR (.slice A3 l.length c3) l := by
  subst hi
  obtain ⟨A3, c3, h1, h2, css, h3, h4, h5⟩ := h
  rw [List.take_length] at h5
  exact ⟨A3, c3, h1, css, h3, h4, h5⟩
theorem ps_snoc {V w2 w6 : World} {l : List Bs} {i : Nat} {A3 : Option Addr} {c3 : Nat} {css : List (List Value)} {v6 : Value} {x : Bs} (hx : l[i]? = some x) (h2 : ∀ g, own A3 i c3 = some g → V.heap.size ≤ g) (h3 : ∀ c ∈ css, c.length = 1) (h5 : All2 StrR (l.take i) css)
    (hq : QRow w6 9 1 v6 (i + 1) (css.flatten ++ [vs x])) (hs : V.heap.size ≤ w2.heap.size) (hb : ∀ g, v6.ownBlock = some g → own A3 i c3 = some g ∨ w2.heap.size ≤ g) : PS V l (i + 1) v6 w6 := by
  obtain ⟨A', c', rfl⟩ := QRow.form hq
  refine ⟨A', c', rfl, fun g hg => (hb g hg).elim (h2 g) (fun h => Nat.le_trans hs h), css ++ [[vs x]], ?_, by rw [List.flatten_append]; simpa using hq, ?_⟩
  · intro c hc
    rcases List.mem_append.1 hc with hc | hc
    · exact h3 c hc
    · rw [List.mem_singleton.1 hc]; rfl
  · rw [List.take_add_one, hx]
    exact h5.snoc rfl
set_option maxRecDepth 100000 in
set_option maxHeartbeats 8000000 in
theorem show_many {k n : Int} {t : Bs} {names : List Bs} {nk : Nat} {kid : Fin nk → Js} (k0 : k ≠ 0) (k1 : k ≠ 1) (k2 : k ≠ 2) (k3 : k ≠ 3) (hrec : ∀ i, SSpec (kid i)) : SSpec (.mk k n t names nk kid) := by
  intro w F k' n' t' A an ac B bn bc h hs hT
  obtain ⟨rfl, rfl, rfl, rfl, rfl, hns, hnk, hac⟩ := h.shape
  obtain ⟨s0, hi, hz0, hz1, hz2⟩ := info_parts infoStr
  have HI := Lib.hid hi; clear hi
  have HZ0 := Lib.hid hz0; clear hz0
  have HZ1 := Lib.hid hz1; clear hz1
  have HZ2 := Lib.hid hz2; clear hz2
  have hj := heap_alloc_new w (.cells (jcs k' n' t' A names.length ac B bn bc) 27)
  have hb : Below w.heap.size w (w.alloc (.cells (jcs k' n' t' A names.length ac B bn bc) 27)) := (Below.refl _ w).alloc (Nat.le_refl _) _
  have HB := Lib.hid hb
  have HV := Lib.hid hj
  have HT := Lib.hid (hT.below hb)
  have HJ := Lib.hid (h.below hb)
  have HN := Lib.hid (SlV.below (R' := StrR) (by decide) hns hb (fun _ _ h => h))
  unfold SmallJ at hs
  obtain ⟨-, -, hsn, hsk, hs5, hsl, hsr⟩ := hs
  have hsr := hsr k0 k1 k2 k3
  have HSN := Lib.hid hsn
  have HS5 := Lib.hid hs5
  have HSR := Lib.hid hsr
  have hM := showJ_mk k' n' t' names bn kid
  rw [if_neg k0, if_neg k1, if_neg k2, if_neg k3] at hM
  rw [hM] at hsl
  have HSL := Lib.hid hsl
  have HM := Lib.hid hM
  have HREC := Lib.hid hrec
  have HPL := Lib.hid (pieces_len k' names kid)
  have HPG := Lib.hid (pieces_get k' names kid)
  have HP0 : Hid (PS (w.alloc (.cells (jcs k' n' t' A names.length ac B bn bc) 27)) (pieces k' names kid) 0 (.slice none 0 0) (w.alloc (.cells (jcs k' n' t' A names.length ac B bn bc) 27))) :=
    Lib.hid ⟨none, 0, rfl, (fun g hg => (by cases hg)), [], (by simp), QRow.nil _ _ _, trivial⟩
  generalize pieces k' names kid = PL at *
  obtain ⟨j0, j1, j2, j3, j4, -⟩ := five_of hj
  clear h hT hj hb hsn hs5 hsl hsr hM hrec hns
  have HK5 : Hid ((k' == 5) = true → k' = 5) := Lib.hid (fun h => eq_of_beq h)
  have HN5 : Hid ((k' == 5) = false → ¬ k' = 5) := Lib.hid (fun h => beq_eq_false_iff_ne.1 h)
  have e0 : (k' == 0) = false := beq_eq_false_iff_ne.2 k0
  have e1 : (k' == 1) = false := beq_eq_false_iff_ne.2 k1
  have e2 : (k' == 2) = false := beq_eq_false_iff_ne.2 k2
  have e3 : (k' == 3) = false := beq_eq_false_iff_ne.2 k3
  clear k0 k1 k2 k3
  go_enter Tryz.func36, Tryz.ntmps36
  go_wp2_with fail
  generalize (w.alloc (.cells (jcs k' n' t' A names.length ac B bn bc) 27)) = V at *
  go_loopg [3, 30] bn (fun q v3 v30 wr => ∃ i : Nat, i ≤ bn ∧ v30 = .int .i64 i ∧ q = bn - i ∧ Hid (PS V PL i v3 wr) ∧ Hid (Below V.heap.size V wr))
  case atStart => exact ⟨0, Nat.zero_le _, rfl, rfl, HP0, Lib.hid (Below.refl _ _)⟩
  case round =>
    obtain ⟨i, hi, rfl, hqi, HPS, HBR⟩ := hrel
    by_cases hit : i < bn
    · have hS := HJ.out.below HBR.out
      obtain ⟨ad, p, kk, kn, kt, kA, kan, kac, kB, kbn, kbc, rfl, hp, -, d0, d1, d2, d3, d4, hk⟩ := hS.kid i hit
      have HC := Lib.hid (fun W (hb : Below wr.heap.size wr W) => HREC.out ⟨i, hit⟩ W F kk kn kt kA kan kac kB kbn kbc (hk.below hb) (HSR.out ⟨i, hit⟩) (HT.out.below (keepB HBR.out hb)))
      have HPI := Lib.hid (HPG.out i hit)
      have HKL := Lib.hid (small_len (HSR.out ⟨i, hit⟩))
      generalize showJ (kid ⟨i, hit⟩) = S at *
      have hb1 : Below wr.heap.size wr (wr.alloc (.cells (jcs kk kn kt kA kan kac kB kbn kbc) 27)) := (Below.refl _ wr).alloc (Nat.le_refl _) _
      have HB1 := Lib.hid hb1
      clear hS hk hb1
      obtain ⟨A3, c3, rfl, ho3, css, hc1, hc2, hc3⟩ := HPS.out
      have HO3 := Lib.hid (And.intro ho3 (And.intro hc1 hc3))
      have HQ := Lib.hid hc2
      clear ho3 hc1 hc2 hc3
      have j0r := keepC HBR.out j0
      have j3r := keepC HBR.out j3
      go_wp2_with fail
      refine (HC.out _ HB1.out).mono ?_
      rintro e w2 ⟨rfl, hb⟩
      have HB2 := Lib.hid (keepB HB1.out hb)
      clear hb
      have j0s := keepC HB2.out j0r
      have j3s := keepC HB2.out j3r
      rcases Bool.eq_false_or_eq_true (k' == 5) with e5 | e5
      · obtain ⟨x, hx⟩ : ∃ x, names[i]? = some x := ⟨names[i]'(by rw [HS5.out (HK5.out e5)]; exact hit), List.getElem?_eq_getElem _⟩
        have HX := Lib.hid (HSN.out x (List.mem_of_getElem? hx))
        obtain ⟨an, pn, rfl, hpn, -, dn⟩ := str_cell (SlV.below (R' := StrR) (by decide) HN.out (keepB HBR.out HB2.out) (fun _ _ h => h)) hx
        have HPX := Lib.hid (show PL[i]? = some (quoteT x ++ (58 :: S)) by
          rw [HPI.out]
          unfold piece
          rw [if_pos (HK5.out e5), List.getD_eq_getElem?_getD, hx]
          rfl)
        have hxl : i < names.length := (List.getElem?_eq_some_iff.1 hx).1
        have hql : (quoteT x).length ≤ 6000000002 := by
          have h1 := quote_len x
          have h2 := HX.out
          unfold quoteT
          simp only [List.length_cons, List.length_append, List.length_nil]
          omega
        have hSL := HKL.out
        clear hx
        go_wp2_with fail
        refine (quote_calls x _ HX.out).mono ?_
        rintro e w3 ⟨rfl, hb⟩
        have HXS := Lib.hid (cat3 (quoteT x) S)
        have HB3 := Lib.hid (keepB HB2.out hb)
        clear hb
        have HQ2 := Lib.hid (HQ.out.kept (w' := w3.alloc (.cells #[.string ((⟨(quoteT x).toArray⟩ : ByteArray) ++ ⟨#[58]⟩ ++ ⟨S.toArray⟩)] 9)) (fun g hg => (alloc_old _ (Nat.lt_of_lt_of_le (HQ.out.block_lt hg) HB3.out.size)).trans (HB3.out.block _ (HQ.out.block_lt hg))))
        have HN2 := Lib.hid (jc_new w3 [.string ((⟨(quoteT x).toArray⟩ : ByteArray) ++ ⟨#[58]⟩ ++ ⟨S.toArray⟩)] 9)
        go_wp2_with (at_builtin; go_loud (refine wpList_append_q rfl _ _ 24 rfl 9 s0 _ 1 16 Tryz.underlying24 HI.out HZ0.out HZ1.out HZ2.out rfl (by decide) _ i _ rfl HQ2.out ⟨w3.heap.size, 0, none⟩ 1 1 [.string ((⟨(quoteT x).toArray⟩ : ByteArray) ++ ⟨#[58]⟩ ++ ⟨S.toArray⟩)] rfl rfl HN2.out (by intro u hu; rw [List.mem_singleton.1 hu]; rfl) (by unfold maxLen; omega) (by omega) ?_))
        intro v6 w6 hq hg hbk
        rw [HXS.out] at hq
        have hsz : V.heap.size ≤ (w3.alloc (.cells #[.string ((⟨(quoteT x).toArray⟩ : ByteArray) ++ ⟨#[58]⟩ ++ ⟨S.toArray⟩)] 9)).heap.size := Nat.le_trans HBR.out.size (Nat.le_trans HB3.out.size (le_alloc _ _))
        have HP6 := Lib.hid (ps_snoc HPX.out HO3.out.1 HO3.out.2.1 HO3.out.2.2 hq hsz (fun g hg => (hbk g hg).imp id (fun h => by rw [asz]; exact h)))
        have HB6 := Lib.hid (show Below V.heap.size V w6 from ((keepB HBR.out HB3.out).alloc (Nat.le_trans HBR.out.size HB3.out.size) _).grown hg hsz (fun b hb => HO3.out.1 b hb))
        clear hq hg hbk
        go_wp2
        go_roundg (bn - (i + 1))
        case measure => omega
        case rel => exact ⟨i + 1, by omega, by go_num, rfl, HP6, HB6⟩
      · have HPX := Lib.hid (show PL[i]? = some S by
          rw [HPI.out]
          unfold piece
          rw [if_neg (HN5.out e5)])
        have HQ2 := Lib.hid (HQ.out.kept (w' := w2.alloc (.cells #[vs S] 9)) (fun g hg => (alloc_old _ (Nat.lt_of_lt_of_le (HQ.out.block_lt hg) HB2.out.size)).trans (HB2.out.block _ (HQ.out.block_lt hg))))
        have HN2 := Lib.hid (jc_new w2 [vs S] 9)
        go_wp2_with (at_builtin; go_loud (refine wpList_append_q rfl _ _ 24 rfl 9 s0 _ 1 16 Tryz.underlying24 HI.out HZ0.out HZ1.out HZ2.out rfl (by decide) _ i _ rfl HQ2.out ⟨w2.heap.size, 0, none⟩ 1 1 [vs S] rfl rfl HN2.out (by intro u hu; rw [List.mem_singleton.1 hu]; rfl) (by unfold maxLen; omega) (by omega) ?_))
        intro v6 w6 hq hg hbk
        have hsz : V.heap.size ≤ (w2.alloc (.cells #[vs S] 9)).heap.size := Nat.le_trans HBR.out.size (Nat.le_trans HB2.out.size (le_alloc _ _))
        have HP6 := Lib.hid (ps_snoc HPX.out HO3.out.1 HO3.out.2.1 HO3.out.2.2 hq hsz (fun g hg => (hbk g hg).imp id (fun h => by rw [asz]; exact h)))
        have HB6 := Lib.hid (show Below V.heap.size V w6 from ((keepB HBR.out HB2.out).alloc (Nat.le_trans HBR.out.size HB2.out.size) _).grown hg hsz (fun b hb => HO3.out.1 b hb))
        clear hq hg hbk
        go_wp2
        go_roundg (bn - (i + 1))
        case measure => omega
        case rel => exact ⟨i + 1, by omega, by go_num, rfl, HP6, HB6⟩
    · have hie : i = bn := by omega
      subst hie
      have hvl : i = PL.length := HPL.out.symm
      obtain ⟨A3, c3, rfl, hown⟩ := ps_own HPS.out hvl
      have j0r := keepC HBR.out j0
      have HLL := Lib.hid hsk
      rcases Bool.eq_false_or_eq_true (k' == 5) with e5 | e5
      · have HM2 := Lib.hid (HM.out.trans (show _ = 123 :: (commas PL ++ [125]) by rw [if_pos (HK5.out e5)]))
        have hcl : (commas PL).length ≤ 1000000000 := by have := HSL.out; split at this <;> (simp at this; omega)
        have HJN := Lib.hid (join_calls hown (by omega) (by have := HSL.out; rw [if_pos (HK5.out e5)] at this; simp at this; omega))
        rw [← hvl] at HJN
        rw [← hvl]
        clear hown hvl HM
        go_wp2_with fail
        refine HJN.out.mono ?_
        rintro e w2 ⟨rfl, hb⟩
        have HB2 := Lib.hid (keepB HBR.out hb)
        clear hb
        go_wp2
        go_ret
        exact ⟨by rw [HM2.out]; first | rfl | simp, keepB HB.out HB2.out⟩
      · have HM2 := Lib.hid (HM.out.trans (show _ = 91 :: (commas PL ++ [93]) by rw [if_neg (HN5.out e5)]))
        have hcl : (commas PL).length ≤ 1000000000 := by have := HSL.out; split at this <;> (simp at this; omega)
        have HJN := Lib.hid (join_calls hown (by omega) (by have := HSL.out; rw [if_neg (HN5.out e5)] at this; simp at this; omega))
        rw [← hvl] at HJN
        rw [← hvl]
        clear hown hvl HM
        go_wp2_with fail
        refine HJN.out.mono ?_
        rintro e w2 ⟨rfl, hb⟩
        have HB2 := Lib.hid (keepB HBR.out hb)
        clear hb
        go_wp2
        go_ret
        exact ⟨by rw [HM2.out]; first | rfl | simp, keepB HB.out HB2.out⟩
theorem show_calls : ∀ j : Js, SSpec j
  | .mk k n t names nk kid => by
    by_cases k0 : k = 0
    · exact show_leaf (.inl k0)
    by_cases k1 : k = 1
    · exact show_leaf (.inr (.inl k1))
    by_cases k2 : k = 2
    · exact show_leaf (.inr (.inr (.inl k2)))
    by_cases k3 : k = 3
    · exact show_leaf (.inr (.inr (.inr k3)))
    exact show_many k0 k1 k2 k3 (fun i => show_calls (kid i))
end Go.Proofs.YtminegmjklehnaaGreatDoor.J

/-
  The document's JSON: what may be encoded (mayText, names, may).
-/
import Derived.Test.YtminegmjklehnaaGreatDoorJdAH
import Derived.Test.YtminegmjklehnaaGreatDoorJsonRa
import Derived.Test.YtminegmjklehnaaGreatDoorJsonQ
import Derived.Test.YtminegmjklehnaaGreatDoorJsonY
namespace Go.Proofs.YtminegmjklehnaaGreatDoor.J
open Go.RowKit Go.Proofs.YtminegmjklehnaaGreatDoor.B
open Go.Proofs.YtminegmjklehnaaGreatDoor.M hiding Bs
open Go.Proofs.YtminegmjklehnaaGreatDoor.C (QRow Turn)
set_option linter.unusedVariables false
set_option linter.unusedSimpArgs false

theorem bw_sl (w : World) (l : Bs) (hl : l.length ≤ 9223372036854775807) : SlV (Lib.bytesWorld w 5 ⟨l.toArray⟩) (fun _ => True) 1 ByR l (some ⟨w.heap.size, 0, none⟩) l.length := by
  refine ⟨rfl, hl, fun k x hx => ?_⟩
  obtain ⟨hk, hx'⟩ := List.getElem?_eq_some_iff.1 hx
  have h2 : (Lib.bytesWorld w 5 ⟨l.toArray⟩).cell? ⟨w.heap.size, k, none⟩ = some (.int .u8 (x.toNat : Int)) := by
    rw [Lib.bytesWorld_cell w _ _ k (by rw [sz]; exact hk)]
    simp [List.getD_eq_getElem?_getD, hk, ← hx']
  refine ⟨_, ⟨w.heap.size, k, none⟩, [.int .u8 (x.toNat : Int)], rfl, by rw [Nat.mul_one, Addr.add_lit, Nat.zero_add], trivial, rfl, fun j u hu => ?_, rfl⟩
  cases j with
  | zero =>
    simp at hu
    subst hu
    rw [add_zero]
    exact h2
  | succ j => simp at hu
theorem sl_dropD {w : World} {F : Nat → Prop} {l : Bs} {ad : Addr} {n : Nat} (h : SlV w F 1 ByR l (some ad) n) (k : Nat) : SlV w F 1 ByR (l.drop k) (some (ad.add k)) (n - k) := by
  refine ⟨by rw [List.length_drop, h.1], Nat.le_trans (Nat.sub_le _ _) h.2.1, fun j x hx => ?_⟩
  rw [List.getElem?_drop] at hx
  obtain ⟨a, b, cs, h1, h2, h3⟩ := h.2.2 _ x hx
  cases h1
  refine ⟨_, b, cs, rfl, ?_, h3⟩
  rw [← h2, Nat.mul_one, Nat.mul_one]
  unfold Addr.add
  split <;> split <;> split <;> simp_all <;> omega
set_option maxRecDepth 100000 in
set_option maxHeartbeats 4000000 in
theorem dmayText_calls (t : Bs) (ht : t.length ≤ 9223372036854775807) (w : World) : Calls Tryz.prog 58 #[vs t] w (BRet w (validT t)) := by
  have hcv := Lib.run_convert_string_bytes (P := Tryz.prog) w 9 22 5 ⟨t.toArray⟩ Tryz.underlying9 Tryz.underlying22 Tryz.underlying5
  rw [sz] at hcv
  have HSL := Lib.hid (bw_sl w t ht)
  have HB := Lib.hid (bw_below w 5 ⟨t.toArray⟩)
  have HC := Lib.hid (grownCap_ge w t.length 0 5)
  generalize grownCap w t.length 0 5 = cp at *
  generalize Lib.bytesWorld w 5 ⟨t.toArray⟩ = W3 at *
  go_enter Tryz.func58, Tryz.ntmps58
  go_wp2_with fail
  go_loopg [3, 4] t.length (fun q v3 v4 wr => ∃ (L : Bs) (ad : Addr) (c : Nat), L.length = q ∧ v3 = .slice (some ad) L.length c ∧ L.length ≤ c ∧ L.length ≤ 9223372036854775807 ∧ Hid (SlV wr (fun _ => True) 1 ByR L (some ad) L.length) ∧ Hid (Below w.heap.size w wr) ∧ Hid (validT L = validT t))
  case atStart => exact ⟨t, _, cp, rfl, rfl, HC.out, ht, HSL, HB, Lib.hid rfl⟩
  case round =>
    clear HSL HB HC hcv
    obtain ⟨L, ad, c, hq, rfl, hc, hl, HS, HB, HE⟩ := hrel
    have HQ := Lib.hid hq
    clear hq
    by_cases h0 : L = []
    · subst h0
      have HE2 := Lib.hid (show validT t = true by rw [← HE.out]; rfl)
      have hlen : ((([] : Bs).length : Nat) : Int) = 0 := rfl
      go_wp2
      go_ret
      exact ⟨by rw [HE2.out] <;> rfl, HB.out⟩
    · have hpos : (0 : Int) < (L.length : Int) := by
        have : 0 < L.length := List.length_pos_iff.2 h0
        omega
      have HV := Lib.hid (show validT L = if charN L = 0 then false else validT (L.drop (charN L)) from validD_charN L h0)
      have HLE := Lib.hid (charN_le L)
      go_wp2_with fail
      refine (char_calls HS.out).mono ?_
      rintro e w2 ⟨rfl, hb⟩
      have HB2 := Lib.hid (keepB HB.out hb)
      have HS2 := Lib.hid (HS.out.below (R' := ByR) (by decide) hb (fun _ _ h => h))
      obtain ⟨cn, hcn⟩ : ∃ cn, charN L = cn := ⟨_, rfl⟩
      rw [hcn] at HV HLE
      rw [hcn]
      clear hb hcn h0
      by_cases hz : cn = 0
      · subst hz
        have HE2 := Lib.hid (show validT t = false by rw [← HE.out, HV.out, if_pos rfl])
        go_wp2
        go_ret
        exact ⟨by rw [HE2.out] <;> rfl, HB2.out⟩
      · have hz' : ((cn : Int) == 0) = false := beq_eq_false_iff_ne.2 (by omega)
        have hcl := HLE.out.1
        have HE2 := Lib.hid (show validT (L.drop cn) = validT t by rw [← HE.out, HV.out, if_neg hz])
        have HLN := Lib.hid (show (L.drop cn).length = L.length - cn from List.length_drop)
        have HS3 := Lib.hid (sl_dropD HS2.out cn)
        have HMS := Lib.hid (show (L.drop cn).length < gk by rw [HLN.out, ← HQ.out]; omega)
        by_cases hcc : cn = c
        · have hLc : L.length - cn = 0 := by omega
          have HN0 := Lib.hid (show L.drop cn = [] from List.eq_nil_of_length_eq_zero (by rw [HLN.out]; exact hLc))
          go_wp2
          go_roundg (0)
          case measure => rw [← HQ.out]; omega
          case rel =>
            refine ⟨[], ad, c - cn, rfl, ?_, Nat.zero_le _, by simp, Lib.hid ⟨rfl, by simp, fun k x hx => by simp at hx⟩, HB2, Lib.hid (by rw [← HN0.out]; exact HE2.out)⟩
            simp [hcc]
            try omega
        · go_wp2
          go_roundg ((L.drop cn).length)
          case measure => exact HMS.out
          case rel =>
            refine ⟨L.drop cn, ad.add cn, c - cn, rfl, ?_, by rw [HLN.out]; omega, by rw [HLN.out]; omega, by rw [HLN.out]; exact HS3, HB2, HE2⟩
            rw [HLN.out]
            try simp [hcc]
set_option maxRecDepth 100000 in
set_option maxHeartbeats 4000000 in
theorem dnames_calls {w : World} {F : Nat → Prop} {names : List Bs} {A : Option Addr} {n c : Nat} (h : SlV w F 1 StrR names A n) (hf : ∀ x ∈ names, x.length ≤ 9223372036854775807) : Calls Tryz.prog 59 #[.slice A n c] w (BRet w (namesOk names)) := by
  obtain ⟨e1, -⟩ := id h
  subst e1
  have hnl := h.2.1
  have HS := Lib.hid h
  have HF := Lib.hid hf
  clear h hf
  go_enter Tryz.func59, Tryz.ntmps59
  go_wp2_with fail
  go_loopw [3, 4, 5] (fun v3 v4 v5 wr => ∃ i : Nat, i ≤ names.length ∧ v3 = .int .i64 i ∧ Hid (namesGo (names.take i) (names.drop i) = namesOk names) ∧ Hid (Below w.heap.size w wr)) (fun v3 _ _ _ => names.length - (intOf v3).toNat)
  case atStart => exact ⟨0, Nat.zero_le _, rfl, Lib.hid rfl, Lib.hid (Below.refl _ _)⟩
  case round =>
    obtain ⟨i, hi, rfl, HE, HB⟩ := hrel
    by_cases hin : i < names.length
    · have hin' : (i : Int) < (names.length : Int) := by omega
      obtain ⟨x, hx⟩ : ∃ x, names[i]? = some x := ⟨names[i]'hin, List.getElem?_eq_getElem hin⟩
      have hS := HS.out.below (R' := StrR) (by decide) HB.out (fun _ _ h => h)
      obtain ⟨ad, p, rfl, hp, -, d0⟩ := str_cell hS hx
      have hdr : names.drop i = x :: names.drop (i + 1) := by
        rw [List.drop_eq_getElem_cons hin]
        congr 1
        exact (List.getElem?_eq_some_iff.1 hx).2
      have HN := Lib.hid (show namesOk names = (validT x && !(names.take i).contains x && namesGo (names.take (i + 1)) (names.drop (i + 1))) by
        rw [← HE.out, hdr, names_cons, List.take_add_one, hx]
        rfl)
      have HM := Lib.hid (dmayText_calls x (HF.out x (List.mem_of_getElem? hx)))
      have HX := Lib.hid hx
      clear hS hx hdr
      go_wp2_with fail
      refine (HM.out _).mono ?_
      rintro e w2 ⟨rfl, hb⟩
      have HB2 := Lib.hid (keepB HB.out hb)
      clear hb d0
      cases hv : validT x with
      | false =>
        have HN2 := Lib.hid (show namesOk names = false by rw [HN.out, hv]; rfl)
        go_wp2
        go_ret
        exact ⟨by rw [HN2.out] <;> rfl, HB2.out⟩
      | true =>
        rw [hv, Bool.true_and] at HN
        clear hv
        go_wp2_with fail
        go_loopw [5] (fun v5 wr => ∃ k : Nat, k ≤ i ∧ v5 = .int .i64 k ∧ Hid ((names.take k).contains x = false) ∧ Hid (Below w.heap.size w wr)) (fun v5 _ => i - (intOf v5).toNat)
        case atStart => exact ⟨0, Nat.zero_le _, rfl, Lib.hid rfl, HB2⟩
        case round =>
          clear HB HB2
          obtain ⟨k, hk, rfl, HC, HB⟩ := hrel
          by_cases hki : k < i
          · have hki' : (k : Int) < (i : Int) := by omega
            obtain ⟨y, hy⟩ : ∃ y, names[k]? = some y := ⟨names[k]'(by omega), List.getElem?_eq_getElem (by omega)⟩
            have hS := HS.out.below (R' := StrR) (by decide) HB.out (fun _ _ h => h)
            obtain ⟨ad1, p1, e1, hp1, -, d1⟩ := str_cell hS HX.out
            obtain ⟨ad2, p2, e2, hp2, -, d2⟩ := str_cell hS hy
            cases e1
            cases e2
            have hpp : p1 = p := hp1.symm.trans hp
            subst hpp
            clear hp1
            have hkn : (k : Int) < (names.length : Int) := by omega
            cases hyx : (y == x) with
            | true =>
              have HN2 := Lib.hid (show namesOk names = false by
                have : (names.take i).contains x = true := by
                  rw [List.contains_iff_mem, ← eq_of_beq hyx]
                  exact List.mem_of_getElem? (i := k) (by rw [List.getElem?_take, if_pos hki]; exact hy)
                rw [HN.out, this]
                rfl)
              clear hS hy
              go_wp2_with fail
              go_quiet (fail)
              go_wp2
              go_ret
              exact ⟨by rw [HN2.out] <;> rfl, below_drewN HB.out _⟩
            | false =>
              have HC2 := Lib.hid (show (names.take (k + 1)).contains x = false by
                rw [List.take_add_one, hy]
                have h2 := HC.out
                rw [← Bool.not_eq_true, List.contains_iff_mem] at h2 ⊢
                intro hm
                rcases List.mem_append.1 hm with hm | hm
                · exact h2 hm
                · simp at hm
                  rw [hm] at hyx
                  simp at hyx)
              clear hS hy
              go_wp2_with fail
              go_quiet (fail)
              go_wp2
              exact ⟨⟨k + 1, by omega, by go_num, HC2, Lib.hid (below_drewN HB.out _)⟩, by simp [intOf]; omega⟩
          · have hke : k = i := by omega
            subst hke
            have HN2 := Lib.hid (show namesGo (names.take (k + 1)) (names.drop (k + 1)) = namesOk names by rw [HN.out, HC.out]; rfl)
            go_wp2
            exact ⟨⟨k + 1, by omega, by go_num, HN2, HB⟩, by simp [intOf]; omega⟩
    · have hie : i = names.length := by omega
      subst hie
      have HN2 := Lib.hid (show namesOk names = true by rw [← HE.out, List.drop_length]; rfl)
      go_wp2
      go_ret
      exact ⟨by rw [HN2.out] <;> rfl, HB.out⟩
theorem andTo_no {n : Nat} (f : Fin n → Bool) {k : Nat} (h : k < n) (hf : f ⟨k, h⟩ = false) : andTo f n = false := by
  rw [andTo_all]
  exact allTo_false f n h h hf
theorem andTo_go {n : Nat} (f : Fin n → Bool) {k : Nat} (h : k < n) (hk : andTo f k = true) (hf : f ⟨k, h⟩ = true) : andTo f (k + 1) = true := by
  rw [andTo, hk, dif_pos h, hf]
  rfl
/-- the document's may, at a depth. -/
def DMSpec (d : Nat) : Prop := ∀ (j : Js) (w : World) (F : Nat → Prop) (k n : Int) (t : Bs) (A : Option Addr) (an ac : Nat) (B : Option Addr) (bn bc : Nat) (dp : Int), JsV w F j (jAgg k n t A an ac B bn bc) → FitJ j → dp = 12 - (d : Int) →
  Calls Tryz.prog 35 #[jAgg k n t A an ac B bn bc, .int .i64 dp] w (BRet w (mayJ j d))
set_option maxRecDepth 100000 in
set_option maxHeartbeats 8000000 in
theorem dmay_step (d : Nat) (hd : d ≤ 12) (hrec : ∀ d', d = d' + 1 → DMSpec d') : DMSpec d := by
  intro j w F k n t A an ac B bn bc dp h hf hdp
  obtain ⟨k', n', t', names, nk, kid⟩ := j
  obtain ⟨rfl, rfl, rfl, rfl, rfl, hns, hnk, hac⟩ := h.shape
  have hj := heap_alloc_new w (.cells (jcs k n t A names.length ac B bn bc) 27)
  have hb : Below w.heap.size w (w.alloc (.cells (jcs k n t A names.length ac B bn bc) 27)) := (Below.refl _ w).alloc (Nat.le_refl _) _
  unfold FitJ at hf
  obtain ⟨hf1, hf2, hf3⟩ := hf
  obtain ⟨j0, j1, j2, j3, j4, -⟩ := five_of hj
  have HB := Lib.hid hb
  have HN := Lib.hid (SlV.below (R' := StrR) (by decide) hns hb (fun _ _ h => h))
  have hnl := hns.2.1
  have HJ := Lib.hid (h.below hb)
  have HF2 := Lib.hid hf2
  have HF3 := Lib.hid hf3
  have HREC := Lib.hid hrec
  have HDP := Lib.hid hdp
  have hdpp : (12 : Int) ≤ dp ∨ dp < 12 := by omega
  have HD0 := Lib.hid (show (12 : Int) ≤ dp → d = 0 by omega)
  have HD1 := Lib.hid (show dp < 12 → ∃ d', d = d' + 1 ∧ dp + 1 = 12 - (d' : Int) by
    intro h
    exact ⟨d - 1, by omega, by omega⟩)
  have hdr : 0 ≤ dp := by omega
  clear h hns hb hj hrec hf2 hf3 hdp
  generalize hV : (w.alloc (.cells (jcs k n t A names.length ac B bn bc) 27)) = V at *
  have HV := Lib.hid hV
  clear hV
  by_cases k0 : k = 0
  · subst k0
    have HM := Lib.hid (mayJ_k0 (n := n) (t := t) (names := names) (kid := kid) d)
    go_enter Tryz.func35, Tryz.ntmps35
    go_wp2_with fail
    rw [HV.out]
    go_wp2
    go_ret
    exact ⟨by rw [HM.out] <;> rfl, HB.out⟩
  by_cases k1 : k = 1
  · subst k1
    have HM := Lib.hid (mayJ_k1 (n := n) (t := t) (names := names) (kid := kid) d)
    by_cases n0 : n = 0
    · subst n0
      go_enter Tryz.func35, Tryz.ntmps35
      go_wp2_with fail
      rw [HV.out]
      go_wp2
      go_ret
      exact ⟨by rw [HM.out]; rfl, HB.out⟩
    · have n0' : (n == 0) = false := beq_eq_false_iff_ne.2 n0
      go_enter Tryz.func35, Tryz.ntmps35
      go_wp2_with fail
      rw [HV.out]
      go_wp2
      go_ret
      exact ⟨by rw [HM.out, n0', Bool.false_or]; try simp [Array.getD], HB.out⟩
  by_cases k2 : k = 2
  · subst k2
    have HM := Lib.hid (mayJ_k2 (n := n) (t := t) (names := names) (kid := kid) d)
    by_cases n0 : -1000000000000000 < n
    · have n0' : decide (-1000000000000000 < n) = true := decide_eq_true n0
      go_enter Tryz.func35, Tryz.ntmps35
      go_wp2_with fail
      rw [HV.out]
      go_wp2
      go_ret
      exact ⟨by rw [HM.out, n0', Bool.and_true]; try simp [Array.getD], HB.out⟩
    · have n0' : decide (-1000000000000000 < n) = false := decide_eq_false n0
      go_enter Tryz.func35, Tryz.ntmps35
      go_wp2_with fail
      rw [HV.out]
      go_wp2
      go_ret
      exact ⟨by rw [HM.out, n0', Bool.and_false]; try simp [Array.getD], HB.out⟩
  by_cases k3 : k = 3
  · subst k3
    have HM := Lib.hid (mayJ_k3 (n := n) (t := t) (names := names) (kid := kid) d)
    have HT := Lib.hid (dmayText_calls t hf1)
    go_enter Tryz.func35, Tryz.ntmps35
    go_wp2_with fail
    rw [HV.out]
    go_wp2_with fail
    refine (HT.out _).mono ?_
    rintro e w2 ⟨rfl, hb⟩
    have HB2 := Lib.hid (keepB HB.out hb)
    clear hb
    go_wp2
    go_ret
    exact ⟨by rw [HM.out] <;> rfl, HB2.out⟩
  have HNO := Lib.hid (fun h => mayJ_no (n := n) (t := t) (names := names) (kid := kid) d k0 k1 k2 k3 h)
  have e0 : (k == 0) = false := beq_eq_false_iff_ne.2 k0
  have e1 : (k == 1) = false := beq_eq_false_iff_ne.2 k1
  have e2 : (k == 2) = false := beq_eq_false_iff_ne.2 k2
  have e3 : (k == 3) = false := beq_eq_false_iff_ne.2 k3
  clear k0 k1 k2 k3
  by_cases h45 : k ≠ 4 ∧ k ≠ 5
  · have HM := Lib.hid (HNO.out (.inr h45))
    have e4 : (k != 4) = true := bne_iff_ne.2 h45.1
    have e5 : (k != 5) = true := bne_iff_ne.2 h45.2
    clear h45
    go_enter Tryz.func35, Tryz.ntmps35
    go_wp2_with fail
    rw [HV.out]
    go_wp2
    go_ret
    exact ⟨by rw [HM.out] <;> rfl, HB.out⟩
  have h45' : k = 4 ∨ k = 5 := by omega
  clear h45
  rcases hdpp with hdp | hdp
  · have HM := Lib.hid (HNO.out (.inl (HD0.out hdp)))
    rcases h45' with rfl | rfl
    all_goals
      go_enter Tryz.func35, Tryz.ntmps35
      go_wp2_with fail
      rw [HV.out]
      go_wp2
      go_ret
      exact ⟨by rw [HM.out] <;> rfl, HB.out⟩
  obtain ⟨d', hdd, hdp1⟩ := HD1.out hdp
  have hnd : ¬ (12 : Int) ≤ dp := by omega
  have HK := Lib.hid (HREC.out d' hdd)
  have HDP1 := Lib.hid hdp1
  subst hdd
  clear hdp1 HNO HD0 HD1 HREC HDP
  rcases h45' with rfl | rfl
  · have HM := Lib.hid (mayJ_k4 (n := n) (t := t) (names := names) (kid := kid) d')
    go_enter Tryz.func35, Tryz.ntmps35
    go_wp2_with fail
    rw [HV.out]
    go_wp2_with fail
    go_loopw [6, 7] (fun v6 v7 wr => ∃ i : Nat, i ≤ bn ∧ v6 = .int .i64 i ∧ Hid (andTo (fun i => mayJ (kid i) d') i = true) ∧ Hid (Below V.heap.size V wr)) (fun v6 _ _ => bn - (intOf v6).toNat)
    case atStart => exact ⟨0, Nat.zero_le _, rfl, Lib.hid rfl, Lib.hid (Below.refl _ _)⟩
    case round =>
      obtain ⟨i, hi, rfl, HA, HBR⟩ := hrel
      have j4' := keepC HBR.out j4
      by_cases hin : i < bn
      · have hin' : (i : Int) < (bn : Int) := by omega
        obtain ⟨ad, p, kk, kn, kt, kA, kan, kac, kB, kbn, kbc, rfl, hp, -, c0, c1, c2, c3, c4, hk⟩ := (HJ.out.below HBR.out).kid i hin
        have HC := Lib.hid (HK.out (kid ⟨i, hin⟩) wr F kk kn kt kA kan kac kB kbn kbc (dp + 1) hk (HF3.out ⟨i, hin⟩) HDP1.out)
        have HM2 := Lib.hid (fun h => HM.out.trans (andTo_no (fun i => mayJ (kid i) d') hin h))
        have HA2 := Lib.hid (fun h => andTo_go (fun i => mayJ (kid i) d') hin HA.out h)
        generalize mayJ (kid ⟨i, hin⟩) d' = bb at *
        clear hk
        go_wp2_with fail
        refine HC.out.mono ?_
        rintro e w2 ⟨rfl, hb⟩
        have HB2 := Lib.hid (keepB HBR.out hb)
        clear hb c0 c1 c2 c3 c4
        cases bb with
        | false =>
          have HM3 := Lib.hid (HM2.out rfl)
          go_wp2
          go_ret
          exact ⟨by rw [HM3.out] <;> rfl, keepB HB.out HB2.out⟩
        | true =>
          have HA3 := Lib.hid (HA2.out rfl)
          go_wp2
          exact ⟨⟨i + 1, by omega, by go_num, HA3, HB2⟩, by simp [intOf]; omega⟩
      · have hie : i = bn := by omega
        subst hie
        go_wp2
        go_ret
        exact ⟨by rw [HM.out, HA.out] <;> rfl, keepB HB.out HBR.out⟩
  · have HM := Lib.hid (mayJ_k5 (n := n) (t := t) (names := names) (kid := kid) d')
    have HNA := Lib.hid (dnames_calls (c := ac) HN.out HF2.out)
    go_enter Tryz.func35, Tryz.ntmps35
    go_wp2_with fail
    rw [HV.out]
    go_wp2_with fail
    refine HNA.out.mono ?_
    rintro e w1 ⟨rfl, hb⟩
    have HB1 := Lib.hid hb
    have j3' := keepC hb j3
    have j4' := keepC hb j4
    clear hb
    cases hno : namesOk names with
    | false =>
      have HM2 := Lib.hid (HM.out.trans (by rw [hno, Bool.false_and, Bool.and_false]))
      go_wp2
      go_ret
      exact ⟨by rw [HM2.out] <;> rfl, keepB HB.out HB1.out⟩
    | true =>
      by_cases hnb : names.length = bn
      · have HM2 := Lib.hid (show mayJ (.mk 5 n t names bn kid) (d' + 1) = andTo (fun i => mayJ (kid i) d') bn by
          rw [HM.out, hno, Bool.true_and, show (names.length == bn) = true from beq_iff_eq.2 hnb, Bool.true_and])
        have hnb' : ((names.length : Int) != (bn : Int)) = false := by
          rw [hnb]
          simp
        clear HM hno
        have HNB := Lib.hid hnb
        clear hnb
        go_wp2_with fail
        go_loopw [6, 7] (fun v6 v7 wr => ∃ i : Nat, i ≤ bn ∧ v6 = .int .i64 i ∧ Hid (andTo (fun i => mayJ (kid i) d') i = true) ∧ Hid (Below V.heap.size V wr)) (fun v6 _ _ => bn - (intOf v6).toNat)
        case atStart => exact ⟨0, Nat.zero_le _, rfl, Lib.hid rfl, HB1⟩
        case round =>
          clear j3' j4'
          obtain ⟨i, hi, rfl, HA, HBR⟩ := hrel
          have j4' := keepC HBR.out j4
          by_cases hin : i < bn
          · have hin' : (i : Int) < (bn : Int) := by omega
            obtain ⟨ad, p, kk, kn, kt, kA, kan, kac, kB, kbn, kbc, rfl, hp, -, c0, c1, c2, c3, c4, hk⟩ := (HJ.out.below HBR.out).kid i hin
            have HC := Lib.hid (HK.out (kid ⟨i, hin⟩) wr F kk kn kt kA kan kac kB kbn kbc (dp + 1) hk (HF3.out ⟨i, hin⟩) HDP1.out)
            have HM3 := Lib.hid (fun h => HM2.out.trans (andTo_no (fun i => mayJ (kid i) d') hin h))
            have HA2 := Lib.hid (fun h => andTo_go (fun i => mayJ (kid i) d') hin HA.out h)
            generalize mayJ (kid ⟨i, hin⟩) d' = bb at *
            clear hk
            go_wp2_with fail
            refine HC.out.mono ?_
            rintro e w2 ⟨rfl, hb⟩
            have HB2 := Lib.hid (keepB HBR.out hb)
            clear hb c0 c1 c2 c3 c4
            cases bb with
            | false =>
              have HM4 := Lib.hid (HM3.out rfl)
              go_wp2
              go_ret
              exact ⟨by rw [HM4.out] <;> rfl, keepB HB.out HB2.out⟩
            | true =>
              have HA3 := Lib.hid (HA2.out rfl)
              go_wp2
              exact ⟨⟨i + 1, by omega, by go_num, HA3, HB2⟩, by simp [intOf]; omega⟩
          · have hie : i = bn := by omega
            subst hie
            go_wp2
            go_ret
            exact ⟨by rw [HM2.out, HA.out] <;> rfl, keepB HB.out HBR.out⟩
      · have HM2 := Lib.hid (HM.out.trans (by rw [show (names.length == bn) = false from beq_eq_false_iff_ne.2 hnb, Bool.false_and]))
        have hnb' : ((names.length : Int) != (bn : Int)) = true := bne_iff_ne.2 (by omega)
        clear HM hno hnb
        go_wp2
        go_ret
        exact ⟨by rw [HM2.out] <;> rfl, keepB HB.out HB1.out⟩
theorem dmay_calls : ∀ d : Nat, d ≤ 12 → DMSpec d
  | 0, h => dmay_step 0 h (fun d' e => by omega)
  | d + 1, h => dmay_step (d + 1) h (fun d' e => by
      obtain rfl : d' = d := by omega
      exact dmay_calls d' (by omega))
end Go.Proofs.YtminegmjklehnaaGreatDoor.J

/-
  The document's Print: the walk.
-/
import Derived.Test.YtgmlcnikphbiiaaDoorLangOe
import Derived.Test.YtgmlcnikphbiiaaDoorLangPq
namespace Go.Proofs.YtgmlcnikphbiiaaDoor.L
open Go.RowKit Go.Proofs.YtgmlcnikphbiiaaDoor.B Go.Proofs.YtgmlcnikphbiiaaDoor.S10 Go.Proofs.YtgmlcnikphbiiaaDoor.Nm
open Go.Proofs.YtgmlcnikphbiiaaDoor.C (QRow Turn)
set_option linter.unusedVariables false
set_option linter.unusedSimpArgs false

theorem refsT_snoc : ∀ (l : List Rf) (x : Rf), refsT (l ++ [x]) = if l.isEmpty then refT x else refsT l ++ ([32, 124, 32] ++ refT x)
  | [], x => rfl
  | [y], x => rfl
  | y :: z :: l, x => by
    have := refsT_snoc (z :: l) x
    show refT y ++ ([32, 124, 32] ++ refsT (z :: l ++ [x])) = _
    rw [this]
    show refT y ++ ([32, 124, 32] ++ (refsT (z :: l) ++ ([32, 124, 32] ++ refT x))) = refT y ++ ([32, 124, 32] ++ refsT (z :: l)) ++ ([32, 124, 32] ++ refT x)
    simp
theorem take_at {α : Type} (xs : List α) (d : α) {j : Nat} (h : j < xs.length) : xs.take (j + 1) = xs.take j ++ [xs.getD j d] := by
  rw [List.take_add_one, List.getD_eq_getElem?_getD, List.getElem?_eq_getElem h]
  rfl
theorem refs_step {xs : List Rf} {j : Nat} (h : j < xs.length) : refsT (xs.take (j + 1)) = if j = 0 then refT (rfAt xs j) else refsT (xs.take j) ++ ([32, 124, 32] ++ refT (rfAt xs j)) := by
  rw [take_at xs ⟨[], []⟩ h, refsT_snoc]
  by_cases hj : j = 0
  · subst hj; rfl
  · rw [if_neg hj, if_neg]
    · rfl
    · cases xs with
      | nil => simp at h
      | cons a l =>
        cases j with
        | zero => exact absurd rfl hj
        | succ j => simp
set_option maxRecDepth 100000 in
set_option maxHeartbeats 8000000 in
theorem rPrint_calls (F : Nat → Prop) (ts : List Ty) (A : Option Addr) (n c : Nat) (w : World) (h : SlV w F 2 (TyR w F) ts A n) (hf : FitS ts) (hp : mayS ts = true → Told ts) :
    Calls Tryd.prog 15 #[.agg #[.slice A n c]] w (ShowRet w (printP ts)) := by
  have hnl := h.2.1
  have hB0 := (Below.refl w.heap.size w).alloc (Nat.le_refl _) (.cells #[.slice A n c] 25)
  have S := Lib.hid h
  have HLN := Lib.hid h.1
  have HMAY := Lib.hid (rMay_calls F ts A n c _ (types_below h hB0) hf)
  have HB0 := Lib.hid hB0
  have g0 := heap_alloc_new w (.cells #[.slice A n c] 25)
  have HG0 := Lib.hid g0
  clear h hf hB0 g0
  obtain ⟨mm, hmm⟩ : ∃ mm, mayS ts = mm := ⟨_, rfl⟩
  have HPP := Lib.hid (show printP ts = if mm then printT ts else [] by unfold printP; rw [hmm])
  rw [hmm] at HMAY
  have HMM := Lib.hid hmm
  have HTO := Lib.hid hp
  clear hmm hp
  cases mm
  · go_enter Tryd.func15, Tryd.ntmps15
    go_wp2_with fail
    refine HMAY.out.mono ?_
    rintro e w1 ⟨rfl, hb⟩
    have HB1 := Lib.hid (keepB HB0.out hb)
    clear hb
    go_wp2
    go_ret
    exact ⟨by rw [HPP.out]; rfl, HB1.out⟩
  have HT := Lib.hid (HTO.out HMM.out)
  have HMT := Lib.hid (fun j (hj : j < ts.length) => List.all_eq_true.1 (show ts.all mayT = true from HMM.out) (tyAt ts j) (tyAt_mem hj))
  go_enter Tryd.func15, Tryd.ntmps15
  go_wp2_with fail
  refine HMAY.out.mono ?_
  rintro e w1 ⟨rfl, hb⟩
  have HBX := Lib.hid hb
  clear hb
  go_wp2_with fail
  go_loopw [4, 5] (fun v4 v5 wr => ∃ j : Nat, ∃ t : Bs, j ≤ n ∧ v5 = .int .i64 j ∧ v4 = vs t ∧ Hid (t = (ts.take j).flatMap tyT) ∧ Hid (Below (w.alloc (.cells #[.slice A n c] 25)).heap.size (w.alloc (.cells #[.slice A n c] 25)) wr)) (fun _ v5 _ => n - (intOf v5).toNat)
  case atStart => exact ⟨0, [], Nat.zero_le _, rfl, rfl, Lib.hid rfl, HBX⟩
  case round =>
    clear HBX
    obtain ⟨j, t, hjn, rfl, rfl, HTX, HB⟩ := hrel
    have s0 := cells_of ((HB.out.block w.heap.size (by simp)).trans HG0.out) 0 (.slice A n c) rfl
    have HBW := Lib.hid (keepB HB0.out HB.out)
    by_cases hj : j < n
    rotate_left
    · have hjn' : j = n := by omega
      subst hjn'
      have HE := Lib.hid (show t = printT ts by rw [HTX.out, ← HLN.out, List.take_length]; rfl)
      go_wp2
      go_ret
      exact ⟨by rw [HPP.out, ← HE.out]; rfl, HBW.out⟩
    obtain ⟨ad, p, B, m, d, rfl, hp1, d0, d1, hr⟩ := type_cells S.out j hj
    have HD1 := Lib.hid d1
    have d0 := keepC HBW.out d0
    have d1 := keepC HBW.out d1
    have hml := hr.2.1
    have hmt := HMT.out j (by rw [HLN.out]; exact hj)
    unfold mayT at hmt
    rw [Bool.and_eq_true] at hmt
    have hnx := (nm_len hmt.1).2
    have HALL := Lib.hid (fun i (hi : i < (tyAt ts j).rels.length) => List.all_eq_true.1 hmt.2 (rlAt (tyAt ts j).rels i) (rlAt_mem hi))
    have HQ1 := Lib.hid (fun i => HT.out.refs j i)
    have hst : (ts.take (j + 1)).flatMap tyT = (ts.take j).flatMap tyT ++ tyT (tyAt ts j) := flat_step ts ⟨[], []⟩ tyT (by rw [HLN.out]; exact hj)
    have hle := flat_le ts tyT (j + 1)
    have hlp := HT.out.len
    have hle2 : (printT ts).length = (ts.flatMap tyT).length := rfl
    rw [hst, ← HTX.out, List.length_append] at hle
    have hty : tyT (tyAt ts j) = typeB ++ (tyAt ts j).name ++ [10] ++ (tyAt ts j).rels.flatMap lineT := rfl
    rw [hty, List.length_append] at hle
    have HST := Lib.hid (show (ts.take (j + 1)).flatMap tyT = t ++ (typeB ++ (tyAt ts j).name ++ [10] ++ (tyAt ts j).rels.flatMap lineT) by rw [hst, ← HTX.out, hty])
    have HR := Lib.hid hr
    have HRL := Lib.hid hr.1
    generalize (tyAt ts j).name = nx at *
    generalize (tyAt ts j).rels = rs at *
    have ht5 : (typeB ++ nx ++ [10]).length = nx.length + 6 := by simp [typeB]
    have htl : t.length ≤ 10000000000000 := by omega
    have hrl : t.length + nx.length + (rs.flatMap lineT).length ≤ 10000000000000 := by omega
    clear hst hty hmt hr hle hle2 hlp
    go_wp2_with fail
    go_loopw [4, 6] (fun v4 v6 wr2 => ∃ i : Nat, ∃ t2 : Bs, i ≤ m ∧ v6 = .int .i64 i ∧ v4 = vs t2 ∧ Hid (t2 = t ++ (typeB ++ nx ++ [10] ++ (rs.take i).flatMap lineT)) ∧ Hid (Below (w.alloc (.cells #[.slice (some ad) n c] 25)).heap.size (w.alloc (.cells #[.slice (some ad) n c] 25)) wr2)) (fun _ v6 _ => m - (intOf v6).toNat)
    case atStart => exact ⟨0, _, Nat.zero_le _, rfl, rfl, Lib.hid (by simp [typeB]), HB⟩
    case round =>
      clear s0 d0 d1 HBW HB
      obtain ⟨i, t2, him, rfl, rfl, HT2, HB⟩ := hrel
      have HBW := Lib.hid (keepB HB0.out HB.out)
      have s0 := cells_of ((HB.out.block w.heap.size (by simp)).trans HG0.out) 0 (.slice (some ad) n c) rfl
      have d1 := keepC HBW.out HD1.out
      by_cases hi : i < m
      rotate_left
      · have him' : i = m := by omega
        subst him'
        go_wp2
        go_roundw
        case rel => exact ⟨j + 1, t2, by omega, by go_num, rfl, Lib.hid (by rw [HT2.out, HST.out, ← HRL.out, List.take_length]), HB⟩
        case measure => simp [intOf]; omega
      obtain ⟨ar, r, C, cn, cc, rk, ra, rb, C', cn', cc', rfl, hr, r0, r1, r2, r3, r4, r5, hrr, hre⟩ := rel_cells (rels_below HR.out HBW.out) i hi
      have hmi := HALL.out i (by rw [HRL.out]; exact hi)
      have hcn := HQ1.out i
      have hln := hrr.1
      rw [hln] at hcn
      have hmiR := mayR_refs hmi
      have hmx := hmi
      unfold mayR at hmx
      rw [Bool.and_eq_true] at hmx
      have hnr := (nm_len hmx.1).2
      have hst2 : (rs.take (i + 1)).flatMap lineT = (rs.take i).flatMap lineT ++ lineT (rlAt rs i) := flat_step rs ⟨[], [], leaf 0 [] []⟩ lineT (by rw [HRL.out]; exact hi)
      have hle3 := flat_le rs lineT (i + 1)
      rw [hst2, List.length_append] at hle3
      have ht2 : t2.length ≤ 10000000000006 := by rw [HT2.out]; simp only [List.length_append] at ht5 ⊢; omega
      have HST2 := Lib.hid (show t ++ (typeB ++ nx ++ [10] ++ (rs.take (i + 1)).flatMap lineT) = t2 ++ lineT (rlAt rs i) by rw [hst2, HT2.out]; simp)
      have hA := (Below.refl wr.heap.size wr).alloc (Nat.le_refl _) (.cells (rlCells (rlAt rs i).name C cn cc rk ra rb C' cn' cc') 48)
      have hgn := heap_alloc_new wr (.cells (rlCells (rlAt rs i).name C cn cc rk ra rb C' cn' cc') 48)
      have HGN := Lib.hid hgn
      have HA := Lib.hid hA
      have HBA := Lib.hid (belAlloc HB.out (.cells (rlCells (rlAt rs i).name C cn cc rk ra rb C' cn' cc') 48))
      have HRE := Lib.hid (hre.alloc (.cells (rlCells (rlAt rs i).name C cn cc rk ra rb C' cn' cc') 48))
      have HRR := Lib.hid (hrr.below (by decide) hA (fun _ _ h => h))
      have HBN := Lib.hid (rfl : wr.heap.size = wr.heap.size)
      by_cases hz : cn = 0
      · subst hz
        have hre0 : (rlAt rs i).refs = [] := List.eq_nil_of_length_eq_zero hln
        rw [hre0] at hmx
        have hme : mayE (rlAt rs i).ex 12 = true := hmx.2
        have hsl := showE_len 12 _ hme
        have HLT := Lib.hid (show lineT (rlAt rs i) = defineB ++ (rlAt rs i).name ++ [58, 32] ++ showE (rlAt rs i).ex ++ [10] by unfold lineT; rw [hre0]; rfl)
        have HSH := Lib.hid (fun w h => rshow_calls F 12 (rlAt rs i).ex (exAgg rk ra rb C' cn' cc') w h (by decide) hme)
        have HRED := Lib.hid HRE.out.drew
        have HBAD : Hid (Below (w.alloc (.cells #[.slice (some ad) n c] 25)).heap.size (w.alloc (.cells #[.slice (some ad) n c] 25)) ((wr.alloc (.cells (rlCells (rlAt rs i).name C 0 cc rk ra rb C' cn' cc') 48)).drew)) := Lib.hid ⟨HBA.out.os, HBA.out.tape, HBA.out.output, HBA.out.size, HBA.out.block⟩
        obtain ⟨sx, hsx⟩ : ∃ sx, showE (rlAt rs i).ex = sx := ⟨_, rfl⟩
        rw [hsx] at hsl HLT HSH
        generalize (rlAt rs i).name = nr at *
        obtain ⟨x0, x1, x2, x3, x4, x5, -⟩ := six_of hgn
        have p1 : ¬ 9223372036854775807 < t2.length + 9 := by omega
        have p2 : ¬ 9223372036854775807 < t2.length + 9 + nr.length := by omega
        have p3 : ¬ 9223372036854775807 < t2.length + 9 + nr.length + 2 := by omega
        have p4 : ¬ 9223372036854775807 < t2.length + 9 + nr.length + 2 + sx.length := by omega
        have p5 : ¬ 9223372036854775807 < t2.length + 9 + nr.length + 2 + sx.length + 1 := by omega
        clear hmi hmiR hmx hst2 hle3 hA hgn hsx hre0 hrr hre hme
        go_wp2_with fail
        go_region_held3 (fun W => W.cell? ⟨wr.heap.size, 0, none⟩ = some (vs nr) ∧ W.cell? ⟨wr.heap.size, 2, none⟩ = some (.int .i64 rk) ∧ W.cell? ⟨wr.heap.size, 3, none⟩ = some (vs ra) ∧ W.cell? ⟨wr.heap.size, 4, none⟩ = some (vs rb) ∧ W.cell? ⟨wr.heap.size, 5, none⟩ = some (.slice C' cn' cc')) (go_keep)
          ((((with_reducible refine (HSH.out _ HRED.out).mono ?_); rintro e w2 ⟨rfl, hb⟩
             have HB2 := Lib.hid (below_then HBAD.out HBAD.out.size hb)
             have z0 := keepC hb x0
             have z1 := keepC hb x2
             have z2 := keepC hb x3
             have z3 := keepC hb x4
             have z4 := keepC hb x5
             clear hb)))
        all_goals
          go_wp2
          refine ⟨⟨i + 1, _, by omega, by go_num, rfl, Lib.hid ?_, HB2⟩, by simp [intOf]; omega⟩
          rw [HST2.out, HLT.out]
          simp [defineB]
      · have hne : (rlAt rs i).refs ≠ [] := fun e => hz (by rw [e] at hln; exact hln.symm)
        have hz' : ((cn : Int) == 0) = false := by simp; omega
        have HLT := Lib.hid (show lineT (rlAt rs i) = relationB ++ (rlAt rs i).name ++ [58, 32] ++ refsT (rlAt rs i).refs ++ [10] by
          unfold lineT
          cases hq : (rlAt rs i).refs with
          | nil => exact absurd hq hne
          | cons a l => rfl)
        have HMF := Lib.hid (fun (q : Nat) => refsT_len ((rlAt rs i).refs.take q) (by
          rw [List.all_eq_true]
          intro x hx
          exact List.all_eq_true.1 hmiR x (List.mem_of_mem_take hx)))
        have HMQ := Lib.hid (fun (q : Nat) (hq : q < cn) => refT_len (List.all_eq_true.1 hmiR (rfAt (rlAt rs i).refs q) (by
          unfold rfAt
          rw [List.getD_eq_getElem?_getD, List.getElem?_eq_getElem (by omega)]
          exact List.getElem_mem (by omega))))
        have HXL := Lib.hid hln
        generalize (rlAt rs i).name = nr at *
        generalize (rlAt rs i).refs = xs at *
        have p1 : ¬ 9223372036854775807 < t2.length + 11 := by omega
        have p2 : ¬ 9223372036854775807 < t2.length + 11 + nr.length := by omega
        have p3 : ¬ 9223372036854775807 < t2.length + 11 + nr.length + 2 := by omega
        obtain ⟨x0, x1, x2, x3, x4, x5, -⟩ := six_of hgn
        clear hmi hmiR hmx hst2 hle3 hA hgn hrr hre hne hz hln
        go_wp2_with fail
        generalize hwo : wr = wo at *
        have HWO := Lib.hid hwo
        clear hwo
        go_loopw [4, 8] (fun v4 v8 wi => ∃ q : Nat, ∃ t3 : Bs, q ≤ cn ∧ v8 = .int .i64 q ∧ v4 = vs t3 ∧ Hid (t3 = t2 ++ (relationB ++ nr ++ [58, 32] ++ refsT (xs.take q))) ∧ Hid (Below (wo.alloc (.cells (rlCells nr C cn cc rk ra rb C' cn' cc') 48)).heap.size (wo.alloc (.cells (rlCells nr C cn cc rk ra rb C' cn' cc') 48)) wi)) (fun _ v8 _ => cn - (intOf v8).toNat)
        case atStart => exact ⟨0, _, Nat.zero_le _, rfl, rfl, Lib.hid (by simp [relationB, refsT]), Lib.hid (Below.refl _ _)⟩
        case round =>
          clear x0 x1 x2 x3 x4 x5 s0 d1
          obtain ⟨q, t3, hqn, rfl, rfl, HT3, HBI⟩ := hrel
          obtain ⟨x0, x1, x2, x3, x4, x5, -⟩ := six_of ((HBI.out.block wo.heap.size (by simp)).trans HGN.out)
          have hml3 := HMF.out q
          have htl3 : t3.length ≤ 11000000000000 := by
            rw [HT3.out]
            simp only [List.length_append, relationB, List.length_cons, List.length_nil, List.length_take] at hml3 ⊢
            omega
          by_cases hq : q < cn
          · obtain ⟨ae, pe, rfl, hpe, e0, e1⟩ := ref_cells (HRR.out.below (by decide) HBI.out (fun _ _ h => h)) q hq
            obtain ⟨l1, l2, -⟩ := HMQ.out q hq
            have HSTP := Lib.hid (refs_step (xs := xs) (j := q) (by rw [HXL.out]; exact hq))
            have HRT := Lib.hid (show refT (rfAt xs q) = if (rfAt xs q).rel.isEmpty then (rfAt xs q).ty else (rfAt xs q).ty ++ [35] ++ (rfAt xs q).rel from rfl)
            generalize refT (rfAt xs q) = rt at *
            generalize (rfAt xs q).ty = q1 at *
            generalize (rfAt xs q).rel = q2 at *
            obtain ⟨em, hem⟩ : ∃ em, q2.isEmpty = em := ⟨_, rfl⟩
            rw [hem] at HRT
            have b1 : ¬ 9223372036854775807 < t3.length + q1.length := by omega
            have b2 : ¬ 9223372036854775807 < t3.length + q1.length + 1 := by omega
            have b3 : ¬ 9223372036854775807 < t3.length + q1.length + 1 + q2.length := by omega
            have b4 : ¬ 9223372036854775807 < t3.length + 3 := by omega
            have b5 : ¬ 9223372036854775807 < t3.length + 3 + q1.length := by omega
            have b6 : ¬ 9223372036854775807 < t3.length + 3 + q1.length + 1 := by omega
            have b7 : ¬ 9223372036854775807 < t3.length + 3 + q1.length + 1 + q2.length := by omega
            clear hml3
            by_cases hq0 : q = 0
            · subst hq0
              cases em
              · go_wp2
                refine ⟨⟨0 + 1, _, by omega, by go_num, rfl, Lib.hid ?_, HBI⟩, by simp [intOf]; omega⟩
                rw [HSTP.out, HRT.out, HT3.out]
                simp [refsT]
              · go_wp2
                refine ⟨⟨0 + 1, _, by omega, by go_num, rfl, Lib.hid ?_, HBI⟩, by simp [intOf]; omega⟩
                rw [HSTP.out, HRT.out, HT3.out]
                simp [refsT]
            · have hq1 : (0 : Int) < (q : Int) := by omega
              have HQ0 := Lib.hid hq0
              clear hq0
              cases em
              · go_wp2
                refine ⟨⟨q + 1, _, by omega, by go_num, rfl, Lib.hid ?_, HBI⟩, by simp [intOf]; omega⟩
                rw [HSTP.out, if_neg HQ0.out, HRT.out, HT3.out]
                simp
              · go_wp2
                refine ⟨⟨q + 1, _, by omega, by go_num, rfl, Lib.hid ?_, HBI⟩, by simp [intOf]; omega⟩
                rw [HSTP.out, if_neg HQ0.out, HRT.out, HT3.out]
                simp
          · have hqn' : q = cn := by omega
            subst hqn'
            have HB3 := Lib.hid (below_then HBA.out HBA.out.size HBI.out)
            have b1 : ¬ 9223372036854775807 < t3.length + 1 := by omega
            clear hml3
            go_wp2
            refine ⟨⟨i + 1, _, by omega, by go_num, rfl, Lib.hid ?_, HB3⟩, by simp [intOf]; omega⟩
            rw [HST2.out, HLT.out, HT3.out, ← HXL.out, List.take_length]
            simp
end Go.Proofs.YtgmlcnikphbiiaaDoor.L

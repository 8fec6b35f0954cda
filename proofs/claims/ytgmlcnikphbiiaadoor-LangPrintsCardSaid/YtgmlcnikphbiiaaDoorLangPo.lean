/-
  Print: the walk.
-/
import Derived.Test.YtgmlcnikphbiiaaDoorLangPn
namespace Go.Proofs.YtgmlcnikphbiiaaDoor.L
open Go.RowKit Go.Proofs.YtgmlcnikphbiiaaDoor.B Go.Proofs.YtgmlcnikphbiiaaDoor.S10 Go.Proofs.YtgmlcnikphbiiaaDoor.Nm
open Go.Proofs.YtgmlcnikphbiiaaDoor.C (QRow Turn wpList_append_q)
set_option linter.unusedVariables false
set_option linter.unusedSimpArgs false

theorem flat_step {α : Type} (xs : List α) (d : α) (f : α → Bs) {j : Nat} (hj : j < xs.length) : (xs.take (j + 1)).flatMap f = (xs.take j).flatMap f ++ f (xs.getD j d) := by
  rw [List.take_add_one, List.flatMap_append, List.getD_eq_getElem?_getD, List.getElem?_eq_getElem hj]
  simp
theorem flat_le {α : Type} (xs : List α) (f : α → Bs) (j : Nat) : ((xs.take j).flatMap f).length ≤ (xs.flatMap f).length := by
  have h : xs.flatMap f = (xs.take j).flatMap f ++ (xs.drop j).flatMap f := by rw [← List.flatMap_append, List.take_append_drop]
  rw [h, List.length_append]
  omega
set_option maxRecDepth 100000 in
set_option maxHeartbeats 8000000 in
theorem Print_calls (F : Nat → Prop) (ts : List Ty) (A : Option Addr) (n c : Nat) (w : World) (h : SlV w F 2 (TyR w F) ts A n) (hf : FitS ts) (hq : ∀ i j, (rlAt (tyAt ts i).rels j).refs.length ≤ 100000) (hp : (printT ts).length ≤ 10000000000000) :
    Calls Tryd.prog 14 #[.agg #[.slice A n c]] w (ShowRet w (printP ts)) := by
  have hnl := h.2.1
  have hB0 := (Below.refl w.heap.size w).alloc (Nat.le_refl _) (.cells #[.slice A n c] 25)
  have S := Lib.hid h
  have HLN := Lib.hid h.1
  have HQ := Lib.hid hq
  have HMAY := Lib.hid (May_calls F ts A n c _ (types_below h hB0) hf)
  have HB0 := Lib.hid hB0
  have g0 := heap_alloc_new w (.cells #[.slice A n c] 25)
  have HG0 := Lib.hid g0
  clear h hf hq hB0 g0
  obtain ⟨mm, hmm⟩ : ∃ mm, mayS ts = mm := ⟨_, rfl⟩
  have HPP := Lib.hid (show printP ts = if mm then printT ts else [] by unfold printP; rw [hmm])
  rw [hmm] at HMAY
  have HMM := Lib.hid hmm
  clear hmm
  cases mm
  · go_enter Tryd.func14, Tryd.ntmps14
    go_wp2_with fail
    refine HMAY.out.mono ?_
    rintro e w1 ⟨rfl, hb⟩
    have HB1 := Lib.hid (keepB HB0.out hb)
    clear hb
    go_wp2
    go_ret
    exact ⟨by rw [HPP.out]; rfl, HB1.out⟩
  have HMT := Lib.hid (fun j (hj : j < ts.length) => List.all_eq_true.1 (show ts.all mayT = true from HMM.out) (tyAt ts j) (tyAt_mem hj))
  go_enter Tryd.func14, Tryd.ntmps14
  go_wp2_with fail
  refine HMAY.out.mono ?_
  rintro e w1 ⟨rfl, hb⟩
  have hgs := (hb.block w.heap.size (by simp)).trans HG0.out
  have HG1 := Lib.hid hgs
  have hsz1 := lt_of_heap hgs
  have s0 := cells_of ((alloc_old (.cells #[.pointer none, .slice none 0 0] 74) hsz1).trans hgs) 0 (.slice A n c) rfl
  have HB1 := Lib.hid (belAlloc (keepB HB0.out hb) (.cells #[.pointer none, .slice none 0 0] 74))
  have HBL := Lib.hid (Bld.start w1)
  clear hb hgs
  go_wp2_with fail
  generalize hbb : w1.heap.size = bb at *
  have HBB := Lib.hid hbb
  clear hbb
  go_loopw [14] (fun v14 wr => ∃ j : Nat, j ≤ n ∧ v14 = .int .i64 j ∧ Hid (Below w.heap.size w wr) ∧ Hid (Bld bb ((ts.take j).flatMap tyT) wr)) (fun v14 _ => n - (intOf v14).toNat)
  case atStart => exact ⟨0, Nat.zero_le _, rfl, HB1, HBL⟩
  case round =>
    clear HB1 HBL s0
    obtain ⟨j, hjn, rfl, HB, HL⟩ := hrel
    by_cases hj : j < n
    · obtain ⟨ad, p, Bq, m, d, rfl, hp1, d0, d1, hr⟩ := type_cells S.out j hj
      have d0 := keepC HB.out d0
      have d1 := keepC HB.out d1
      have hmt := HMT.out j (by rw [HLN.out]; exact hj)
      unfold mayT at hmt
      rw [Bool.and_eq_true] at hmt
      have hnx := (nm_len hmt.1).2
      have HALL := Lib.hid (fun i (hi : i < (tyAt ts j).rels.length) => List.all_eq_true.1 hmt.2 (rlAt (tyAt ts j).rels i) (rlAt_mem hi))
      have HQ1 := Lib.hid (fun i => HQ.out j i)
      have hst : (ts.take (j + 1)).flatMap tyT = (ts.take j).flatMap tyT ++ tyT (tyAt ts j) := flat_step ts ⟨[], []⟩ tyT (by rw [HLN.out]; exact hj)
      have hle := flat_le ts tyT (j + 1)
      have HST := Lib.hid hst
      rw [hst, List.length_append] at hle
      have hty : tyT (tyAt ts j) = typeB ++ (tyAt ts j).name ++ [10] ++ (tyAt ts j).rels.flatMap lineT := rfl
      have HTY := Lib.hid hty
      rw [hty, List.length_append] at hle
      have hle2 : (printT ts).length = (ts.flatMap tyT).length := rfl
      have hml := hr.2.1
      have HR := Lib.hid hr
      have HRL := Lib.hid hr.1
      generalize (tyAt ts j).name = nx at *
      generalize (tyAt ts j).rels = rs at *
      generalize (ts.take j).flatMap tyT = l0 at *
      have HL1 := Lib.hid (HL.out.below ((Below.refl _ wr).alloc (Nat.le_refl _) (.cells #[vs nx, .slice Bq m d] 35)))
      have HW := Lib.hid (write_calls (typeB ++ nx ++ [10]) HL1.out (by omega))
      have HBW := Lib.hid (belAlloc HB.out (.cells #[vs nx, .slice Bq m d] 35))
      have hbl := HL.out.lt
      have hz1 := sz nx
      have p1 : ¬ 9223372036854775807 < 5 + nx.length := by omega
      have p2 : ¬ 9223372036854775807 < 5 + nx.length + 1 := by omega
      clear hst hty hmt hr
      go_wp2_with fail
      refine HW.out.mono ?_
      rintro e w2 ⟨rfl, hL2, hb2, ho2⟩
      have hbx := ho2 wr.heap.size _ (heap_alloc_new wr (.cells #[vs nx, .slice Bq m d] 35)) (fun e => by cases e; omega) (fun c fz h => by cases h)
      obtain ⟨e0, e1, -⟩ := two_of hbx
      have HB2 := Lib.hid (HBW.out.trans ⟨hb2.os, hb2.tape, hb2.output, hb2.size, fun k hk => hb2.block k (Nat.lt_trans hk hsz1)⟩)
      have HL2 := Lib.hid hL2
      clear hbx hL2 hb2 ho2
      go_wp2_with fail
      go_loopw [26] (fun v26 wr2 => ∃ i : Nat, i ≤ m ∧ v26 = .int .i64 i ∧ Hid (Below w.heap.size w wr2) ∧ Hid (Bld bb (l0 ++ (typeB ++ nx ++ [10]) ++ (rs.take i).flatMap lineT) wr2)) (fun v26 _ => m - (intOf v26).toNat)
      case atStart => exact ⟨0, Nat.zero_le _, rfl, HB2, by simpa using HL2⟩
      case round =>
        clear HB2 HL2 e0 e1
        obtain ⟨i, him, rfl, HBi, HLi⟩ := hrel
        by_cases hi : i < m
        · obtain ⟨ad', p', B1, m1, d1', k1, a1, b1, B2, m2, d2', rfl, hpp, f0, f1, f2, f3, f4, f5, hr1, hx1⟩ := rel_cells (rels_below HR.out HBi.out) i hi
          have hmi := HALL.out i (by rw [HRL.out]; exact hi)
          have hA := (Below.refl wr.heap.size wr).alloc (Nat.le_refl _) (.cells (rlCells (rlAt rs i).name B1 m1 d1' k1 a1 b1 B2 m2 d2') 48)
          have hm1 : m1 ≤ 100000 := by have := HQ1.out i; rw [hr1.1] at this; exact this
          have HLINE := Lib.hid (line_calls F (rlAt rs i) B1 m1 d1' k1 a1 b1 B2 m2 d2' _ hmi hm1 (hr1.below (by decide) hA (fun _ _ h => h)) (hx1.alloc _))
          have HA := Lib.hid hA
          have hst2 : (rs.take (i + 1)).flatMap lineT = (rs.take i).flatMap lineT ++ lineT (rlAt rs i) := flat_step rs ⟨[], [], leaf 0 [] []⟩ lineT (by rw [HRL.out]; exact hi)
          have hle3 := flat_le rs lineT (i + 1)
          rw [hst2, List.length_append] at hle3
          have HST2 := Lib.hid hst2
          rw [List.length_append] at hle
          generalize lineT (rlAt rs i) = li at *
          generalize (rlAt rs i).name = nr at *
          clear hA hr1 hx1 hmi hst2
          go_wp2_with fail
          refine HLINE.out.mono ?_
          rintro e w3 ⟨rfl, hb3⟩
          have HB3 := Lib.hid (keepB HA.out hb3)
          have HW3 := Lib.hid (write_calls li (HLi.out.below HB3.out) (by simp only [List.length_append] at hle hle3 ⊢; omega))
          clear hb3
          go_wp2_with fail
          refine HW3.out.mono ?_
          rintro e w4 ⟨rfl, hL4, hb4, -⟩
          have HB4 := Lib.hid ((keepB HBi.out HB3.out).trans ⟨hb4.os, hb4.tape, hb4.output, hb4.size, fun k hk => hb4.block k (Nat.lt_trans hk hsz1)⟩)
          have HL4 := Lib.hid hL4
          clear hb4 hL4
          go_wp2
          refine ⟨⟨i + 1, by omega, by go_num, HB4, Lib.hid ?_⟩, by simp [intOf]; omega⟩
          rw [HST2.out, ← List.append_assoc]
          exact HL4.out
        · have him' : i = m := by omega
          subst him'
          go_wp2
          refine ⟨⟨j + 1, by omega, by go_num, HBi, ?_⟩, by simp [intOf]; omega⟩
          have := HLi.out
          rw [← HRL.out, List.take_length] at this
          refine Lib.hid ?_
          rw [HST.out, HTY.out, ← List.append_assoc]
          exact this
    · have hjn' : j = n := by omega
      subst hjn'
      go_wp2_with fail
      refine (string_calls HL.out).mono ?_
      rintro e w2 ⟨rfl, hb⟩
      have HB2 := Lib.hid (HB.out.trans ⟨hb.os, hb.tape, hb.output, hb.size, fun k hk => hb.block k (Nat.lt_trans hk hsz1)⟩)
      go_wp2
      go_ret
      have e1 : ts.take j = ts := by rw [← HLN.out, List.take_length]
      rw [e1]
      exact ⟨by rw [HPP.out]; rfl, HB2.out⟩
end Go.Proofs.YtgmlcnikphbiiaaDoor.L

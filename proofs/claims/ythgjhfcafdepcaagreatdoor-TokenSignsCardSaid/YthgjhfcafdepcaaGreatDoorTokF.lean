/-
  Tokens: claim, the program's.
-/
import Derived.Test.YthgjhfcafdepcaaGreatDoorTokE
import Derived.Test.YthgjhfcafdepcaaGreatDoorNamesZ
namespace Go.Proofs.YthgjhfcafdepcaaGreatDoor.Tk
open Go.RowKit Go.Proofs.YthgjhfcafdepcaaGreatDoor.B Go.Proofs.YthgjhfcafdepcaaGreatDoor.S10
open Go.Proofs.YthgjhfcafdepcaaGreatDoor.M
open Go.Proofs.YthgjhfcafdepcaaGreatDoor.C (QRow Turn)
open Go.Proofs.YthgjhfcafdepcaaGreatDoor.Sh (macF macF_len RdB)
open Go.Proofs.YthgjhfcafdepcaaGreatDoor.S01 (hexF unhexF)
set_option linter.unusedVariables false
set_option linter.unusedSimpArgs false

theorem spl_len (c : UInt8) : ∀ (l p : Bs), p ∈ spl c l → p.length ≤ l.length
  | [], p, h => by simp [spl] at h; subst h; simp
  | x :: l, p, h => by
    unfold spl at h
    split at h
    · rcases List.mem_cons.1 h with rfl | h
      · simp
      · have := spl_len c l p h; simp; omega
    · cases hq : spl c l with
      | nil => exact absurd hq (spl_ne c l)
      | cons q t =>
        rw [hq] at h
        rcases List.mem_cons.1 h with rfl | h
        · have := spl_len c l q (by rw [hq]; simp); simp; omega
        · have := spl_len c l p (by rw [hq]; simp [h]); simp; omega
theorem num_rng (s : Bs) : 0 ≤ numA s ∧ numA s ≤ 999999999999999999 := by
  unfold numA Nu.parseF
  split
  · simp
  · rename_i h
    cases hd : Lib.decFrom 0 s with
    | none => simp
    | some n =>
      have := Lib.decFrom_lt18 hd (by omega)
      simp
      omega
theorem obj_len (s : Bs) : (objA s).length ≤ s.length ∧ (objB s).length ≤ s.length := by
  unfold objA objB objF
  have h := cutF_size (ba s) 58
  rw [sz] at h
  split
  · have h1 := size_L (cutF (ba s) 58).1
    have h2 := size_L (cutF (ba s) 58).2.1
    simp only [L] at h1 h2
    have e1 : (cutF (ba s) 58).1.data.toList.length ≤ s.length := by rw [h1]; exact h.1
    have e2 : (cutF (ba s) 58).2.1.data.toList.length ≤ s.length := by rw [h2]; exact h.2
    exact ⟨e1, e2⟩
  · simp
theorem part_len {c : UInt8} {s : Bs} (i : Nat) : ((spl c s).getD i []).length ≤ s.length := by
  rw [List.getD_eq_getElem?_getD]
  cases h : (spl c s)[i]? with
  | none => simp
  | some p => exact spl_len c s p (List.mem_of_getElem? h)
theorem clF_sz {c : UInt8} {s : Bs} (hs : s.length ≤ 9223372036854775807) : Szc (clF (spl c s)) := by
  have h1 := part_len (c := c) (s := s) 1
  have h2 := part_len (c := c) (s := s) 2
  have h3 := part_len (c := c) (s := s) 3
  have h4 := num_rng ((spl c s).getD 4 [])
  have h5 := obj_len ((spl c s).getD 2 [])
  exact ⟨by show ((spl c s).getD 1 []).length ≤ _; omega, by show (objA _).length ≤ _; omega, by show (objB _).length ≤ _; omega, by show ((spl c s).getD 3 []).length ≤ _; omega, by show _ ≤ numA _; omega, by show numA _ ≤ _; omega⟩
theorem below_drewN' {B : Nat} {w W : World} (h : Below B w W) : Below B w W.drew := ⟨h.os, h.tape, h.output, h.size, h.block⟩
theorem five_cells {w : World} {b : Nat} {x0 x1 x2 x3 x4 : Value} {e : TypeId} (h : w.heap[b]? = some (.cells #[x0, x1, x2, x3, x4] e (0, 0))) :
    w.cell? ⟨b, 0, none⟩ = some x0 ∧ w.cell? ⟨b, 1, none⟩ = some x1 ∧ w.cell? ⟨b, 2, none⟩ = some x2 ∧ w.cell? ⟨b, 3, none⟩ = some x3 ∧ w.cell? ⟨b, 4, none⟩ = some x4 ∧
    w.frozen? ⟨b, 0, none⟩ = false ∧ w.frozen? ⟨b, 1, none⟩ = false ∧ w.frozen? ⟨b, 2, none⟩ = false ∧ w.frozen? ⟨b, 3, none⟩ = false ∧ w.frozen? ⟨b, 4, none⟩ = false :=
  ⟨cells_of h 0 _ rfl, cells_of h 1 _ rfl, cells_of h 2 _ rfl, cells_of h 3 _ rfl, cells_of h 4 _ rfl, frz_of h 0, frz_of h 1, frz_of h 2, frz_of h 3, frz_of h 4⟩
theorem set5_keep {V : World} {g b : Nat} (hne : ¬ b = g) (x0 x1 x2 x3 x4 : Value) (o : Nat) : (((((V.setCell ⟨g, 0, none⟩ x0).setCell ⟨g, 1, none⟩ x1).setCell ⟨g, 2, none⟩ x2).setCell ⟨g, 3, none⟩ x3).setCell ⟨g, 4, none⟩ x4).cell? ⟨b, o, none⟩ = V.cell? ⟨b, o, none⟩ :=
  cell_congr ((heap_setCell_other _ _ _ _ hne).trans ((heap_setCell_other _ _ _ _ hne).trans ((heap_setCell_other _ _ _ _ hne).trans ((heap_setCell_other _ _ _ _ hne).trans (heap_setCell_other _ _ _ _ hne)))))
theorem set5 {w : World} {b : Nat} {x0 x1 x2 x3 x4 : Value} {e : TypeId} (h : w.heap[b]? = some (.cells #[x0, x1, x2, x3, x4] e (0, 0))) (y0 y1 y2 y3 y4 : Value) :
    (((((w.setCell ⟨b, 0, none⟩ y0).setCell ⟨b, 1, none⟩ y1).setCell ⟨b, 2, none⟩ y2).setCell ⟨b, 3, none⟩ y3).setCell ⟨b, 4, none⟩ y4).heap[b]? = some (.cells #[y0, y1, y2, y3, y4] e (0, 0)) :=
  heap_setCell_same _ b 4 _ _ _ (heap_setCell_same _ b 3 _ _ _ (heap_setCell_same _ b 2 _ _ _ (heap_setCell_same _ b 1 _ _ _ (heap_setCell_same w b 0 _ _ _ h))))
theorem set5_turn (w : World) (b : Nat) (y0 y1 y2 y3 y4 : Value) : Turn (fun k => k = b) w (((((w.setCell ⟨b, 0, none⟩ y0).setCell ⟨b, 1, none⟩ y1).setCell ⟨b, 2, none⟩ y2).setCell ⟨b, 3, none⟩ y3).setCell ⟨b, 4, none⟩ y4) :=
  turn_then (turn_then (turn_then (turn_then (Turn.setCell _ _ _ rfl) (Turn.setCell _ _ _ rfl)) (Turn.setCell _ _ _ rfl)) (Turn.setCell _ _ _ rfl)) (Turn.setCell _ _ _ rfl)
theorem obj_val (s : Bs) : Nm.vObj (objF (ba s)) = .tuple #[.agg #[vs (objA s), vs (objB s)], .bool (objF (ba s)).2.2] := rfl
set_option maxRecDepth 100000 in
set_option maxHeartbeats 4000000 in
theorem claim_calls (s : Bs) (hs : s.length ≤ 1000000) (w : World) (ht : Nu.Tab w) (he : Nu.Errs w) :
    Calls Tryz.prog 31 #[vs s] w fun e w' => e = .returned (.tuple #[clV (claimC s), .bool (claimB s)]) ∧ Below w.heap.size w w' := by
  have HT := Lib.hid ht
  have HE := Lib.hid he
  clear ht he
  have HSP := Lib.hid (fun W => Split_calls s 47 W (by omega))
  obtain ⟨l, hl⟩ : ∃ l, spl 47 s = l := ⟨_, rfl⟩
  rw [hl] at HSP
  by_cases h5 : l.length = 5
  · have hC : claimC s = clF l := by unfold claimC; rw [hl, if_pos h5]
    have hB : claimB s = (textF (clF l) == s) := by unfold claimB; rw [hl, if_pos h5]
    have hcz : Szc (clF l) := by rw [← hl]; exact clF_sz (by omega)
    have hpl : ∀ p ∈ l, p.length ≤ s.length := fun p hp => spl_len 47 s p (by rw [hl]; exact hp)
    match l, h5 with
    | [a, b, c, d, e], _ =>
      have HC := Lib.hid hC
      have HBL := Lib.hid hB
      have HCZ := Lib.hid hcz
      have lc := hpl c (by simp)
      have le := hpl e (by simp)
      clear hl hC hB hcz hpl
      have HOB := Lib.hid (fun W => Nm.Object_calls (ba c) W (by rw [sz]; omega))
      have HPA := Lib.hid (fun W (ht : Nu.Tab W) (he : Nu.Errs W) => Nu.Parse_out (ba e) W (by rw [sz]; omega) ht he)
      obtain ⟨w0, hw0⟩ : ∃ w0, w.alloc (.cells (clC noC) 26) = w0 := ⟨_, rfl⟩
      have hs0 : w0.heap.size = w.heap.size + 1 := by rw [← hw0]; simp
      have hr0 : w0.heap[w.heap.size]? = some (.cells (clC noC) 26 (0, 0)) := by rw [← hw0]; exact heap_alloc_new w _
      have hb0 : Below w.heap.size w w0 := by rw [← hw0]; exact (Below.refl _ w).alloc (Nat.le_refl _) _
      have HB0 := Lib.hid hb0
      have HR0 := Lib.hid hr0
      have HS0 := Lib.hid hs0
      clear hb0 hr0 hs0
      have hw0' : w.alloc (.cells #[.string { data := #[] }, .string { data := #[] }, .string { data := #[] }, .string { data := #[] }, .int .i64 0] 26) = w0 := hw0
      clear hw0
      go_enter Tryz.func31, Tryz.ntmps31
      go_wp2_with fail
      refine (HSP.out _).mono ?_
      rintro e' w1 ⟨rfl, hw1⟩
      have hl1 : w1.heap[w0.heap.size]? = some (.cells #[vs a, vs b, vs c, vs d, vs e] 9 (0, 0)) := by rw [hw1]; exact heap_alloc_new w0 _
      have hb1 : Below w0.heap.size w0 w1 := by rw [hw1]; exact (Below.refl _ w0).alloc (Nat.le_refl _) _
      have HK := Lib.hid (fun (V : World) (hb : Below w1.heap.size w1 V) => show V.cell? ⟨w0.heap.size, 1, none⟩ = some (vs b) ∧ V.cell? ⟨w0.heap.size, 2, none⟩ = some (vs c) ∧ V.cell? ⟨w0.heap.size, 3, none⟩ = some (vs d) ∧ V.cell? ⟨w0.heap.size, 4, none⟩ = some (vs e) from
        ⟨keepC hb (cell_of_row w1 _ 1 _ _ (0, 0) hl1), keepC hb (cell_of_row w1 _ 2 _ _ (0, 0) hl1), keepC hb (cell_of_row w1 _ 3 _ _ (0, 0) hl1), keepC hb (cell_of_row w1 _ 4 _ _ (0, 0) hl1)⟩)
      have HR1 := Lib.hid ((hb1.block w.heap.size (by have := HS0.out; omega)).trans HR0.out)
      have HB1 := Lib.hid (below_more HB0.out hb1)
      have hlt : w0.heap.size < w1.heap.size := by rw [hw1]; simp
      have HLT := Lib.hid hlt
      obtain ⟨y1, y2, y3, y4⟩ := HK.out w1 (Below.refl _ _)
      clear hl1 hb1 hw1 hlt
      go_wp2_with fail
      refine (HOB.out _).mono ?_
      rw [obj_val]
      rintro e' w2 ⟨rfl, hb2⟩
      obtain ⟨A, hA⟩ : ∃ A, objA c = A := ⟨_, rfl⟩
      obtain ⟨B, hB⟩ : ∃ B, objB c = B := ⟨_, rfl⟩
      obtain ⟨ob, hob⟩ : ∃ b, (objF (ba c)).2.2 = b := ⟨_, rfl⟩
      rw [hA, hB, hob]
      have HAB := Lib.hid (And.intro hA hB)
      have HB2 := Lib.hid (below_more (Below.refl _ w1) hb2)
      clear hb2 hob hA hB
      obtain ⟨w3, hw3⟩ : ∃ w3, w2.alloc (.cells #[vs A, vs B] 24) = w3 := ⟨_, rfl⟩
      have HO3 := Lib.hid (show w3.heap[w2.heap.size]? = some (.cells #[vs A, vs B] 24 (0, 0)) by rw [← hw3]; exact heap_alloc_new w2 _)
      have HB3 := Lib.hid (show Below w1.heap.size w1 w3 by rw [← hw3]; exact HB2.out.alloc HB2.out.size _)
      have HL3 := Lib.hid (show w2.heap.size < w3.heap.size by rw [← hw3]; simp)
      obtain ⟨z1, z2, z3, z4⟩ := HK.out w3 HB3.out
      clear y1 y2 y3 y4
      go_wp2_with fail
      refine (HPA.out _ (Nu.Tab.below HT.out (below_more HB1.out HB3.out)) (Nu.Errs.below HE.out (below_more HB1.out HB3.out))).mono ?_
      rintro e' w4 ⟨rfl, hb4⟩
      have hov : Nu.outF (Nu.parseF e) = .tuple #[.int .i64 (numA e), .bool (Nu.parseF e).isSome] := rfl
      rw [hov]
      obtain ⟨N, hN⟩ : ∃ N, numA e = N := ⟨_, rfl⟩
      obtain ⟨pb, hpb⟩ : ∃ b, (Nu.parseF e).isSome = b := ⟨_, rfl⟩
      rw [hN, hpb]
      have HNN := Lib.hid hN
      have HB4 := Lib.hid (below_more HB3.out hb4)
      have ho4 := (hb4.block _ HL3.out).trans HO3.out
      have o0 := cell_of_row w4 w2.heap.size 0 _ _ (0, 0) ho4
      have o1 := cell_of_row w4 w2.heap.size 1 _ _ (0, 0) ho4
      obtain ⟨x1, x2, x3, x4⟩ := HK.out w4 HB4.out
      have HR4 := Lib.hid ((HB4.out.block w.heap.size (by have := HS0.out; have := HLT.out; omega)).trans HR1.out)
      clear hb4 hN hpb hov z1 z2 z3 z4 ho4
      have x1a := fun o => cellAlloc x1 o
      have x3a := fun o => cellAlloc x3 o
      have o0a := fun o => cellAlloc o0 o
      have o1a := fun o => cellAlloc o1 o
      go_upto_region 6 with fail
      go_cut [9] (fun s9 wx => s9 = .pointer (some ⟨w4.heap.size, 0, none⟩) ∧ Hid (wx.heap[w4.heap.size]? = some (.cells #[vs b, vs A, vs B, vs d, .int .i64 N] 26 (0, 0))) ∧ Hid (Below w4.heap.size w4 wx))
      case first =>
        go_wp2_with fail
        go_region_held3 (fun V => V.cell? ⟨w0.heap.size, 1, none⟩ = some (vs b) ∧ V.cell? ⟨w0.heap.size, 3, none⟩ = some (vs d) ∧ V.cell? ⟨w2.heap.size, 0, none⟩ = some (vs A) ∧ V.cell? ⟨w2.heap.size, 1, none⟩ = some (vs B)) (go_keep) (fail)
        all_goals
          go_wp2_with fail
          go_meet
          have hx := heap_alloc_new w4 (.cells #[vs b, vs A, vs B, vs d, .int .i64 N] 26)
          exact ⟨rfl, Lib.hid hx, Lib.hid (below_drewN' ((Below.refl _ w4).alloc (Nat.le_refl _) _))⟩
      case rest =>
        obtain ⟨rfl, HG, HBX⟩ := hcut
        have hlt4 : w4.heap.size < wc.heap.size := lt_of_heap HG.out
        have HRC := Lib.hid ((HBX.out.block w.heap.size (by have := lt_of_heap HR4.out; omega)).trans HR4.out)
        have HBW := Lib.hid (show Below w.heap.size w wc from Sh.keepB' (below_more HB1.out HB4.out) HBX.out (below_more HB1.out HB4.out).size)
        have HCL := Lib.hid (show clF [a, b, c, d, e] = ⟨b, A, B, d, N⟩ by
          show (⟨b, objA c, objB c, d, numA e⟩ : Cl) = _
          rw [HAB.out.1, HAB.out.2, HNN.out])
        have HZ := Lib.hid (show Szc ⟨b, A, B, d, N⟩ from HCL.out ▸ HCZ.out)
        have HTX := Lib.hid (fun (V : World) (hb : Below wc.heap.size wc V) => Text_calls ⟨b, A, B, d, N⟩ HZ.out V (Nu.Tab.below HT.out (below_more HBW.out hb)))
        obtain ⟨t, htt⟩ : ∃ t, textF ⟨b, A, B, d, N⟩ = t := ⟨_, rfl⟩
        rw [htt] at HTX
        have HFB := Lib.hid (show claimB s = (t == s) by rw [HBL.out, HCL.out, htt])
        have HFC := Lib.hid (show claimC s = ⟨b, A, B, d, N⟩ by rw [HC.out, HCL.out])
        have HKK := Lib.hid (fun (V : World) (hb : Below wc.heap.size wc V) => five_cells ((hb.block _ hlt4).trans HG.out))
        have HRR := Lib.hid (fun (V : World) (hb : Below wc.heap.size wc V) => (hb.block w.heap.size (lt_of_heap HRC.out)).trans HRC.out)
        have HBd := Lib.hid (show Below wc.heap.size wc wc.drew from ⟨rfl, rfl, rfl, Nat.le_refl _, fun _ _ => rfl⟩)
        have hne : ¬ w4.heap.size = w.heap.size := by have := lt_of_heap HR4.out; omega
        obtain ⟨k0, k1, k2, k3, k4, -⟩ := HKK.out _ (Below.refl _ _)
        obtain ⟨r0, r1, r2, r3, r4, f0, f1, f2, f3, f4⟩ := five_cells (HRR.out _ (Below.refl _ _))
        clear htt x1 x2 x3 x4 o0 o1 x1a x3a o0a o1a hlt4
        clear HSP HC HBL HCZ HOB HPA HB0 HR0 HS0 HK HR1 HB1 HLT HAB HB2 HO3 HB3 HL3 HNN HB4 HR4
        go_wp2_with fail
        go_region_held3 (fun V => V.cell? ⟨w4.heap.size, 0, none⟩ = some (vs b) ∧ V.cell? ⟨w4.heap.size, 1, none⟩ = some (vs A) ∧ V.cell? ⟨w4.heap.size, 2, none⟩ = some (vs B) ∧ V.cell? ⟨w4.heap.size, 3, none⟩ = some (vs d) ∧ V.cell? ⟨w4.heap.size, 4, none⟩ = some (.int .i64 N)) (first | go_keep | (refine ⟨(set5_keep hne _ _ _ _ _ _).trans ?_, (set5_keep hne _ _ _ _ _ _).trans ?_, (set5_keep hne _ _ _ _ _ _).trans ?_, (set5_keep hne _ _ _ _ _ _).trans ?_, (set5_keep hne _ _ _ _ _ _).trans ?_⟩ <;> assumption))
          (first
          | ((with_reducible refine (HTX.out _ HBd.out).mono ?_); rintro e' V ⟨rfl, hb⟩
             have HBV := Lib.hid (below_more HBd.out hb)
             obtain ⟨k0, k1, k2, k3, k4, -⟩ := HKK.out V HBV.out
             obtain ⟨r0, r1, r2, r3, r4, f0, f1, f2, f3, f4⟩ := five_cells (HRR.out V HBV.out)
             clear hb))
        all_goals
          have hbv := below_more HBW.out HBV.out
          have hh5 := set5 (HRR.out V HBV.out) (vs b) (vs A) (vs B) (vs d) (.int .i64 N)
          have hb5 := Sh.below_turn hbv (set5_turn V w.heap.size (vs b) (vs A) (vs B) (vs d) (.int .i64 N)) (Nat.le_refl _)
          generalize hW5 : ((((V.setCell ⟨w.heap.size, 0, none⟩ (vs b)).setCell ⟨w.heap.size, 1, none⟩ (vs A)).setCell ⟨w.heap.size, 2, none⟩ (vs B)).setCell ⟨w.heap.size, 3, none⟩ (vs d)).setCell ⟨w.heap.size, 4, none⟩ (.int .i64 N) = W5 at hh5 hb5 ⊢
          obtain ⟨m0, m1, m2, m3, m4, -⟩ := five_cells hh5
          clear hbv hh5 hW5
          have HB5 := Lib.hid hb5
          clear hb5
          go_wp2
          exact bodyPost_ret (v := .tuple #[clV ⟨b, A, B, d, N⟩, .bool (t == s)]) (by simp [results, Tryz.results31, go_sem, m0, m1, m2, m3, m4]) rfl ⟨by rw [HFC.out, HFB.out], HB5.out⟩
  · have HC := Lib.hid (show claimC s = noC by unfold claimC; rw [hl, if_neg h5])
    have HBL := Lib.hid (show claimB s = false by unfold claimB; rw [hl, if_neg h5])
    have h5' : ((l.length : Int) != 5) = true := by rw [bne_iff_ne]; omega
    obtain ⟨w0, hw0⟩ : ∃ w0, w.alloc (.cells (clC noC) 26) = w0 := ⟨_, rfl⟩
    have hs0 : w0.heap.size = w.heap.size + 1 := by rw [← hw0]; simp
    have HR0 := Lib.hid (show w0.heap[w.heap.size]? = some (.cells (clC noC) 26 (0, 0)) by rw [← hw0]; exact heap_alloc_new w _)
    have HB0 := Lib.hid (show Below w.heap.size w w0 by rw [← hw0]; exact (Below.refl _ w).alloc (Nat.le_refl _) _)
    have hw0' : w.alloc (.cells #[.string { data := #[] }, .string { data := #[] }, .string { data := #[] }, .string { data := #[] }, .int .i64 0] 26) = w0 := hw0
    clear hw0
    obtain ⟨n, hn⟩ : ∃ n, l.length = n := ⟨_, rfl⟩
    rw [hn] at HSP h5'
    clear hn
    go_enter Tryz.func31, Tryz.ntmps31
    go_wp2_with fail
    refine (HSP.out _).mono ?_
    rintro e' w1 ⟨rfl, hw1⟩
    have hb1 : Below w0.heap.size w0 w1 := by rw [hw1]; exact (Below.refl _ w0).alloc (Nat.le_refl _) _
    have hr1 := (hb1.block w.heap.size (by omega)).trans HR0.out
    obtain ⟨r0, r1, r2, r3, r4, f0, f1, f2, f3, f4⟩ := five_cells hr1
    have HB1 := Lib.hid (below_more HB0.out hb1)
    have HR1 := Lib.hid hr1
    clear hw1 hb1 hr1
    go_wp2_with fail
    have hh5 := set5 HR1.out (.string ⟨#[]⟩) (.string ⟨#[]⟩) (.string ⟨#[]⟩) (.string ⟨#[]⟩) (.int .i64 0)
    have hb5 := Sh.below_turn HB1.out (set5_turn w1 w.heap.size (.string ⟨#[]⟩) (.string ⟨#[]⟩) (.string ⟨#[]⟩) (.string ⟨#[]⟩) (.int .i64 0)) (Nat.le_refl _)
    generalize hW5 : ((((w1.setCell ⟨w.heap.size, 0, none⟩ (.string ⟨#[]⟩)).setCell ⟨w.heap.size, 1, none⟩ (.string ⟨#[]⟩)).setCell ⟨w.heap.size, 2, none⟩ (.string ⟨#[]⟩)).setCell ⟨w.heap.size, 3, none⟩ (.string ⟨#[]⟩)).setCell ⟨w.heap.size, 4, none⟩ (.int .i64 0) = W5 at hh5 hb5 ⊢
    obtain ⟨m0, m1, m2, m3, m4, -⟩ := five_cells hh5
    exact bodyPost_ret (v := .tuple #[clV noC, .bool false]) (by simp [results, Tryz.results31, go_sem, m0, m1, m2, m3, m4, noC]) rfl ⟨by rw [HC.out, HBL.out], hb5⟩
end Go.Proofs.YthgjhfcafdepcaaGreatDoor.Tk

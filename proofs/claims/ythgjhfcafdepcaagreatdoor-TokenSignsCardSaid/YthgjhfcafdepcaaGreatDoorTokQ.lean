/-
  Tokens: the document's Read; TokenReads.
-/
import Derived.Test.YthgjhfcafdepcaaGreatDoorTokN
namespace Go.Proofs.YthgjhfcafdepcaaGreatDoor.Tk
open Go.RowKit Go.Proofs.YthgjhfcafdepcaaGreatDoor.B Go.Proofs.YthgjhfcafdepcaaGreatDoor.S10
open Go.Proofs.YthgjhfcafdepcaaGreatDoor.M
open Go.Proofs.YthgjhfcafdepcaaGreatDoor.C (QRow Turn)
open Go.Proofs.YthgjhfcafdepcaaGreatDoor.Sh (macF macF_len RdB)
open Go.Proofs.YthgjhfcafdepcaaGreatDoor.S01 (hexF unhexF)
set_option linter.unusedVariables false
set_option linter.unusedSimpArgs false

theorem SOwn.cells {w : World} {base : Nat} {v : Value} {l : List Bs} {n : Nat} (h : SOwn w base v l) (hn : l.length = n) (h0 : 0 < n) : ∃ g cap, v = .slice (some ⟨g, 0, none⟩) n cap ∧ base ≤ g ∧ g < w.heap.size ∧ n ≤ cap ∧ ∀ j x, l[j]? = some x → w.cell? ⟨g, j, none⟩ = some (vs x) := by
  obtain ⟨h1, h2⟩ := h
  rcases h2 with ⟨rfl, h0'⟩ | ⟨g, cap, cur, rfl, hb, hg, hnc, hcm, hcs, htake⟩
  · omega
  · subst hn
    refine ⟨g, cap, rfl, hb, lt_of_heap hg, hnc, fun j x hj => ?_⟩
    rw [cell_of_row w g j cur _ (0, 0) hg]
    have hlt : j < l.length := (List.getElem?_eq_some_iff.1 hj).1
    have e := congrArg (fun l : List Value => l[j]?) htake
    simp only [List.getElem?_take, List.getElem?_map] at e
    rw [if_pos (by omega)] at e
    rw [← Array.getElem?_toList, e, hj]
    rfl
/-- what six parts say. -/
theorem readD_some {s : Bs} {a b c d e f g : Bs} (hs : ¬ 512 < s.length) (hl : spl 47 s = [a, b, c, d, e, f]) (hu : unhexF f = some g) :
    readD s = if (objF (ba c)).2.2 = true ∧ (Nu.parseF e).isSome = true ∧ g.length = 32 ∧ textF (clF [a, b, c, d, e, f]) ≠ [] ∧ textF (clF [a, b, c, d, e, f]) ++ 47 :: f = s then some (clF [a, b, c, d, e, f], textF (clF [a, b, c, d, e, f]), g) else none := by
  unfold readD
  rw [hl, if_neg (by simp; omega), show ([a, b, c, d, e, f] : List Bs).getD 5 [] = f from rfl, hu]
  rfl
theorem readD_none {s : Bs} {a b c d e f : Bs} (hs : ¬ 512 < s.length) (hl : spl 47 s = [a, b, c, d, e, f]) (hu : unhexF f = none) : readD s = none := by
  unfold readD
  rw [hl, if_neg (by simp; omega), show ([a, b, c, d, e, f] : List Bs).getD 5 [] = f from rfl, hu]
set_option maxRecDepth 100000 in
set_option maxHeartbeats 8000000 in
theorem refRead_calls (s : Bs) (hs : s.length ≤ 1000000) (w : World) : Calls Tryz.prog 15 #[vs s] w (RdRet w (readD s)) := by
  have hsz := sz s
  obtain ⟨w0, hw0⟩ : ∃ w0, (w.alloc (.cells (clC noC) 26)).alloc (.cells (clC noC) 26) = w0 := ⟨_, rfl⟩
  have hs1 : (w.alloc (.cells (clC noC) 26)).heap.size = w.heap.size + 1 := by simp
  have hs0 : w0.heap.size = w.heap.size + 1 + 1 := by rw [← hw0]; simp
  have HR0 := Lib.hid (show w0.heap[w.heap.size]? = some (.cells (clC noC) 26 (0, 0)) by rw [← hw0]; exact (alloc_old _ (by omega)).trans (heap_alloc_new w _))
  have HZ0 := Lib.hid (show w0.heap[w.heap.size + 1]? = some (.cells (clC noC) 26 (0, 0)) by rw [← hw0, ← hs1]; exact heap_alloc_new _ _)
  have HB0 := Lib.hid (show Below w.heap.size w w0 by rw [← hw0]; exact ((Below.refl _ w).alloc (Nat.le_refl _) _).alloc (by omega) _)
  have hw0' : (w.alloc (.cells #[.string { data := #[] }, .string { data := #[] }, .string { data := #[] }, .string { data := #[] }, .int .i64 0] 26)).alloc (.cells #[.string { data := #[] }, .string { data := #[] }, .string { data := #[] }, .string { data := #[] }, .int .i64 0] 26) = w0 := hw0
  clear hw0
  have HNR := Lib.hid (fun (V : World) (hb : Below w0.heap.size w0 V) => (hb.block w.heap.size (by omega)).trans HR0.out)
  have HNZ := Lib.hid (fun (V : World) (hb : Below w0.heap.size w0 V) => (hb.block (w.heap.size + 1) (by omega)).trans HZ0.out)
  have HNO := Lib.hid (fun (V : World) (hb : Below w0.heap.size w0 V) => five_cells (HNR.out V hb))
  have HNC := Lib.hid (fun (V : World) (hb : Below w0.heap.size w0 V) => five_cells (HNZ.out V hb))
  have HBR := Lib.hid (Below.refl w0.heap.size w0)
  have HS1 := Lib.hid hs0
  clear hs1
  have HW0 := Lib.hid hw0'
  clear hw0'
  go_enter Tryz.func15, Tryz.ntmps15
  go_upto_region 2 with fail
  rw [HW0.out]
  by_cases hlong : 512 < s.length
  · have HP := Lib.hid (show readD s = none by unfold readD; rw [if_pos (Or.inl hlong)])
    have hlong' : (512 : Int) < (s.length : Int) := by omega
    obtain ⟨r0, r1, r2, r3, r4, f0, f1, f2, f3, f4⟩ := HNO.out w0 HBR.out
    obtain ⟨z0, z1, z2, z3, z4, -⟩ := HNC.out w0 HBR.out
    go_wp2_with fail
    have hh5 := set5 (HNR.out w0 HBR.out) (vs noC.tn) (vs noC.k) (vs noC.i) (vs noC.key) (.int .i64 noC.ex)
    have hb5 := Sh.below_turn (below_more HB0.out HBR.out) (set5_turn w0 w.heap.size (vs noC.tn) (vs noC.k) (vs noC.i) (vs noC.key) (.int .i64 noC.ex)) (Nat.le_refl _)
    generalize hW5 : ((((w0.setCell ⟨w.heap.size, 0, none⟩ (vs noC.tn)).setCell ⟨w.heap.size, 1, none⟩ (vs noC.k)).setCell ⟨w.heap.size, 2, none⟩ (vs noC.i)).setCell ⟨w.heap.size, 3, none⟩ (vs noC.key)).setCell ⟨w.heap.size, 4, none⟩ (.int .i64 noC.ex) = W5 at hh5 hb5 ⊢
    obtain ⟨m0, m1, m2, m3, m4, -⟩ := five_cells hh5
    exact bodyPost_ret (v := .tuple #[clV noC, vs [], .slice none 0 0, .bool false]) (by simp [results, Tryz.results15, go_sem, m0, m1, m2, m3, m4]) rfl (by rw [HP.out]; exact ⟨hb5, rfl⟩)
  · have hlong' : ¬ (512 : Int) < (s.length : Int) := by omega
    go_wp2_with fail
    refine (parts_calls s hs w0).mono ?_
    rintro e' w1 ⟨v, rfl, hown, hb1⟩
    have HB1 := Lib.hid hb1
    obtain ⟨l, hl⟩ : ∃ l, spl 47 s = l := ⟨_, rfl⟩
    rw [hl] at hown
    by_cases h6 : l.length = 6
    · have hpl : ∀ p ∈ l, p.length ≤ s.length := fun p hp => spl_len 47 s p (by rw [hl]; exact hp)
      match l, h6 with
      | [a, b, c, d, e, f], _ =>
        have HL := Lib.hid hl
        have lc := hpl c (by simp)
        have le := hpl e (by simp)
        have lf := hpl f (by simp)
        have hcz : Szc (clF [a, b, c, d, e, f]) := by rw [← hl]; exact clF_sz (by omega)
        obtain ⟨gb, cap, rfl, hbg, hgl, hcap, hcl⟩ := SOwn.cells hown rfl (by simp)
        have HK := Lib.hid (fun (V : World) (hb : Below w1.heap.size w1 V) => show V.cell? ⟨gb, 1, none⟩ = some (vs b) ∧ V.cell? ⟨gb, 2, none⟩ = some (vs c) ∧ V.cell? ⟨gb, 3, none⟩ = some (vs d) ∧ V.cell? ⟨gb, 4, none⟩ = some (vs e) ∧ V.cell? ⟨gb, 5, none⟩ = some (vs f) from
          ⟨keepC hb (hcl 1 _ rfl), keepC hb (hcl 2 _ rfl), keepC hb (hcl 3 _ rfl), keepC hb (hcl 4 _ rfl), keepC hb (hcl 5 _ rfl)⟩)
        have hcap : 6 ≤ cap := hcap
        have HOB := Lib.hid (fun W => Nm.refObject_calls (ba c) W (by rw [sz]; omega))
        have HPA := Lib.hid (fun W => Nu.refParse_calls (ba e) W)
        have HUN := Lib.hid (fun W => Nu.refUnhex_calls (ba f) W (by rw [sz]; omega))
        obtain ⟨y1, y2, y3, y4, y5⟩ := HK.out w1 (Below.refl _ _)
        rw [show ([a, b, c, d, e, f] : List Bs).length = 6 from rfl]
        have HCZ := Lib.hid hcz
        clear hl hpl hown hb1 hcl hcz
        go_wp2_with fail
        refine (HOB.out _).mono ?_
        rw [obj_val]
        rintro e' w2 ⟨rfl, hb2⟩
        obtain ⟨A, hA⟩ : ∃ A, objA c = A := ⟨_, rfl⟩
        obtain ⟨B, hB⟩ : ∃ B, objB c = B := ⟨_, rfl⟩
        obtain ⟨ob, hob⟩ : ∃ b, (objF (ba c)).2.2 = b := ⟨_, rfl⟩
        rw [hA, hB, hob]
        have HAB := Lib.hid (And.intro hA (And.intro hB hob))
        have HB2 := Lib.hid hb2
        clear hb2 hob hA hB
        obtain ⟨w3, hw3⟩ : ∃ w3, w2.alloc (.cells #[vs A, vs B] 24) = w3 := ⟨_, rfl⟩
        have HO3 := Lib.hid (show w3.heap[w2.heap.size]? = some (.cells #[vs A, vs B] 24 (0, 0)) by rw [← hw3]; exact heap_alloc_new w2 _)
        have HB3 := Lib.hid (show Below w1.heap.size w1 w3 by rw [← hw3]; exact HB2.out.alloc HB2.out.size _)
        have hl3 : w2.heap.size < w3.heap.size := by rw [← hw3]; simp
        have hz2 := HB2.out.size
        obtain ⟨x1, x2, x3, x4, x5⟩ := HK.out w3 HB3.out
        clear y1 y2 y3 y4 y5
        go_wp2_with fail
        refine (HPA.out _).mono ?_
        rintro e' w4 ⟨rfl, hw4⟩
        rw [hw4]
        clear hw4
        have hov : Nu.outF (Nu.parseF e) = .tuple #[.int .i64 (numA e), .bool (Nu.parseF e).isSome] := rfl
        rw [show Nu.outF (Nu.parseF (ba e).data.toList) = .tuple #[.int .i64 (numA e), .bool (Nu.parseF e).isSome] from hov]
        obtain ⟨N, hN⟩ : ∃ N, numA e = N := ⟨_, rfl⟩
        obtain ⟨pb, hpb⟩ : ∃ b, (Nu.parseF e).isSome = b := ⟨_, rfl⟩
        rw [hN, hpb]
        have HNN := Lib.hid (And.intro hN hpb)
        clear hN hpb hov
        go_wp2_with fail
        refine (HUN.out _).mono ?_
        rintro e' w5 ⟨hb5, hun⟩
        have HB5 := Lib.hid (below_more HB3.out hb5)
        have ho5 := (hb5.block _ hl3).trans HO3.out
        have o0 := cell_of_row w5 w2.heap.size 0 _ _ (0, 0) ho5
        have o1 := cell_of_row w5 w2.heap.size 1 _ _ (0, 0) ho5
        clear hb5 x1 x2 x3 x4 x5 ho5
        obtain ⟨x1, x2, x3, x4, x5⟩ := HK.out w5 HB5.out
        obtain ⟨V6, ub, hev, hu6⟩ : ∃ V6 ub, e' = .returned (.tuple #[V6, .bool ub]) ∧ ((ub = false ∧ readD s = none ∧ V6 = .slice none 0 0) ∨ (ub = true ∧ ∃ A8 m c8 g, V6 = .slice A8 m c8 ∧ unhexF f = some g ∧ g.length = m ∧ m ≤ c8 ∧ RdB w5 (fun bb => w3.heap.size ≤ bb) A8 g)) := by
          rcases hun with ⟨v, g, hug, rfl, hown⟩ | ⟨hug, rfl⟩
          · obtain ⟨A8, c8, rfl, hc8, hr8⟩ := Sh.BOwn.rd (F := fun bb => w3.heap.size ≤ bb) hown (fun b hb => hb)
            exact ⟨_, true, rfl, .inr ⟨rfl, A8, _, c8, g, rfl, hug, rfl, hc8, hr8⟩⟩
          · exact ⟨_, false, rfl, .inl ⟨rfl, readD_none hlong HL.out hug, rfl⟩⟩
        subst hev
        have HU6 := Lib.hid hu6
        clear hun hu6
        have HCL := Lib.hid (show clF [a, b, c, d, e, f] = ⟨b, A, B, d, N⟩ by
          show (⟨b, objA c, objB c, d, numA e⟩ : Cl) = _
          rw [HAB.out.1, HAB.out.2.1, HNN.out.1])
        have HSZ := Lib.hid (show Szc ⟨b, A, B, d, N⟩ from HCL.out ▸ HCZ.out)
        go_wp2_with fail
        go_cut [14] (fun s9 wx => s9 = .pointer (some ⟨w5.heap.size, 0, none⟩) ∧ Hid (wx.heap[w5.heap.size]? = some (.cells #[vs b, vs A, vs B, vs d, .int .i64 N] 26 (0, 0))) ∧ Hid (Below w5.heap.size w5 wx))
        case first =>
          go_wp2_with fail
          go_region_held3 (fun V => V.cell? ⟨gb, 1, none⟩ = some (vs b) ∧ V.cell? ⟨gb, 3, none⟩ = some (vs d) ∧ V.cell? ⟨w2.heap.size, 0, none⟩ = some (vs A) ∧ V.cell? ⟨w2.heap.size, 1, none⟩ = some (vs B)) (go_keep) (fail)
          all_goals
            go_wp2_with fail
            go_meet
            have hx := heap_alloc_new w5 (.cells #[vs b, vs A, vs B, vs d, .int .i64 N] 26)
            exact ⟨rfl, Lib.hid hx, Lib.hid (below_drewN' ((Below.refl _ w5).alloc (Nat.le_refl _) _))⟩
        case rest =>
          obtain ⟨rfl, HG, HBX⟩ := hcut
          have HBC := Lib.hid (below_more HB5.out HBX.out)
          have hltg := lt_of_heap HG.out
          obtain ⟨k0, k1, k2, k3, k4, -⟩ := five_cells HG.out
          have HTX := Lib.hid (refText_calls ⟨b, A, B, d, N⟩ HSZ.out wc)
          obtain ⟨T, hT⟩ : ∃ T, textF ⟨b, A, B, d, N⟩ = T := ⟨_, rfl⟩
          rw [hT] at HTX
          have HTT := Lib.hid hT
          have htl : T.length ≤ 100 := by rw [← hT]; exact textF_len _ HSZ.out.e0 HSZ.out.e1
          clear hT o0 o1 x1 x2 x3 x4 x5
          go_wp2_with fail
          refine HTX.out.mono ?_
          rintro e' w6 ⟨rfl, hb6⟩
          have HB6 := Lib.hid (below_more HBC.out hb6)
          have HBZ := Lib.hid (below_more HB1.out HB6.out)
          obtain ⟨x1, x2, x3, x4, x5⟩ := HK.out w6 HB6.out
          have HG6 := Lib.hid ((hb6.block _ hltg).trans HG.out)
          have HB56 := Lib.hid (below_more HBX.out hb6)
          clear hb6 k0 k1 k2 k3 k4
          obtain ⟨k0, k1, k2, k3, k4, -⟩ := five_cells HG6.out
          cases ob with
          | false =>
            have HP := Lib.hid (show readD s = none by
              rcases HU6.out with ⟨_, h, _⟩ | ⟨_, A8, m, c8, g, _, hug, _⟩
              · exact h
              · rw [readD_some hlong HL.out hug, if_neg (fun h => by rw [HAB.out.2.2] at h; exact absurd h.1 (by simp))])
            obtain ⟨r0, r1, r2, r3, r4, f0, f1, f2, f3, f4⟩ := HNO.out w6 HBZ.out
            obtain ⟨z0, z1, z2, z3, z4, -⟩ := HNC.out w6 HBZ.out
            go_wp2_with fail
            have hh5 := set5 (HNR.out w6 HBZ.out) (vs noC.tn) (vs noC.k) (vs noC.i) (vs noC.key) (.int .i64 noC.ex)
            have hb5 := Sh.below_turn (below_more HB0.out HBZ.out) (set5_turn w6 w.heap.size (vs noC.tn) (vs noC.k) (vs noC.i) (vs noC.key) (.int .i64 noC.ex)) (Nat.le_refl _)
            generalize hW5 : ((((w6.setCell ⟨w.heap.size, 0, none⟩ (vs noC.tn)).setCell ⟨w.heap.size, 1, none⟩ (vs noC.k)).setCell ⟨w.heap.size, 2, none⟩ (vs noC.i)).setCell ⟨w.heap.size, 3, none⟩ (vs noC.key)).setCell ⟨w.heap.size, 4, none⟩ (.int .i64 noC.ex) = W5 at hh5 hb5 ⊢
            obtain ⟨m0, m1, m2, m3, m4, -⟩ := five_cells hh5
            exact bodyPost_ret (v := .tuple #[clV noC, vs [], .slice none 0 0, .bool false]) (by simp [results, Tryz.results15, go_sem, m0, m1, m2, m3, m4]) rfl (by rw [HP.out]; exact ⟨hb5, rfl⟩)
          | true =>
            cases pb with
            | false =>
              have HP := Lib.hid (show readD s = none by
                rcases HU6.out with ⟨_, h, _⟩ | ⟨_, A8, m, c8, g, _, hug, _⟩
                · exact h
                · rw [readD_some hlong HL.out hug, if_neg (fun h => by rw [HNN.out.2] at h; exact absurd h.2.1 (by simp))])
              obtain ⟨r0, r1, r2, r3, r4, f0, f1, f2, f3, f4⟩ := HNO.out w6 HBZ.out
              obtain ⟨z0, z1, z2, z3, z4, -⟩ := HNC.out w6 HBZ.out
              go_wp2_with fail
              have hh5 := set5 (HNR.out w6 HBZ.out) (vs noC.tn) (vs noC.k) (vs noC.i) (vs noC.key) (.int .i64 noC.ex)
              have hb5 := Sh.below_turn (below_more HB0.out HBZ.out) (set5_turn w6 w.heap.size (vs noC.tn) (vs noC.k) (vs noC.i) (vs noC.key) (.int .i64 noC.ex)) (Nat.le_refl _)
              generalize hW5 : ((((w6.setCell ⟨w.heap.size, 0, none⟩ (vs noC.tn)).setCell ⟨w.heap.size, 1, none⟩ (vs noC.k)).setCell ⟨w.heap.size, 2, none⟩ (vs noC.i)).setCell ⟨w.heap.size, 3, none⟩ (vs noC.key)).setCell ⟨w.heap.size, 4, none⟩ (.int .i64 noC.ex) = W5 at hh5 hb5 ⊢
              obtain ⟨m0, m1, m2, m3, m4, -⟩ := five_cells hh5
              exact bodyPost_ret (v := .tuple #[clV noC, vs [], .slice none 0 0, .bool false]) (by simp [results, Tryz.results15, go_sem, m0, m1, m2, m3, m4]) rfl (by rw [HP.out]; exact ⟨hb5, rfl⟩)
            | true =>
              rcases HU6.out with ⟨rfl, hno, rfl⟩ | ⟨rfl, A8, m, c8, g, rfl, hug, hgm, hmc, hr8⟩
              · have HP := Lib.hid hno
                obtain ⟨r0, r1, r2, r3, r4, f0, f1, f2, f3, f4⟩ := HNO.out w6 HBZ.out
                obtain ⟨z0, z1, z2, z3, z4, -⟩ := HNC.out w6 HBZ.out
                go_wp2_with fail
                have hh5 := set5 (HNR.out w6 HBZ.out) (vs noC.tn) (vs noC.k) (vs noC.i) (vs noC.key) (.int .i64 noC.ex)
                have hb5 := Sh.below_turn (below_more HB0.out HBZ.out) (set5_turn w6 w.heap.size (vs noC.tn) (vs noC.k) (vs noC.i) (vs noC.key) (.int .i64 noC.ex)) (Nat.le_refl _)
                generalize hW5 : ((((w6.setCell ⟨w.heap.size, 0, none⟩ (vs noC.tn)).setCell ⟨w.heap.size, 1, none⟩ (vs noC.k)).setCell ⟨w.heap.size, 2, none⟩ (vs noC.i)).setCell ⟨w.heap.size, 3, none⟩ (vs noC.key)).setCell ⟨w.heap.size, 4, none⟩ (.int .i64 noC.ex) = W5 at hh5 hb5 ⊢
                obtain ⟨m0, m1, m2, m3, m4, -⟩ := five_cells hh5
                exact bodyPost_ret (v := .tuple #[clV noC, vs [], .slice none 0 0, .bool false]) (by simp [results, Tryz.results15, go_sem, m0, m1, m2, m3, m4]) rfl (by rw [HP.out]; exact ⟨hb5, rfl⟩)
              · have HRD := Lib.hid (readD_some hlong HL.out hug)
                rw [HCL.out, HTT.out] at HRD
                have HR8 := Lib.hid (hr8.below HB56.out (F' := fun bb => w3.heap.size ≤ bb) (fun bb h _ => h))
                have HGM := Lib.hid hgm
                clear HU6 hr8 hug hgm
                by_cases h32 : m = 32
                · cases hte : T.isEmpty with
                  | true =>
                    have HP := Lib.hid (show readD s = none by rw [HRD.out, if_neg (fun h => by have h4 := h.2.2.2.1; simp at hte; exact h4 hte)])
                    subst h32
                    obtain ⟨r0, r1, r2, r3, r4, f0, f1, f2, f3, f4⟩ := HNO.out w6 HBZ.out
                    obtain ⟨z0, z1, z2, z3, z4, -⟩ := HNC.out w6 HBZ.out
                    go_wp2_with fail
                    have hh5 := set5 (HNR.out w6 HBZ.out) (vs noC.tn) (vs noC.k) (vs noC.i) (vs noC.key) (.int .i64 noC.ex)
                    have hb5 := Sh.below_turn (below_more HB0.out HBZ.out) (set5_turn w6 w.heap.size (vs noC.tn) (vs noC.k) (vs noC.i) (vs noC.key) (.int .i64 noC.ex)) (Nat.le_refl _)
                    generalize hW5 : ((((w6.setCell ⟨w.heap.size, 0, none⟩ (vs noC.tn)).setCell ⟨w.heap.size, 1, none⟩ (vs noC.k)).setCell ⟨w.heap.size, 2, none⟩ (vs noC.i)).setCell ⟨w.heap.size, 3, none⟩ (vs noC.key)).setCell ⟨w.heap.size, 4, none⟩ (.int .i64 noC.ex) = W5 at hh5 hb5 ⊢
                    obtain ⟨m0, m1, m2, m3, m4, -⟩ := five_cells hh5
                    exact bodyPost_ret (v := .tuple #[clV noC, vs [], .slice none 0 0, .bool false]) (by simp [results, Tryz.results15, go_sem, m0, m1, m2, m3, m4]) rfl (by rw [HP.out]; exact ⟨hb5, rfl⟩)
                  | false =>
                    have hne : T ≠ [] := by intro h; rw [h] at hte; cases hte
                    obtain ⟨be, hbe⟩ : ∃ b : Bool, (T ++ 47 :: f == s) = b := ⟨_, rfl⟩
                    have hbe3 : ((ba T ++ ba [47] ++ ba f).toList == s) = be := by
                      rw [ba_three, toList_L]
                      exact hbe
                    have nn1 : ¬ 9223372036854775807 < T.length + 1 := by omega
                    have nn2 : ¬ 9223372036854775807 < T.length + 1 + f.length := by omega
                    subst h32
                    cases be with
                    | false =>
                      have HP := Lib.hid (show readD s = none by rw [HRD.out, if_neg (fun h => by have h5 := h.2.2.2.2; rw [h5] at hbe; simp at hbe)])
                      clear hbe
                      obtain ⟨r0, r1, r2, r3, r4, f0, f1, f2, f3, f4⟩ := HNO.out w6 HBZ.out
                      obtain ⟨z0, z1, z2, z3, z4, -⟩ := HNC.out w6 HBZ.out
                      go_wp2_with fail
                      have hh5 := set5 (HNR.out w6 HBZ.out) (vs noC.tn) (vs noC.k) (vs noC.i) (vs noC.key) (.int .i64 noC.ex)
                      have hb5 := Sh.below_turn (below_more HB0.out HBZ.out) (set5_turn w6 w.heap.size (vs noC.tn) (vs noC.k) (vs noC.i) (vs noC.key) (.int .i64 noC.ex)) (Nat.le_refl _)
                      generalize hW5 : ((((w6.setCell ⟨w.heap.size, 0, none⟩ (vs noC.tn)).setCell ⟨w.heap.size, 1, none⟩ (vs noC.k)).setCell ⟨w.heap.size, 2, none⟩ (vs noC.i)).setCell ⟨w.heap.size, 3, none⟩ (vs noC.key)).setCell ⟨w.heap.size, 4, none⟩ (.int .i64 noC.ex) = W5 at hh5 hb5 ⊢
                      obtain ⟨m0, m1, m2, m3, m4, -⟩ := five_cells hh5
                      exact bodyPost_ret (v := .tuple #[clV noC, vs [], .slice none 0 0, .bool false]) (by simp [results, Tryz.results15, go_sem, m0, m1, m2, m3, m4]) rfl (by rw [HP.out]; exact ⟨hb5, rfl⟩)
                    | true =>
                      have hbe' : T ++ 47 :: f = s := by simpa using hbe
                      have HP := Lib.hid (show readD s = some (⟨b, A, B, d, N⟩, T, g) by rw [HRD.out, if_pos ⟨by rw [HAB.out.2.2], by rw [HNN.out.2], HGM.out, hne, hbe'⟩])
                      clear hbe hbe'
                      obtain ⟨r0, r1, r2, r3, r4, f0, f1, f2, f3, f4⟩ := HNO.out w6 HBZ.out
                      go_wp2_with fail
                      have hh5 := set5 (HNR.out w6 HBZ.out) (vs b) (vs A) (vs B) (vs d) (.int .i64 N)
                      have hb5 := Sh.below_turn (below_more HB0.out HBZ.out) (set5_turn w6 w.heap.size (vs b) (vs A) (vs B) (vs d) (.int .i64 N)) (Nat.le_refl _)
                      have hr5 := RdB.kept HR8.out (set5_turn w6 w.heap.size (vs b) (vs A) (vs B) (vs d) (.int .i64 N)) (fun bb hb => by have := HS1.out; have := HB1.out.size; omega)
                      generalize hW5 : ((((w6.setCell ⟨w.heap.size, 0, none⟩ (vs b)).setCell ⟨w.heap.size, 1, none⟩ (vs A)).setCell ⟨w.heap.size, 2, none⟩ (vs B)).setCell ⟨w.heap.size, 3, none⟩ (vs d)).setCell ⟨w.heap.size, 4, none⟩ (.int .i64 N) = W5 at hh5 hb5 hr5 ⊢
                      obtain ⟨m0, m1, m2, m3, m4, -⟩ := five_cells hh5
                      exact bodyPost_ret (v := .tuple #[clV ⟨b, A, B, d, N⟩, vs T, .slice A8 32 c8, .bool true]) (by simp [results, Tryz.results15, go_sem, m0, m1, m2, m3, m4]) rfl (by rw [HP.out]; exact ⟨hb5, A8, c8, rfl, HGM.out, hmc, hr5⟩)
                · have HP := Lib.hid (show readD s = none by rw [HRD.out, if_neg (fun h => h32 (by rw [← HGM.out]; exact h.2.2.1))])
                  have h32' : ((m : Int) != 32) = true := by rw [bne_iff_ne]; omega
                  obtain ⟨r0, r1, r2, r3, r4, f0, f1, f2, f3, f4⟩ := HNO.out w6 HBZ.out
                  obtain ⟨z0, z1, z2, z3, z4, -⟩ := HNC.out w6 HBZ.out
                  go_wp2_with fail
                  have hh5 := set5 (HNR.out w6 HBZ.out) (vs noC.tn) (vs noC.k) (vs noC.i) (vs noC.key) (.int .i64 noC.ex)
                  have hb5 := Sh.below_turn (below_more HB0.out HBZ.out) (set5_turn w6 w.heap.size (vs noC.tn) (vs noC.k) (vs noC.i) (vs noC.key) (.int .i64 noC.ex)) (Nat.le_refl _)
                  generalize hW5 : ((((w6.setCell ⟨w.heap.size, 0, none⟩ (vs noC.tn)).setCell ⟨w.heap.size, 1, none⟩ (vs noC.k)).setCell ⟨w.heap.size, 2, none⟩ (vs noC.i)).setCell ⟨w.heap.size, 3, none⟩ (vs noC.key)).setCell ⟨w.heap.size, 4, none⟩ (.int .i64 noC.ex) = W5 at hh5 hb5 ⊢
                  obtain ⟨m0, m1, m2, m3, m4, -⟩ := five_cells hh5
                  exact bodyPost_ret (v := .tuple #[clV noC, vs [], .slice none 0 0, .bool false]) (by simp [results, Tryz.results15, go_sem, m0, m1, m2, m3, m4]) rfl (by rw [HP.out]; exact ⟨hb5, rfl⟩)
    · have HP := Lib.hid (show readD s = none by unfold readD; rw [hl, if_pos (Or.inr h6)])
      have h6' : ((l.length : Int) != 6) = true := by rw [bne_iff_ne]; omega
      obtain ⟨n, hn⟩ : ∃ n, l.length = n := ⟨_, rfl⟩
      obtain ⟨A, c, rfl⟩ := SOwn.form hown hn
      rw [hn] at h6'
      clear hown hn hl h6 hb1
      obtain ⟨r0, r1, r2, r3, r4, f0, f1, f2, f3, f4⟩ := HNO.out w1 HB1.out
      obtain ⟨z0, z1, z2, z3, z4, -⟩ := HNC.out w1 HB1.out
      go_wp2_with fail
      have hh5 := set5 (HNR.out w1 HB1.out) (vs noC.tn) (vs noC.k) (vs noC.i) (vs noC.key) (.int .i64 noC.ex)
      have hb5 := Sh.below_turn (below_more HB0.out HB1.out) (set5_turn w1 w.heap.size (vs noC.tn) (vs noC.k) (vs noC.i) (vs noC.key) (.int .i64 noC.ex)) (Nat.le_refl _)
      generalize hW5 : ((((w1.setCell ⟨w.heap.size, 0, none⟩ (vs noC.tn)).setCell ⟨w.heap.size, 1, none⟩ (vs noC.k)).setCell ⟨w.heap.size, 2, none⟩ (vs noC.i)).setCell ⟨w.heap.size, 3, none⟩ (vs noC.key)).setCell ⟨w.heap.size, 4, none⟩ (.int .i64 noC.ex) = W5 at hh5 hb5 ⊢
      obtain ⟨m0, m1, m2, m3, m4, -⟩ := five_cells hh5
      exact bodyPost_ret (v := .tuple #[clV noC, vs [], .slice none 0 0, .bool false]) (by simp [results, Tryz.results15, go_sem, m0, m1, m2, m3, m4]) rfl (by rw [HP.out]; exact ⟨hb5, rfl⟩)
end Go.Proofs.YthgjhfcafdepcaaGreatDoor.Tk

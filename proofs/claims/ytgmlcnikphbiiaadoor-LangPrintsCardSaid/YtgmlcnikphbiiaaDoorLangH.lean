/-
  The parser's atoms, terms, expressions.
-/
import Derived.Test.YtgmlcnikphbiiaaDoorLangG
namespace Go.Proofs.YtgmlcnikphbiiaaDoor.L
open Go.RowKit Go.Proofs.YtgmlcnikphbiiaaDoor.B
open Go.Proofs.YtgmlcnikphbiiaaDoor.C (QRow Turn)
set_option linter.unusedVariables false
set_option linter.unusedSimpArgs false

theorem At.kept {pb : Nat} {w w' : World} (h : At pb w w') {b : Nat} {o : Obj} (hb : w.heap[b]? = some o) (hne : b ≠ pb) : w'.heap[b]? = some o := (h.keep (lt_of_heap hb) hne).trans hb
theorem open_set {w : World} {pb : Nat} {op : Int} {L : List Tk} (h : PS w pb op L) (op' : Int) : PS (w.setCell ⟨pb, 6, none⟩ (.int .i64 op')) pb op' L := by
  obtain ⟨r, line, col, t, l', h1, h2, h3⟩ := h
  exact ⟨r, line, col, t, l', h1, heap_setCell_same w pb 6 _ _ _ h2, h3⟩
abbrev Z38 : Array Value := #[.int .i64 0, .string ⟨#[]⟩, .string ⟨#[]⟩, .slice none 0 0]
theorem exit38 {w V : World} {pb : Nat} {op : Int} {L2 : List Tk} {e : Ex} {x0 x1 x2 x3 : Value} {z0 z1 z2 z3 : Value} (hpb : pb < w.heap.size) (hA : At pb w V) (hP : PS V pb op L2) (hrb : V.heap[w.heap.size]? = some (.cells #[z0, z1, z2, z3] 38 (0, 0)))
    (hV : ExV V (fun b => w.heap.size < b) e (.agg #[x0, x1, x2, x3])) :
    Ends pb op w (ExRet w) (.ok (e, L2)) (.returned (.agg #[x0, x1, x2, x3])) ((((V.setCell ⟨w.heap.size, 0, none⟩ x0).setCell ⟨w.heap.size, 1, none⟩ x1).setCell ⟨w.heap.size, 2, none⟩ x2).setCell ⟨w.heap.size, 3, none⟩ x3) ∧
    ((((V.setCell ⟨w.heap.size, 0, none⟩ x0).setCell ⟨w.heap.size, 1, none⟩ x1).setCell ⟨w.heap.size, 2, none⟩ x2).setCell ⟨w.heap.size, 3, none⟩ x3).heap[w.heap.size]? = some (.cells #[x0, x1, x2, x3] 38 (0, 0)) := by
  refine ⟨⟨(((hA.set_new (Nat.le_refl _) 0 _).set_new (Nat.le_refl _) 1 _).set_new (Nat.le_refl _) 2 _).set_new (Nat.le_refl _) 3 _, ⟨_, rfl, ?_⟩, ?_⟩, set4 hrb _ _ _ _⟩
  · have hne : ∀ b, w.heap.size < b → b ≠ w.heap.size := fun b hb => Nat.ne_of_gt hb
    exact ((((hV.set hne 0 _).set hne 1 _).set hne 2 _).set hne 3 _).mono (fun b hb _ => Nat.le_of_lt hb)
  · exact hP.kept (set4_old (Nat.ne_of_lt hpb) _ _ _ _)
theorem atomF_in {p : P Ex} {L : List Tk} (hb : (hasS [40] L).1 = true) : atomF (some p) L = inAtom p (hasS [40] L).2 := by unfold atomF; rw [if_pos hb]
theorem atomF_deep {L : List Tk} (hb : (hasS [40] L).1 = true) : atomF none L = failsL 9 L := by unfold atomF; rw [if_pos hb]
theorem atomF_name {i : Option (P Ex)} {L : List Tk} (hb : (hasS [40] L).1 = false) : atomF i L = nameAtom (hasS [40] L).2 := by unfold atomF; rw [hb]; rfl
theorem inAtom_err {p : P Ex} {L : List Tk} {d : Dg} (h : p L = .error d) : inAtom p L = .error d := by unfold inAtom; rw [h]
theorem inAtom_err2 {p : P Ex} {L l : List Tk} {e : Ex} {d : Dg} (h : p L = .ok (e, l)) (h2 : mustS [41] l = .error d) : inAtom p L = .error d := by unfold inAtom; rw [h]; dsimp only; rw [h2]
theorem inAtom_ok {p : P Ex} {L l l2 : List Tk} {e : Ex} (h : p L = .ok (e, l)) (h2 : mustS [41] l = .ok ((), l2)) : inAtom p L = .ok (e, l2) := by unfold inAtom; rw [h]; dsimp only; rw [h2]
theorem nameAtom_err {L : List Tk} {d : Dg} (h : nameS L = .error d) : nameAtom L = .error d := by unfold nameAtom; rw [h]
theorem nameAtom_rel {L l : List Tk} {s : Bs} (h : nameS L = .ok (s, l)) (h2 : (hasS [46] l).1 = false) : nameAtom L = .ok (leaf 0 s [], (hasS [46] l).2) := by
  unfold nameAtom; rw [h]; dsimp only; rw [h2]; rfl
theorem nameAtom_err2 {L l : List Tk} {s : Bs} {d : Dg} (h : nameS L = .ok (s, l)) (h2 : (hasS [46] l).1 = true) (h3 : nameS (hasS [46] l).2 = .error d) : nameAtom L = .error d := by
  unfold nameAtom; rw [h]; dsimp only; rw [h2, if_pos rfl, h3]
theorem nameAtom_arr {L l l2 : List Tk} {s o : Bs} (h : nameS L = .ok (s, l)) (h2 : (hasS [46] l).1 = true) (h3 : nameS (hasS [46] l).2 = .ok (o, l2)) : nameAtom L = .ok (leaf 1 s o, l2) := by
  unfold nameAtom; rw [h]; dsimp only; rw [h2, if_pos rfl, h3]
theorem ends_name {pb : Nat} {op : Int} {w w' : World} {r : R Bs} {e : Ending} (h : Ends pb op w (fun _ a e => e = .returned (vs a)) r e w') :
    (∃ d, r = .error d ∧ e = .panicked (dgChain d) ∧ At pb w w') ∨ (∃ a l, r = .ok (a, l) ∧ e = .returned (vs a) ∧ At pb w w' ∧ PS w' pb op l) := by
  obtain ⟨hA, hR⟩ := h
  cases r with
  | error d => exact .inl ⟨d, rfl, hR, hA⟩
  | ok p => exact .inr ⟨p.1, p.2, rfl, hR.1, hA, hR.2⟩
theorem ends_must {pb : Nat} {op : Int} {w w' : World} {r : R Unit} {e : Ending} (h : Ends pb op w (fun _ _ e => e = .returned (.tuple #[])) r e w') :
    (∃ d, r = .error d ∧ e = .panicked (dgChain d) ∧ At pb w w') ∨ (∃ l, r = .ok ((), l) ∧ e = .returned (.tuple #[]) ∧ At pb w w' ∧ PS w' pb op l) := by
  obtain ⟨hA, hR⟩ := h
  cases r with
  | error d => exact .inl ⟨d, rfl, hR, hA⟩
  | ok p => exact .inr ⟨p.2, rfl, hR.1, hA, hR.2⟩
set_option maxRecDepth 100000 in
set_option maxHeartbeats 2000000 in
theorem atom_calls {pb : Nat} {op : Int} (hop : 0 ≤ op ∧ op ≤ 12) (inner : Option (P Ex)) (hin : (inner = none → op = 12) ∧ ∀ p, inner = some p → op < 12 ∧ ∀ w L, PS w pb (op + 1) L → Calls Tryd.prog 72 #[.pointer (some ⟨pb, 0, none⟩)] w (Ends pb (op + 1) w (ExRet w) (p L)))
    {w : World} {L : List Tk} (h : PS w pb op L) : Calls Tryd.prog 94 #[.pointer (some ⟨pb, 0, none⟩)] w (Ends pb op w (ExRet w) (atomF inner L)) := by
  obtain ⟨r, line, col, t, l', hL, hB, -⟩ := h.split
  have g3 := cells_of hB 3 (vs (shown t.s)) rfl
  have g4 := cells_of hB 4 (.int .i64 t.line) rfl
  have g5 := cells_of hB 5 (.int .i64 t.col) rfl
  have hlt := hB.lt
  have HP := Lib.hid h
  have HL := Lib.hid hL
  have HIN := Lib.hid hin
  have HOP := Lib.hid hop
  clear h hL hB hin hop
  go_enter Tryd.func94, Tryd.ntmps94
  go_wp2_with fail
  refine (has_calls ((HP.out.kept (alloc_old _ hlt)).kept (alloc_old _ (by simp; omega))) _ [40] rfl (by simp) (by simp)).mono ?_
  rintro e w1 ⟨rfl, hP1, hA1⟩
  have hrb := hA1.kept (b := w.heap.size) (by rw [alloc_old _ (by simp)]; exact heap_alloc_new w (.cells Z38 38)) (Nat.ne_of_gt hlt)
  have hab := hA1.kept (b := w.heap.size + 1) (by have := heap_alloc_new (w.alloc (.cells Z38 38)) (.cells #[vs (shown t.s), .int .i64 t.line, .int .i64 t.col] 52); simpa using this) (by omega)
  have hA1' := ((At.refl pb w).alloc_new _).alloc_new _ |>.trans hA1
  have HP1 := Lib.hid hP1
  have HRB := Lib.hid hrb
  have HAB := Lib.hid hab
  have HA1 := Lib.hid hA1'
  obtain ⟨t0, t1, t2⟩ := three_of hab
  clear hP1 hrb hab hA1 hA1' g3 g4 g5
  cases hb : (hasS [40] L).1 with
  | true =>
    have HBT := Lib.hid hb
    obtain ⟨r2, line2, col2, tt, l2, hL2, hB2, -⟩ := HP1.out.split
    have g6 := cells_of hB2 6 (.int .i64 op) rfl
    have f6 := frz_of hB2 6
    clear hb hB2 hL2
    cases inner with
    | none =>
      have h12 := HIN.out.1 rfl
      subst h12
      go_wp2_with fail
      refine (fails_calls (vs (shown t.s)) ⟨t.line, t.col, 9⟩ w1 ⟨_, rfl⟩).mono ?_
      rintro e w2 ⟨rfl, hb2⟩
      refine ⟨rfl, ?_⟩
      rw [atomF_deep HBT.out, HL.out]
      exact ⟨HA1.out.below hb2, rfl⟩
    | some p =>
      obtain ⟨hlt12, hex⟩ := HIN.out.2 p rfl
      have HEX := Lib.hid hex
      have hne12 : (op == 12) = false := by simp; omega
      have hop0 := HOP.out.1
      clear hex
      go_wp2_with fail
      refine (HEX.out _ _ (open_set HP1.out (op + 1))).mono ?_
      intro e w2 h2
      have hA2 := (HA1.out.trans (at_set w1 pb 6 (.int .i64 (op + 1)))).trans h2.1
      have hrb2 := h2.1.kept (b := w.heap.size) ((heap_setCell_other _ _ _ _ (Nat.ne_of_gt hlt)).trans HRB.out) (Nat.ne_of_gt hlt)
      rcases ends_cases h2 with ⟨d, ho, rfl, -⟩ | ⟨b, l3, kb, ab, bb, Ab, nb, cb, ho, rfl, -, hP2, hV2⟩
      · refine ⟨rfl, hA2, ?_⟩
        rw [atomF_in HBT.out, inAtom_err ho]
      · have HO := Lib.hid ho
        have HA2 := Lib.hid hA2
        have HP2 := Lib.hid hP2
        have HV2 := Lib.hid hV2
        have HRB2 := Lib.hid hrb2
        have HW2 := Lib.hid (show w.heap.size + 2 ≤ w2.heap.size by have := h2.1.size; have := HA1.out.size; have := lt_of_heap HAB.out; simp at *; omega)
        clear h2 hA2 hrb2 ho hP2 hV2
        go_wp2_with fail
        refine (must_calls (HP2.out.kept (alloc_old _ HP2.out.lt)) _ [41] rfl (by simp) (by simp)).mono ?_
        intro e w3 h3
        have hA3 := (HA2.out.alloc_new _).trans h3.1
        rcases ends_must h3 with ⟨d, hm, rfl, -⟩ | ⟨l4, hm, rfl, -, hP3⟩
        · refine ⟨rfl, hA3, ?_⟩
          rw [atomF_in HBT.out, inAtom_err2 HO.out hm]
        · have hrb3 := h3.1.kept (b := w.heap.size) ((alloc_old _ (lt_of_heap HRB2.out)).trans HRB2.out) (Nat.ne_of_gt hlt)
          have heb3 := h3.1.kept (b := w2.heap.size) (heap_alloc_new w2 (.cells #[.int .i64 kb, vs ab, vs bb, .slice Ab nb cb] 38)) (by have := HW2.out; omega)
          have hV3 := (HV2.out.alloc (.cells #[.int .i64 kb, vs ab, vs bb, .slice Ab nb cb] 38)).at h3.1 (F' := fun b => w.heap.size < b) (fun c hc _ => by
            simp at hc
            have := HA1.out.size
            have := lt_of_heap HRB.out
            omega)
          obtain ⟨k0, k1, k2, k3, -, -, -, -⟩ := four_of heb3
          obtain ⟨q0, q1, q2, q3, j0, j1, j2, j3⟩ := four_of hrb3
          obtain ⟨r4, line4, col4, tt4, l5, hL4, hB4, -⟩ := hP3.split
          have m6 := cells_of hB4 6 (.int .i64 (op + 1)) rfl
          have n6 := frz_of hB4 6
          have HM := Lib.hid hm
          have HA3 := Lib.hid hA3
          have HP3 := Lib.hid hP3
          have HV3 := Lib.hid hV3
          have HRB3 := Lib.hid hrb3
          have hpb1 : pb ≠ w.heap.size := Nat.ne_of_lt hlt
          have hpb2 : pb ≠ w2.heap.size := by have := HW2.out; omega
          have heq : op + 1 - 1 = op := by omega
          clear h3 hA3 hm hP3 hV3 hrb3 heb3 hB4 hL4
          go_wp2
          obtain ⟨hE, hH⟩ := exit38 (op := op) hlt (HA3.out.trans (at_set w3 pb 6 (.int .i64 op))) (open_set HP3.out op) ((heap_setCell_other _ _ _ _ (Nat.ne_of_gt hlt)).trans HRB3.out)
            (HV3.out.set (c := pb) (fun c hc => by omega) 6 (.int .i64 op))
          refine bodyPost_ret (results_cell_row rfl _ _ w.heap.size 38 #[.int .i64 kb, vs ab, vs bb, .slice Ab nb cb] (0, 0) _ rfl hH Tryd.underlying38 rfl (by kernel_rfl)) rfl ?_
          rw [atomF_in HBT.out, inAtom_ok HO.out HM.out]
          exact hE
  | false =>
    have HBT := Lib.hid hb
    clear hb
    go_wp2_with fail
    refine (name_calls HP1.out).mono ?_
    intro e w2 h2
    have hA2 := HA1.out.trans h2.1
    have hrb2 := h2.1.kept HRB.out (Nat.ne_of_gt hlt)
    rcases ends_name h2 with ⟨d, ho, rfl, -⟩ | ⟨s, l3, ho, rfl, -, hP2⟩
    · refine ⟨rfl, hA2, ?_⟩
      rw [atomF_name HBT.out, nameAtom_err ho]
    · have HO := Lib.hid ho
      have HA2 := Lib.hid hA2
      have HP2 := Lib.hid hP2
      have HRB2 := Lib.hid hrb2
      have hsz2 : w.heap.size + 2 ≤ w2.heap.size := by have := h2.1.size; have := lt_of_heap HAB.out; omega
      clear h2 hA2 hrb2 ho hP2
      go_wp2_with fail
      refine (has_calls (HP2.out.kept (alloc_old _ HP2.out.lt)) _ [46] rfl (by simp) (by simp)).mono ?_
      rintro e w3 ⟨rfl, hP3, hA3⟩
      have hrb3 := hA3.kept (b := w.heap.size) ((alloc_old _ (lt_of_heap HRB2.out)).trans HRB2.out) (Nat.ne_of_gt hlt)
      have heb3 := hA3.kept (b := w2.heap.size) (heap_alloc_new w2 (.cells #[.int .i64 0, vs s, vs [], .slice none 0 0] 38)) (by omega)
      have hA3' := (HA2.out.alloc_new (.cells #[.int .i64 0, vs s, vs [], .slice none 0 0] 38)).trans hA3
      have HA3 := Lib.hid hA3'
      have HP3 := Lib.hid hP3
      have HRB3 := Lib.hid hrb3
      have HEB3 := Lib.hid heb3
      obtain ⟨k0, k1, k2, k3, i0, i1, i2, i3⟩ := four_of heb3
      obtain ⟨q0, q1, q2, q3, j0, j1, j2, j3⟩ := four_of hrb3
      clear hA3 hA3' hP3 hrb3 heb3
      cases hd : (hasS [46] l3).1 with
      | false =>
        have HD := Lib.hid hd
        clear hd
        go_wp2
        obtain ⟨hE, hH⟩ := exit38 hlt HA3.out HP3.out HRB3.out (leaf_V w3 _ 0 s [])
        refine bodyPost_ret (results_cell_row rfl _ _ w.heap.size 38 #[.int .i64 0, vs s, vs [], .slice none 0 0] (0, 0) _ rfl hH Tryd.underlying38 rfl (by kernel_rfl)) rfl ?_
        rw [atomF_name HBT.out, nameAtom_rel HO.out HD.out]
        exact hE
      | true =>
        have HD := Lib.hid hd
        clear hd
        go_wp2_with fail
        refine (name_calls HP3.out).mono ?_
        intro e w4 h4
        have hA4 := HA3.out.trans h4.1
        have hrb4 := h4.1.kept HRB3.out (Nat.ne_of_gt hlt)
        have heb4 := h4.1.kept HEB3.out (by omega)
        rcases ends_name h4 with ⟨d, hm, rfl, -⟩ | ⟨o, l4, hm, rfl, -, hP4⟩
        · refine ⟨rfl, hA4, ?_⟩
          rw [atomF_name HBT.out, nameAtom_err2 HO.out HD.out hm]
        · have HM := Lib.hid hm
          have HA4 := Lib.hid hA4
          have HP4 := Lib.hid hP4
          have HRB4 := Lib.hid hrb4
          have HEB4 := Lib.hid heb4
          clear h4 hA4 hm hP4 k0 k1 k2 k3 i0 i1 i2 i3 q0 q1 q2 q3 j0 j1 j2 j3
          obtain ⟨k0, k1, k2, k3, i0, i1, i2, i3⟩ := four_of heb4
          obtain ⟨q0, q1, q2, q3, j0, j1, j2, j3⟩ := four_of hrb4
          clear hrb4 heb4
          have hne1 : w.heap.size ≠ w2.heap.size := by omega
          have hA5 := (HA4.out.set_new (b := w2.heap.size) (by omega) 0 (.int .i64 1)).set_new (b := w2.heap.size) (by omega) 2 (vs o)
          have hP5 : PS ((w4.setCell ⟨w2.heap.size, 0, none⟩ (.int .i64 1)).setCell ⟨w2.heap.size, 2, none⟩ (vs o)) pb op l4 := HP4.out.kept (by
            rw [heap_setCell_other _ _ _ _ (by show pb ≠ w2.heap.size; omega), heap_setCell_other _ _ _ _ (by show pb ≠ w2.heap.size; omega)])
          have hrb5 : ((w4.setCell ⟨w2.heap.size, 0, none⟩ (.int .i64 1)).setCell ⟨w2.heap.size, 2, none⟩ (vs o)).heap[w.heap.size]? = some (.cells Z38 38 (0, 0)) := by
            rw [heap_setCell_other _ _ _ _ hne1, heap_setCell_other _ _ _ _ hne1]; exact HRB4.out
          have HE := Lib.hid (exit38 hlt hA5 hP5 hrb5 (leaf_V _ _ 1 s o))
          clear hA5 hP5 hrb5
          go_wp2
          obtain ⟨hE, hH⟩ := HE.out
          refine bodyPost_ret (results_cell_row rfl _ _ w.heap.size 38 #[.int .i64 1, vs s, vs o, .slice none 0 0] (0, 0) _ rfl hH Tryd.underlying38 rfl (by kernel_rfl)) rfl ?_
          rw [atomF_name HBT.out, nameAtom_arr HO.out HD.out HM.out]
          exact hE
/-- what a call of chain hands on. -/
theorem exit_of {w V : World} {pb : Nat} {op : Int} {r : R Ex} {e : Ending} (hpb : pb < w.heap.size) (h : Ends pb op (w.alloc (.cells Z38 38)) (ExRet (w.alloc (.cells Z38 38))) r e V) :
    (∃ d, e = .panicked (dgChain d) ∧ Ends pb op w (ExRet w) r (.panicked (dgChain d)) V) ∨
    (∃ kb ab bb Ab nb cb, e = .returned (.agg #[.int .i64 kb, vs ab, vs bb, .slice Ab nb cb]) ∧ V.heap[w.heap.size]? = some (.cells Z38 38 (0, 0)) ∧
      Ends pb op w (ExRet w) r (.returned (.agg #[.int .i64 kb, vs ab, vs bb, .slice Ab nb cb])) ((((V.setCell ⟨w.heap.size, 0, none⟩ (.int .i64 kb)).setCell ⟨w.heap.size, 1, none⟩ (vs ab)).setCell ⟨w.heap.size, 2, none⟩ (vs bb)).setCell ⟨w.heap.size, 3, none⟩ (.slice Ab nb cb)) ∧
      ((((V.setCell ⟨w.heap.size, 0, none⟩ (.int .i64 kb)).setCell ⟨w.heap.size, 1, none⟩ (vs ab)).setCell ⟨w.heap.size, 2, none⟩ (vs bb)).setCell ⟨w.heap.size, 3, none⟩ (.slice Ab nb cb)).heap[w.heap.size]? = some (.cells #[.int .i64 kb, vs ab, vs bb, .slice Ab nb cb] 38 (0, 0))) := by
  have hA := ((At.refl pb w).alloc_new (.cells Z38 38)).trans h.1
  have hrb := h.1.kept (heap_alloc_new w (.cells Z38 38)) (Nat.ne_of_gt hpb)
  rcases ends_cases h with ⟨d, rfl, rfl, -⟩ | ⟨b, l, kb, ab, bb, Ab, nb, cb, rfl, rfl, -, hP, hV⟩
  · exact .inl ⟨d, rfl, hA, rfl⟩
  · obtain ⟨h1, h2⟩ := exit38 hpb hA hP hrb (hV.mono (fun c hc _ => by simp at hc; omega))
    exact .inr ⟨kb, ab, bb, Ab, nb, cb, rfl, hrb, h1, h2⟩
theorem Ends.congr {α : Type} {pb : Nat} {op : Int} {w : World} {V : World → α → Ending → Prop} {r r' : R α} (h : r = r') {e : Ending} {w' : World} (h1 : Ends pb op w V r e w') : Ends pb op w V r' e w' := h ▸ h1
set_option maxRecDepth 100000 in
set_option maxHeartbeats 2000000 in
theorem term_calls {pb : Nat} {op : Int} (one : P Ex) (hless : Less one) (hlow : Low one)
    (hone : ∀ w L, PS w pb op L → Calls Tryd.prog 94 #[.pointer (some ⟨pb, 0, none⟩)] w (Ends pb op w (ExRet w) (one L))) {w : World} {L : List Tk} (h : PS w pb op L) :
    Calls Tryd.prog 86 #[.pointer (some ⟨pb, 0, none⟩)] w (Ends pb op w (ExRet w) (chainS [38] (fun _ => 3) one L)) := by
  have hlt := h.lt
  have hch := chain_calls (pb := pb) (op := op) [38] (by simp) (by simp) (by simp) (by decide) (fun _ => 3) 93 94 one hless hlow (fun _ _ => rfl) (fun _ _ => rfl)
    (fun q w => and_calls q w) hone (h.kept (alloc_old (.cells Z38 38) hlt))
  have HC := Lib.hid hch
  clear hch h hone
  go_enter Tryd.func86, Tryd.ntmps86
  go_wp2_with fail
  refine HC.out.mono ?_
  intro e V hV
  rcases exit_of hlt hV with ⟨d, rfl, hE⟩ | ⟨kb, ab, bb, Ab, nb, cb, rfl, hrb, hE, hH⟩
  · exact ⟨rfl, hE⟩
  · obtain ⟨q0, q1, q2, q3, j0, j1, j2, j3⟩ := four_of hrb
    have HE := Lib.hid hE
    have HH := Lib.hid hH
    clear hrb hE hH hV HC
    go_wp2
    refine bodyPost_ret (results_cell_row rfl _ _ w.heap.size 38 #[.int .i64 kb, vs ab, vs bb, .slice Ab nb cb] (0, 0) _ rfl HH.out Tryd.underlying38 rfl (by kernel_rfl)) rfl ?_
    exact HE.out
set_option maxRecDepth 100000 in
set_option maxHeartbeats 2000000 in
theorem expr_calls1 {pb : Nat} {op : Int} (one : P Ex) (hless : Less one) (hlow : Low one)
    (hone : ∀ w L, PS w pb op L → Calls Tryd.prog 86 #[.pointer (some ⟨pb, 0, none⟩)] w (Ends pb op w (ExRet w) (one L))) {w : World} {L : List Tk} (h : PS w pb op L) :
    Calls Tryd.prog 72 #[.pointer (some ⟨pb, 0, none⟩)] w (Ends pb op w (ExRet w) (chainS [43, 45] orK one L)) := by
  have hlt := h.lt
  have hch := chain_calls (pb := pb) (op := op) [43, 45] (by simp) (by simp) (by simp) (by decide) orK 85 86 one hless hlow (fun _ _ => rfl) (fun _ _ => rfl)
    (fun q w => or_calls q w) hone (h.kept (alloc_old (.cells Z38 38) hlt))
  have HC := Lib.hid hch
  clear hch h hone
  go_enter Tryd.func72, Tryd.ntmps72
  go_wp2_with fail
  refine HC.out.mono ?_
  intro e V hV
  rcases exit_of hlt hV with ⟨d, rfl, hE⟩ | ⟨kb, ab, bb, Ab, nb, cb, rfl, hrb, hE, hH⟩
  · exact ⟨rfl, hE⟩
  · obtain ⟨q0, q1, q2, q3, j0, j1, j2, j3⟩ := four_of hrb
    have HE := Lib.hid hE
    have HH := Lib.hid hH
    clear hrb hE hH hV HC
    go_wp2
    refine bodyPost_ret (results_cell_row rfl _ _ w.heap.size 38 #[.int .i64 kb, vs ab, vs bb, .slice Ab nb cb] (0, 0) _ rfl HH.out Tryd.underlying38 rfl (by kernel_rfl)) rfl ?_
    exact HE.out
theorem expr_calls {pb : Nat} : ∀ (d : Nat) (op : Int), op + d = 12 → 0 ≤ op → ∀ w L, PS w pb op L →
    Calls Tryd.prog 72 #[.pointer (some ⟨pb, 0, none⟩)] w (Ends pb op w (ExRet w) (exprS d L))
  | d, op, hd, h0, w, L, h => by
    rw [exprS_eq]
    have hla : Less (atomF (innerS d)) := less_atom (less_inner d)
    have hwa : Low (atomF (innerS d)) := low_atom (low_inner d)
    have hatom : ∀ w L, PS w pb op L → Calls Tryd.prog 94 #[.pointer (some ⟨pb, 0, none⟩)] w (Ends pb op w (ExRet w) (atomF (innerS d) L)) := fun w L h => by
      refine atom_calls ⟨h0, by omega⟩ (innerS d) ⟨fun hi => ?_, fun p hi => ?_⟩ h
      · cases d with
        | zero => omega
        | succ d => cases hi
      · cases d with
        | zero => cases hi
        | succ d =>
          cases hi
          exact ⟨by omega, fun w L h => expr_calls d (op + 1) (by omega) (by omega) w L h⟩
    exact expr_calls1 _ (less_chain hla) (low_chain hwa) (fun w L h => term_calls _ hla hwa hatom h) h
end Go.Proofs.YtgmlcnikphbiiaaDoor.L

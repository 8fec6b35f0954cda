/-
  The document's reader: atom.
-/
import Derived.Test.YtgmlcnikphbiiaaDoorLangY
namespace Go.Proofs.YtgmlcnikphbiiaaDoor.L
open Go.RowKit Go.Proofs.YtgmlcnikphbiiaaDoor.B Go.Proofs.YtgmlcnikphbiiaaDoor.S10 Go.Proofs.YtgmlcnikphbiiaaDoor.Nm
open Go.Proofs.YtgmlcnikphbiiaaDoor.C (QRow Turn wpList_append_q)
set_option linter.unusedVariables false
set_option linter.unusedSimpArgs false

theorem exitR {w V : World} {rb : Nat} {op : Int} {L2 : List Tk} {e : Ex} {x0 x1 x2 x3 z0 z1 z2 z3 : Value} (hpb : rb < w.heap.size) (hA : At rb w V) (hP : RO V rb op L2) (hrb : V.heap[w.heap.size]? = some (.cells #[z0, z1, z2, z3] 38 (0, 0)))
    (hV : ExV V (fun b => w.heap.size < b) e (.agg #[x0, x1, x2, x3])) :
    EndsR rb op w (ExRet w) (.ok (e, L2)) (.returned (.agg #[x0, x1, x2, x3])) ((((V.setCell ⟨w.heap.size, 0, none⟩ x0).setCell ⟨w.heap.size, 1, none⟩ x1).setCell ⟨w.heap.size, 2, none⟩ x2).setCell ⟨w.heap.size, 3, none⟩ x3) ∧
    ((((V.setCell ⟨w.heap.size, 0, none⟩ x0).setCell ⟨w.heap.size, 1, none⟩ x1).setCell ⟨w.heap.size, 2, none⟩ x2).setCell ⟨w.heap.size, 3, none⟩ x3).heap[w.heap.size]? = some (.cells #[x0, x1, x2, x3] 38 (0, 0)) := by
  have hne : ∀ b, w.heap.size < b → b ≠ w.heap.size := fun b hb => Nat.ne_of_gt hb
  refine ⟨⟨(((hA.set_new (Nat.le_refl _) 0 _).set_new (Nat.le_refl _) 1 _).set_new (Nat.le_refl _) 2 _).set_new (Nat.le_refl _) 3 _, ⟨_, rfl, ((((hV.set hne 0 _).set hne 1 _).set hne 2 _).set hne 3 _).mono (fun b hb _ => Nat.le_of_lt hb)⟩, hP.turn (turn_set4 _ _ _ _ _ _) (fun b hb e => by omega)⟩, set4 hrb _ _ _ _⟩
theorem exitRE {w V : World} {rb : Nat} {op : Int} {d : Dg} {e : Ex} {x0 x1 x2 x3 z0 z1 z2 z3 : Value} (hpb : rb < w.heap.size) (hA : At rb w V) (hP : RE V rb op d) (hrb : V.heap[w.heap.size]? = some (.cells #[z0, z1, z2, z3] 38 (0, 0)))
    (hV : ExV V (fun b => w.heap.size < b) e (.agg #[x0, x1, x2, x3])) :
    EndsR rb op w (ExRet w) (.error d) (.returned (.agg #[x0, x1, x2, x3])) ((((V.setCell ⟨w.heap.size, 0, none⟩ x0).setCell ⟨w.heap.size, 1, none⟩ x1).setCell ⟨w.heap.size, 2, none⟩ x2).setCell ⟨w.heap.size, 3, none⟩ x3) ∧
    ((((V.setCell ⟨w.heap.size, 0, none⟩ x0).setCell ⟨w.heap.size, 1, none⟩ x1).setCell ⟨w.heap.size, 2, none⟩ x2).setCell ⟨w.heap.size, 3, none⟩ x3).heap[w.heap.size]? = some (.cells #[x0, x1, x2, x3] 38 (0, 0)) := by
  have hne : ∀ b, w.heap.size < b → b ≠ w.heap.size := fun b hb => Nat.ne_of_gt hb
  refine ⟨⟨(((hA.set_new (Nat.le_refl _) 0 _).set_new (Nat.le_refl _) 1 _).set_new (Nat.le_refl _) 2 _).set_new (Nat.le_refl _) 3 _, ⟨_, _, rfl, ((((hV.set hne 0 _).set hne 1 _).set hne 2 _).set hne 3 _).mono (fun b hb _ => Nat.le_of_lt hb)⟩, hP.turn (turn_set4 _ _ _ _ _ _) (fun b hb e => by omega)⟩, set4 hrb _ _ _ _⟩
theorem RD.open_ {w : World} {rb : Nat} {TL : List Tk} {at_ : Nat} {op : Int} {d : Dg} (h : RD w rb TL at_ op d) (op' : Int) : RD (w.setCell ⟨rb, 2, none⟩ (.int .i64 op')) rb TL at_ op' d := by
  obtain ⟨A, c, h1, h2, h3⟩ := h
  exact ⟨A, c, heap_setCell_same w rb 2 _ _ _ h1, h2.keep (by decide) (fun _ h _ => h) (turn_cell (at_set w rb 2 _) (fun b hb _ e => by omega)) (fun _ _ h => h), h3⟩
theorem RO.opens {w : World} {rb : Nat} {op : Int} {L : List Tk} (h : RO w rb op L) (op' : Int) : RO (w.setCell ⟨rb, 2, none⟩ (.int .i64 op')) rb op' L := by
  obtain ⟨TL, at_, h1, h2⟩ := h
  exact ⟨TL, at_, h1.open_ op', h2⟩
theorem RO.cell {w : World} {rb : Nat} {op : Int} {L : List Tk} (h : RO w rb op L) : w.cell? ⟨rb, 2, none⟩ = some (.int .i64 op) ∧ w.frozen? ⟨rb, 2, none⟩ = false ∧ w.cell? ⟨rb, 5, none⟩ = some (.int .i64 0) := by
  obtain ⟨TL, at_, ⟨A, c, hg, _⟩, _⟩ := h
  exact ⟨cells_of hg 2 _ rfl, frz_of hg 2, cells_of hg 5 _ rfl⟩
theorem RE.cell {w : World} {rb : Nat} {op : Int} {d : Dg} (h : RE w rb op d) : ∃ op', w.cell? ⟨rb, 2, none⟩ = some (.int .i64 op') ∧ w.frozen? ⟨rb, 2, none⟩ = false ∧ w.cell? ⟨rb, 5, none⟩ = some (.int .i64 d.e) ∧ op ≤ op' ∧ op' ≤ op + 1 ∧
    RE (w.setCell ⟨rb, 2, none⟩ (.int .i64 (op' - 1))) rb (op - 1) d := by
  obtain ⟨h0, TL, at_, op', hd, h1, h2⟩ := h
  obtain ⟨A, c, hg, _⟩ := id hd
  exact ⟨op', cells_of hg 2 _ rfl, frz_of hg 2, cells_of hg 5 _ rfl, h1, h2, h0, TL, at_, _, hd.open_ _, by omega, by omega⟩
theorem ends_nameR {rb : Nat} {op : Int} {w w' : World} {r : R Bs} {e : Ending} (h : EndsR rb op w VN r e w') :
    (∃ d s, r = .error d ∧ e = .returned (vs s) ∧ At rb w w' ∧ RE w' rb op d) ∨ (∃ a l, r = .ok (a, l) ∧ e = .returned (vs a) ∧ At rb w w' ∧ RO w' rb op l) := by
  obtain ⟨hA, hR⟩ := h
  cases r with
  | error d => obtain ⟨⟨a, ha⟩, hE⟩ := hR; exact .inl ⟨d, a, rfl, ha, hA, hE⟩
  | ok p => exact .inr ⟨p.1, p.2, rfl, hR.1, hA, hR.2⟩
theorem ends_mustR {rb : Nat} {op : Int} {w w' : World} {r : R Unit} {e : Ending} (h : EndsR rb op w VU r e w') :
    (∃ d, r = .error d ∧ e = .returned (.tuple #[]) ∧ At rb w w' ∧ RE w' rb op d) ∨ (∃ l, r = .ok ((), l) ∧ e = .returned (.tuple #[]) ∧ At rb w w' ∧ RO w' rb op l) := by
  obtain ⟨hA, hR⟩ := h
  cases r with
  | error d => obtain ⟨⟨a, ha⟩, hE⟩ := hR; exact .inl ⟨d, rfl, ha, hA, hE⟩
  | ok p => exact .inr ⟨p.2, rfl, hR.1, hA, hR.2⟩
theorem ends_exR {rb : Nat} {op : Int} {w w' : World} {r : R Ex} {e : Ending} (h : EndsR rb op w (ExRet w) r e w') :
    ∃ x k a b A n c, e = .returned (exAgg k a b A n c) ∧ At rb w w' ∧ ExV w' (fun b => w.heap.size ≤ b) x (exAgg k a b A n c) ∧ ((∃ d, r = .error d ∧ RE w' rb op d) ∨ (∃ l, r = .ok (x, l) ∧ RO w' rb op l)) := by
  obtain ⟨hA, hR⟩ := h
  cases r with
  | error d =>
    obtain ⟨⟨x, v, he, hV⟩, hE⟩ := hR
    obtain ⟨k, a, b, A, n, c, rfl⟩ := hV.form
    exact ⟨x, k, a, b, A, n, c, he, hA, hV, .inl ⟨d, rfl, hE⟩⟩
  | ok p =>
    obtain ⟨x, l⟩ := p
    obtain ⟨⟨v, he, hV⟩, hP⟩ := hR
    obtain ⟨k, a, b, A, n, c, rfl⟩ := hV.form
    exact ⟨x, k, a, b, A, n, c, he, hA, hV, .inr ⟨l, rfl, hP⟩⟩
theorem RO.head {w : World} {rb : Nat} {op : Int} {L : List Tk} (h : RO w rb op L) : ∃ TL at_ t l, RD w rb TL at_ op ⟨0, 0, 0⟩ ∧ L = t :: l ∧ TL[at_]? = some t := by
  obtain ⟨TL, at_, t, l, h1, h2, h3, _⟩ := h.open_
  exact ⟨TL, at_, t, l, h1, h2, h3⟩
set_option maxRecDepth 100000 in
set_option maxHeartbeats 2000000 in
theorem ratom_name {rb : Nat} {op : Int} (inner : Option (P Ex)) {w : World} {L : List Tk} (h : RO w rb op L) (hb : (hasS [40] L).1 = false) :
    Calls Tryd.prog 87 #[.pointer (some ⟨rb, 0, none⟩)] w (EndsR rb op w (ExRet w) (atomF inner L)) := by
  have hlt := h.lt
  rw [atomF_name hb]
  have h0 := h.below ((Below.refl _ w).alloc (Nat.le_refl _) (.cells #[.int .i64 0, .string ⟨#[]⟩, .string ⟨#[]⟩, .slice none 0 0] 38))
  obtain ⟨TL, at_, t, l, hd, rfl, ht⟩ := h0.head
  have H0 := Lib.hid h0
  have HD := Lib.hid hd
  have HT := Lib.hid ht
  have HBF := Lib.hid hb
  clear h h0 hd ht hb
  go_enter Tryd.func87, Tryd.ntmps87
  go_wp2_with fail
  refine (next_calls HD.out HT.out).mono ?_
  rintro e w1 ⟨rfl, hb1⟩
  have hrb1 := (hb1.block w.heap.size (by simp)).trans (heap_alloc_new w (.cells #[.int .i64 0, .string ⟨#[]⟩, .string ⟨#[]⟩, .slice none 0 0] 38))
  have HB1 := Lib.hid (keepB ((Below.refl _ w).alloc (Nat.le_refl _) _) hb1)
  have HP1 := Lib.hid (H0.out.below hb1)
  have HRB1 := Lib.hid hrb1
  have hs1 := hb1.size
  rw [show (w.alloc (.cells #[.int .i64 0, .string ⟨#[]⟩, .string ⟨#[]⟩, .slice none 0 0] 38)).heap.size = w.heap.size + 1 by simp] at hs1
  clear hb1 hrb1
  go_wp2_with fail
  refine (is_calls (HP1.out.below ((Below.refl _ w1).alloc (Nat.le_refl _) _)) _ [40] rfl (by simp) (by simp)).mono ?_
  rintro e w2 ⟨rfl, hP2, hA2⟩
  rw [HBF.out]
  have hA02 : At rb w w2 := (at_below HB1.out).trans (Turn.trans (Turn.alloc (fp := fun k => k = rb) w1 _) hA2 (fun _ h _ => h))
  have hrb2 := hA2.kept ((alloc_old _ (lt_of_heap HRB1.out)).trans HRB1.out) (Nat.ne_of_gt hlt)
  have HP2 := Lib.hid hP2
  have HA2 := Lib.hid hA02
  have HRB2 := Lib.hid hrb2
  have hs2 := hA2.size
  simp at hs2
  clear hP2 hA2 hA02 hrb2
  go_wp2_with fail
  refine (rname_calls HP2.out).mono ?_
  intro e w3 h3
  rcases ends_nameR h3 with ⟨d, s, ho, rfl, hA3, hE3⟩ | ⟨s, l3, ho, rfl, hA3, hP3⟩
  · have HO := Lib.hid ho
    have HA3 := Lib.hid (HA2.out.trans hA3)
    have HE3 := Lib.hid hE3
    have hrb3 := hA3.kept HRB2.out (Nat.ne_of_gt hlt)
    have HRB3 := Lib.hid hrb3
    clear h3 ho hA3 hE3 hrb3
    go_wp2_with fail
    refine (is_err HE3.out _).mono ?_
    rintro e w4 ⟨rfl, hb4⟩
    have hrb4 := (hb4.block _ (lt_of_heap HRB3.out)).trans HRB3.out
    obtain ⟨q0, q1, q2, q3, j0, j1, j2, j3⟩ := four_of hrb4
    have HE := Lib.hid (exitRE hlt (HA3.out.below hb4) (HE3.out.below hb4) hrb4 (leaf_V _ _ 0 s []))
    clear hb4 hrb4
    go_wp2
    obtain ⟨hE, hH⟩ := HE.out
    refine bodyPost_ret (results_cell_row rfl _ _ w.heap.size 38 #[.int .i64 0, vs s, vs [], .slice none 0 0] (0, 0) _ rfl hH Tryd.underlying38 rfl (by kernel_rfl)) rfl ?_
    rw [nameAtom_err HO.out]
    exact hE
  · have HO := Lib.hid ho
    have HA3 := Lib.hid (HA2.out.trans hA3)
    have HP3 := Lib.hid hP3
    have hrb3 := hA3.kept HRB2.out (Nat.ne_of_gt hlt)
    have HRB3 := Lib.hid hrb3
    clear h3 ho hA3 hP3 hrb3
    go_wp2_with fail
    refine (is_calls HP3.out _ [46] rfl (by simp) (by simp)).mono ?_
    rintro e w4 ⟨rfl, hP4, hA4⟩
    have hrb4 := hA4.kept HRB3.out (Nat.ne_of_gt hlt)
    have HA4 := Lib.hid (HA3.out.trans hA4)
    have HP4 := Lib.hid hP4
    have HRB4 := Lib.hid hrb4
    clear hP4 hA4
    cases hd : (hasS [46] l3).1 with
    | false =>
      have HDD := Lib.hid hd
      obtain ⟨q0, q1, q2, q3, j0, j1, j2, j3⟩ := four_of hrb4
      have HE := Lib.hid (exitR hlt HA4.out HP4.out HRB4.out (leaf_V _ _ 0 s []))
      clear hd hrb4
      go_wp2
      obtain ⟨hE, hH⟩ := HE.out
      refine bodyPost_ret (results_cell_row rfl _ _ w.heap.size 38 #[.int .i64 0, vs s, vs [], .slice none 0 0] (0, 0) _ rfl hH Tryd.underlying38 rfl (by kernel_rfl)) rfl ?_
      rw [nameAtom_rel HO.out HDD.out]
      exact hE
    | true =>
      have HDD := Lib.hid hd
      clear hd hrb4
      go_wp2_with fail
      refine (rname_calls HP4.out).mono ?_
      intro e w5 h5
      have hrb5 := h5.1.kept HRB4.out (Nat.ne_of_gt hlt)
      obtain ⟨q0, q1, q2, q3, j0, j1, j2, j3⟩ := four_of hrb5
      rcases ends_nameR h5 with ⟨d, o, ho, rfl, hA5, hE5⟩ | ⟨o, l5, ho, rfl, hA5, hP5⟩
      · have HO5 := Lib.hid ho
        have HE := Lib.hid (exitRE hlt (HA4.out.trans hA5) hE5 hrb5 (leaf_V _ _ 1 s o))
        clear h5 ho hA5 hE5 hrb5
        go_wp2
        obtain ⟨hE, hH⟩ := HE.out
        refine bodyPost_ret (results_cell_row rfl _ _ w.heap.size 38 #[.int .i64 1, vs s, vs o, .slice none 0 0] (0, 0) _ rfl hH Tryd.underlying38 rfl (by kernel_rfl)) rfl ?_
        rw [nameAtom_err2 HO.out HDD.out HO5.out]
        exact hE
      · have HO5 := Lib.hid ho
        have HE := Lib.hid (exitR hlt (HA4.out.trans hA5) hP5 hrb5 (leaf_V _ _ 1 s o))
        clear h5 ho hA5 hP5 hrb5
        go_wp2
        obtain ⟨hE, hH⟩ := HE.out
        refine bodyPost_ret (results_cell_row rfl _ _ w.heap.size 38 #[.int .i64 1, vs s, vs o, .slice none 0 0] (0, 0) _ rfl hH Tryd.underlying38 rfl (by kernel_rfl)) rfl ?_
        rw [nameAtom_arr HO.out HDD.out HO5.out]
        exact hE
theorem opens_wrap {op : Int} (h : 0 ≤ op ∧ op ≤ 12) : 0 ≤ op + 1 ∧ op + 1 ≤ 13 := by omega
set_option maxRecDepth 100000 in
set_option maxHeartbeats 2000000 in
theorem ratom_in {rb : Nat} {op : Int} (hop : 0 ≤ op ∧ op ≤ 12) (inner : Option (P Ex)) (hin : (inner = none → op = 12) ∧ ∀ p, inner = some p → op < 12 ∧ ∀ w L, RO w rb (op + 1) L → Calls Tryd.prog 56 #[.pointer (some ⟨rb, 0, none⟩)] w (EndsR rb (op + 1) w (ExRet w) (p L)))
    {w : World} {L : List Tk} (h : RO w rb op L) (hb : (hasS [40] L).1 = true) :
    Calls Tryd.prog 87 #[.pointer (some ⟨rb, 0, none⟩)] w (EndsR rb op w (ExRet w) (atomF inner L)) := by
  have hlt := h.lt
  have h0 := h.below ((Below.refl _ w).alloc (Nat.le_refl _) (.cells #[.int .i64 0, .string ⟨#[]⟩, .string ⟨#[]⟩, .slice none 0 0] 38))
  obtain ⟨TL, at_, t, l, hd, rfl, ht⟩ := h0.head
  have H0 := Lib.hid h0
  have HD := Lib.hid hd
  have HT := Lib.hid ht
  have HBF := Lib.hid hb
  have HIN := Lib.hid hin
  clear h h0 hd ht hb hin
  obtain ⟨ho0, ho1⟩ := hop
  go_enter Tryd.func87, Tryd.ntmps87
  go_wp2_with fail
  refine (next_calls HD.out HT.out).mono ?_
  rintro e w1 ⟨rfl, hb1⟩
  have hrb1 := (hb1.block w.heap.size (by simp)).trans (heap_alloc_new w (.cells #[.int .i64 0, .string ⟨#[]⟩, .string ⟨#[]⟩, .slice none 0 0] 38))
  have HB1 := Lib.hid (keepB ((Below.refl _ w).alloc (Nat.le_refl _) _) hb1)
  have HP1 := Lib.hid (H0.out.below hb1)
  have HRB1 := Lib.hid hrb1
  have hs1 := hb1.size
  rw [show (w.alloc (.cells #[.int .i64 0, .string ⟨#[]⟩, .string ⟨#[]⟩, .slice none 0 0] 38)).heap.size = w.heap.size + 1 by simp] at hs1
  clear hb1 hrb1
  go_wp2_with fail
  refine (is_calls (HP1.out.below ((Below.refl _ w1).alloc (Nat.le_refl _) _)) _ [40] rfl (by simp) (by simp)).mono ?_
  rintro e w2 ⟨rfl, hP2, hA2⟩
  rw [HBF.out]
  have hA02 : At rb w w2 := (at_below HB1.out).trans (Turn.trans (Turn.alloc (fp := fun k => k = rb) w1 _) hA2 (fun _ h _ => h))
  have hrb2 := hA2.kept ((alloc_old _ (lt_of_heap HRB1.out)).trans HRB1.out) (Nat.ne_of_gt hlt)
  have htb2 := hA2.kept (heap_alloc_new w1 (.cells #[vs t.s, .int .i64 t.line, .int .i64 t.col] 67)) (by omega)
  obtain ⟨c2, f2, -⟩ := hP2.cell
  have hA3 : At rb w (w2.setCell ⟨rb, 2, none⟩ (.int .i64 (op + 1))) := hA02.trans (at_set w2 rb 2 _)
  have hrb3 : (w2.setCell ⟨rb, 2, none⟩ (.int .i64 (op + 1))).heap[w.heap.size]? = _ := (heap_setCell_other _ _ _ _ (by show w.heap.size ≠ rb; omega)).trans hrb2
  have htb3 : (w2.setCell ⟨rb, 2, none⟩ (.int .i64 (op + 1))).heap[w1.heap.size]? = _ := (heap_setCell_other _ _ _ _ (by show w1.heap.size ≠ rb; omega)).trans htb2
  have HP3 := Lib.hid (hP2.opens (op + 1))
  have HA3 := Lib.hid hA3
  have HRB3 := Lib.hid hrb3
  have hs2 := hA2.size
  simp at hs2
  have htl := lt_of_heap htb2
  generalize w1.heap.size = tb at *
  have HTB3 := Lib.hid htb3
  obtain ⟨x0, x1, x2⟩ := three_of htb2
  clear hP2 hA2 hA02 hrb2 htb2 hA3 hrb3 htb3
  have hne1 : tb ≠ rb := by omega
  cases inner with
  | none =>
    have hop := HIN.out.1 rfl
    subst hop
    obtain ⟨TL3, at3, t3, l3, hd3, hL3, ht3⟩ := HP3.out.head
    have HD3 := Lib.hid hd3
    clear hd3 hL3 ht3
    go_wp2_with fail
    refine (fail_at 12 ⟨by omega, by omega⟩ HD3.out t 9 (by decide)).mono ?_
    rintro e w4 ⟨rfl, hE4, hA4⟩
    have hrb4 := hA4.kept HRB3.out (Nat.ne_of_gt hlt)
    obtain ⟨q0, q1, q2, q3, j0, j1, j2, j3⟩ := four_of hrb4
    have HE := Lib.hid (exitRE hlt (HA3.out.trans hA4) hE4 hrb4 (leaf_V _ _ 0 [] []))
    clear hrb4 hE4 hA4 x0 x1 x2 c2 f2
    go_wp2
    obtain ⟨hE, hH⟩ := HE.out
    refine bodyPost_ret (results_cell_row rfl _ _ w.heap.size 38 #[.int .i64 0, vs [], vs [], .slice none 0 0] (0, 0) _ rfl hH Tryd.underlying38 rfl (by kernel_rfl)) rfl ?_
    rw [atomF_deep HBF.out]
    exact hE
  | some p =>
    obtain ⟨hop12, hexpr⟩ := HIN.out.2 p rfl
    have HEX := Lib.hid hexpr
    clear hexpr
    go_wp2_with fail
    refine (HEX.out _ _ HP3.out).mono ?_
    intro e w4 h4
    obtain ⟨y, ky, ay, by_, Ay, ny, cy, rfl, hA4, hV4, hcase⟩ := ends_exR h4
    have hrb4 := hA4.kept HRB3.out (Nat.ne_of_gt hlt)
    have HA4 := Lib.hid (HA3.out.trans hA4)
    have HV4 := Lib.hid hV4
    have HRB4 := Lib.hid hrb4
    have hs4 := hA4.size
    simp at hs4
    have hwl := lt_of_heap HRB4.out
    have hA5 := HA4.out.alloc_new (.cells #[.int .i64 ky, vs ay, vs by_, .slice Ay ny cy] 38)
    have hrb5 := (alloc_old (.cells #[.int .i64 ky, vs ay, vs by_, .slice Ay ny cy] 38) hwl).trans HRB4.out
    have hbx5 := heap_alloc_new w4 (.cells #[.int .i64 ky, vs ay, vs by_, .slice Ay ny cy] 38)
    have hV5 : ExV (w4.alloc (.cells #[.int .i64 ky, vs ay, vs by_, .slice Ay ny cy] 38)) (fun b => w.heap.size < b ∧ b ≠ w4.heap.size) y (exAgg ky ay by_ Ay ny cy) := (hV4.mono (fun b hb hl => by simp at hb; omega)).alloc _
    have HA5 := Lib.hid hA5
    have HRB5 := Lib.hid hrb5
    have HBX5 := Lib.hid hbx5
    have HV5 := Lib.hid hV5
    have hbl : rb < w4.heap.size := by omega
    clear h4 hA4 hV4 hrb4 hA5 hrb5 hbx5 hV5 x0 x1 x2 c2 f2 HRB4
    rcases hcase with ⟨d, ho, hE4⟩ | ⟨l4, ho, hP4⟩
    · have HFE := Lib.hid (inAtom_err (p := p) ho)
      have HE5 := Lib.hid (hE4.below ((Below.refl _ w4).alloc (Nat.le_refl _) (.cells #[.int .i64 ky, vs ay, vs by_, .slice Ay ny cy] 38)))
      clear ho hE4
      go_wp2_with fail
      generalize w4.heap.size = eb at *
      refine (rmust_err HE5.out _).mono ?_
      rintro e w6 ⟨rfl, hb6⟩
      obtain ⟨op', c2, f2, -, l1, l2, hE6⟩ := (HE5.out.below hb6).cell
      have hrb6 := (hb6.block _ (lt_of_heap HRB5.out)).trans HRB5.out
      have hbx6 := (hb6.block _ (lt_of_heap HBX5.out)).trans HBX5.out
      have hV6 := (HV5.out.below hb6).set (c := rb) (fun b hb => by omega) 2 (.int .i64 (op' - 1))
      have hA6 := (HA5.out.below hb6).trans (at_set w6 rb 2 (.int .i64 (op' - 1)))
      have hrb7 := (heap_setCell_other w6 ⟨rb, 2, none⟩ w.heap.size (.int .i64 (op' - 1)) (by show w.heap.size ≠ rb; omega)).trans hrb6
      rw [show op + 1 - 1 = op by omega] at hE6
      have HE := Lib.hid (exitRE hlt hA6 hE6 hrb7 (hV6.mono (fun b hb _ => hb.1)))
      obtain ⟨q0, q1, q2, q3, j0, j1, j2, j3⟩ := four_of hrb6
      obtain ⟨x0, x1, x2, x3, -⟩ := four_of hbx6
      have hne2 : eb ≠ rb := by omega
      have hne3 : w.heap.size ≠ rb := by omega
      clear hb6 hrb6 hbx6 hV6 hA6 hrb7 hE6
      go_wp2
      obtain ⟨hE, hH⟩ := HE.out
      refine bodyPost_ret (results_cell_row rfl _ _ w.heap.size 38 #[.int .i64 ky, vs ay, vs by_, .slice Ay ny cy] (0, 0) _ rfl hH Tryd.underlying38 rfl (by kernel_rfl)) rfl ?_
      rw [atomF_in HBF.out, HFE.out]
      exact hE
    · have HO := Lib.hid ho
      have HP5 := Lib.hid (hP4.below ((Below.refl _ w4).alloc (Nat.le_refl _) (.cells #[.int .i64 ky, vs ay, vs by_, .slice Ay ny cy] 38)))
      clear ho hP4
      go_wp2_with fail
      generalize w4.heap.size = eb at *
      refine (rmust_calls HP5.out _ [41] rfl (by simp) (by simp)).mono ?_
      intro e w6 h6
      have hrb6 := h6.1.kept HRB5.out (Nat.ne_of_gt hlt)
      have hbx6 := h6.1.kept HBX5.out (by omega)
      obtain ⟨q0, q1, q2, q3, j0, j1, j2, j3⟩ := four_of hrb6
      obtain ⟨x0, x1, x2, x3, -⟩ := four_of hbx6
      have hne2 : eb ≠ rb := by omega
      have hne3 : w.heap.size ≠ rb := by omega
      have hV6 := HV5.out.at h6.1 (F' := fun b => w.heap.size < b ∧ b ≠ eb) (fun b hb _ => ⟨by omega, hb⟩)
      have HV6 := Lib.hid hV6
      have HA6 := Lib.hid (HA5.out.trans h6.1)
      have HRB6 := Lib.hid hrb6
      clear hrb6 hbx6 hV6
      rcases ends_mustR h6 with ⟨d, hm, rfl, -, hE6⟩ | ⟨l6, hm, rfl, -, hP6⟩
      · have HFE := Lib.hid (inAtom_err2 (p := p) HO.out hm)
        obtain ⟨op', c2, f2, -, l1, l2, hE7⟩ := hE6.cell
        rw [show op + 1 - 1 = op by omega] at hE7
        have hV7 := HV6.out.set (c := rb) (fun b hb => by omega) 2 (.int .i64 (op' - 1))
        have hA7 := HA6.out.trans (at_set w6 rb 2 (.int .i64 (op' - 1)))
        have hrb7 := (heap_setCell_other w6 ⟨rb, 2, none⟩ w.heap.size (.int .i64 (op' - 1)) (by show w.heap.size ≠ rb; omega)).trans HRB6.out
        have HE := Lib.hid (exitRE hlt hA7 hE7 hrb7 (hV7.mono (fun b hb _ => hb.1)))
        clear h6 hm hE6 hE7 hV7 hA7 hrb7
        go_wp2
        obtain ⟨hE, hH⟩ := HE.out
        refine bodyPost_ret (results_cell_row rfl _ _ w.heap.size 38 #[.int .i64 ky, vs ay, vs by_, .slice Ay ny cy] (0, 0) _ rfl hH Tryd.underlying38 rfl (by kernel_rfl)) rfl ?_
        rw [atomF_in HBF.out, HFE.out]
        exact hE
      · have HFE := Lib.hid (inAtom_ok (p := p) HO.out hm)
        obtain ⟨c2, f2, -⟩ := hP6.cell
        have hP7 := hP6.opens (op + 1 - 1)
        have hop1 : op + 1 - 1 = op := by omega
        have hV7 := HV6.out.set (c := rb) (fun b hb => by omega) 2 (.int .i64 (op + 1 - 1))
        have hA7 := HA6.out.trans (at_set w6 rb 2 (.int .i64 (op + 1 - 1)))
        have hrb7 := (heap_setCell_other w6 ⟨rb, 2, none⟩ w.heap.size (.int .i64 (op + 1 - 1)) (by show w.heap.size ≠ rb; omega)).trans HRB6.out
        have HE0 := exitR hlt hA7 hP7 hrb7 (hV7.mono (fun b hb _ => hb.1))
        rw [hop1] at HE0
        have HE := Lib.hid HE0
        clear h6 hm hP6 hP7 hV7 hA7 hrb7 HE0 hop1
        go_wp2
        obtain ⟨hE, hH⟩ := HE.out
        refine bodyPost_ret (results_cell_row rfl _ _ w.heap.size 38 #[.int .i64 ky, vs ay, vs by_, .slice Ay ny cy] (0, 0) _ rfl hH Tryd.underlying38 rfl (by kernel_rfl)) rfl ?_
        rw [atomF_in HBF.out, HFE.out]
        exact hE
theorem ratom_calls {rb : Nat} {op : Int} (hop : 0 ≤ op ∧ op ≤ 12) (inner : Option (P Ex)) (hin : (inner = none → op = 12) ∧ ∀ p, inner = some p → op < 12 ∧ ∀ w L, RO w rb (op + 1) L → Calls Tryd.prog 56 #[.pointer (some ⟨rb, 0, none⟩)] w (EndsR rb (op + 1) w (ExRet w) (p L)))
    {w : World} {L : List Tk} (h : RO w rb op L) : Calls Tryd.prog 87 #[.pointer (some ⟨rb, 0, none⟩)] w (EndsR rb op w (ExRet w) (atomF inner L)) := by
  cases hb : (hasS [40] L).1 with
  | true => exact ratom_in hop inner hin h hb
  | false => exact ratom_name inner h hb
end Go.Proofs.YtgmlcnikphbiiaaDoor.L

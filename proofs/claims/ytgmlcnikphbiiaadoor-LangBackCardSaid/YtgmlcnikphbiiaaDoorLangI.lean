/-
  The parser's refs.
-/
import Derived.Test.YtgmlcnikphbiiaaDoorLangH
namespace Go.Proofs.YtgmlcnikphbiiaaDoor.L
open Go.RowKit Go.Proofs.YtgmlcnikphbiiaaDoor.B
open Go.Proofs.YtgmlcnikphbiiaaDoor.C (QRow Turn)
set_option linter.unusedVariables false
set_option linter.unusedSimpArgs false

structure Rf where
  ty : Bs
  rel : Bs
structure Rl where
  name : Bs
  refs : List Rf
  ex : Ex
structure Ty where
  name : Bs
  rels : List Rl
def RefR (x : Rf) (cs : List Value) : Prop := cs = [vs x.ty, vs x.rel]
def refS : P Rf := fun L => match nameS L with
  | .error d => .error d
  | .ok (a, l) => if (hasS [35] l).1 then (match nameS (hasS [35] l).2 with
      | .error d => .error d
      | .ok (b, l) => .ok (⟨a, b⟩, l)) else .ok (⟨a, []⟩, (hasS [35] l).2)
theorem refS_err {L : List Tk} {d : Dg} (h : nameS L = .error d) : refS L = .error d := by unfold refS; rw [h]
theorem refS_one {L l : List Tk} {s : Bs} (h : nameS L = .ok (s, l)) (h2 : (hasS [35] l).1 = false) : refS L = .ok (⟨s, []⟩, (hasS [35] l).2) := by
  unfold refS; rw [h]; dsimp only; rw [h2]; rfl
theorem refS_err2 {L l : List Tk} {s : Bs} {d : Dg} (h : nameS L = .ok (s, l)) (h2 : (hasS [35] l).1 = true) (h3 : nameS (hasS [35] l).2 = .error d) : refS L = .error d := by
  unfold refS; rw [h]; dsimp only; rw [h2, if_pos rfl, h3]
theorem refS_two {L l l2 : List Tk} {s o : Bs} (h : nameS L = .ok (s, l)) (h2 : (hasS [35] l).1 = true) (h3 : nameS (hasS [35] l).2 = .ok (o, l2)) : refS L = .ok (⟨s, o⟩, l2) := by
  unfold refS; rw [h]; dsimp only; rw [h2, if_pos rfl, h3]
theorem less_ref : Less refS := by
  intro L a l h
  unfold refS at h
  split at h
  · cases h
  · rename_i s r hn
    have h1 := less_name L s r hn
    have h2 := hasS_len [35] r
    split at h
    · split at h
      · cases h
      · rename_i o r2 hn2
        cases h
        have := less_name _ _ _ hn2
        omega
    · cases h; omega
def RefRet (_ : World) (a : Rf) (e : Ending) : Prop := e = .returned (.agg #[vs a.ty, vs a.rel])
theorem two_of {w : World} {b : Nat} {x0 x1 : Value} {e : TypeId} (h : w.heap[b]? = some (.cells #[x0, x1] e (0, 0))) :
    w.cell? ⟨b, 0, none⟩ = some x0 ∧ w.cell? ⟨b, 1, none⟩ = some x1 ∧ w.frozen? ⟨b, 0, none⟩ = false ∧ w.frozen? ⟨b, 1, none⟩ = false :=
  ⟨cells_of h 0 _ rfl, cells_of h 1 _ rfl, frz_of h 0, frz_of h 1⟩
theorem set2 {w : World} {b : Nat} {x0 x1 : Value} {e : TypeId} (h : w.heap[b]? = some (.cells #[x0, x1] e (0, 0))) (y0 y1 : Value) :
    ((w.setCell ⟨b, 0, none⟩ y0).setCell ⟨b, 1, none⟩ y1).heap[b]? = some (.cells #[y0, y1] e (0, 0)) :=
  heap_setCell_same _ b 1 _ _ _ (heap_setCell_same w b 0 _ _ _ h)
abbrev Z81 : Array Value := #[.string ⟨#[]⟩, .string ⟨#[]⟩]
theorem exit81 {w V : World} {pb : Nat} {op : Int} {L2 : List Tk} {x : Rf} {z0 z1 : Value} (hpb : pb < w.heap.size) (hA : At pb w V) (hP : PS V pb op L2) (hrb : V.heap[w.heap.size]? = some (.cells #[z0, z1] 81 (0, 0))) :
    Ends pb op w RefRet (.ok (x, L2)) (.returned (.agg #[vs x.ty, vs x.rel])) ((V.setCell ⟨w.heap.size, 0, none⟩ (vs x.ty)).setCell ⟨w.heap.size, 1, none⟩ (vs x.rel)) ∧
    ((V.setCell ⟨w.heap.size, 0, none⟩ (vs x.ty)).setCell ⟨w.heap.size, 1, none⟩ (vs x.rel)).heap[w.heap.size]? = some (.cells #[vs x.ty, vs x.rel] 81 (0, 0)) := by
  refine ⟨⟨(hA.set_new (Nat.le_refl _) 0 _).set_new (Nat.le_refl _) 1 _, rfl, ?_⟩, set2 hrb _ _⟩
  have hne : pb ≠ w.heap.size := Nat.ne_of_lt hpb
  exact hP.kept (by rw [heap_setCell_other _ _ _ _ hne, heap_setCell_other _ _ _ _ hne])
set_option maxRecDepth 100000 in
set_option maxHeartbeats 2000000 in
theorem ref_calls {pb : Nat} {op : Int} {w : World} {L : List Tk} (h : PS w pb op L) : Calls Tryd.prog 73 #[.pointer (some ⟨pb, 0, none⟩)] w (Ends pb op w RefRet (refS L)) := by
  have hlt := h.lt
  have HP := Lib.hid h
  clear h
  go_enter Tryd.func73, Tryd.ntmps73
  go_wp2_with fail
  refine (name_calls (HP.out.kept (alloc_old _ hlt))).mono ?_
  intro e w1 h1
  have hA1 := ((At.refl pb w).alloc_new (.cells Z81 81)).trans h1.1
  have hrb1 := h1.1.kept (heap_alloc_new w (.cells Z81 81)) (Nat.ne_of_gt hlt)
  rcases ends_name h1 with ⟨d, ho, rfl, -⟩ | ⟨s, l1, ho, rfl, -, hP1⟩
  · refine ⟨rfl, hA1, ?_⟩
    rw [refS_err ho]
  · have HO := Lib.hid ho
    have HA1 := Lib.hid hA1
    have HP1 := Lib.hid hP1
    have HRB1 := Lib.hid hrb1
    have hsz1 := lt_of_heap hrb1
    clear h1 hA1 hrb1 ho hP1
    go_wp2_with fail
    refine (has_calls (HP1.out.kept (alloc_old _ HP1.out.lt)) _ [35] rfl (by simp) (by simp)).mono ?_
    rintro e w3 ⟨rfl, hP3, hA3⟩
    have hrb3 := hA3.kept (b := w.heap.size) ((alloc_old _ (lt_of_heap HRB1.out)).trans HRB1.out) (Nat.ne_of_gt hlt)
    have heb3 := hA3.kept (b := w1.heap.size) (heap_alloc_new w1 (.cells #[vs s, vs []] 81)) (by omega)
    have hA3' := (HA1.out.alloc_new (.cells #[vs s, vs []] 81)).trans hA3
    have HA3 := Lib.hid hA3'
    have HP3 := Lib.hid hP3
    have HRB3 := Lib.hid hrb3
    have HEB3 := Lib.hid heb3
    obtain ⟨k0, k1, i0, i1⟩ := two_of heb3
    obtain ⟨q0, q1, j0, j1⟩ := two_of hrb3
    clear hA3 hA3' hP3 hrb3 heb3
    cases hd : (hasS [35] l1).1 with
    | false =>
      have HD := Lib.hid hd
      clear hd
      go_wp2
      obtain ⟨hE, hH⟩ := exit81 (x := ⟨s, []⟩) hlt HA3.out HP3.out HRB3.out
      refine bodyPost_ret (results_cell_row rfl _ _ w.heap.size 81 #[vs s, vs []] (0, 0) _ rfl hH Tryd.underlying81 rfl (by kernel_rfl)) rfl ?_
      rw [refS_one HO.out HD.out]
      exact hE
    | true =>
      have HD := Lib.hid hd
      clear hd
      go_wp2_with fail
      refine (name_calls HP3.out).mono ?_
      intro e w4 h4
      have hA4 := HA3.out.trans h4.1
      have hrb4 := h4.1.kept HRB3.out (Nat.ne_of_gt hlt)
      have heb4 := h4.1.kept HEB3.out (by omega)
      rcases ends_name h4 with ⟨d, hm, rfl, -⟩ | ⟨o, l4, hm, rfl, -, hP4⟩
      · refine ⟨rfl, hA4, ?_⟩
        rw [refS_err2 HO.out HD.out hm]
      · have HM := Lib.hid hm
        have hne1 : w.heap.size ≠ w1.heap.size := by omega
        have hA5 := hA4.set_new (b := w1.heap.size) (by omega) 1 (vs o)
        have hP5 : PS (w4.setCell ⟨w1.heap.size, 1, none⟩ (vs o)) pb op l4 := hP4.kept (by rw [heap_setCell_other _ _ _ _ (by show pb ≠ w1.heap.size; omega)])
        have hrb5 : (w4.setCell ⟨w1.heap.size, 1, none⟩ (vs o)).heap[w.heap.size]? = some (.cells Z81 81 (0, 0)) := by
          rw [heap_setCell_other _ _ _ _ hne1]; exact hrb4
        have HE := Lib.hid (exit81 (x := ⟨s, o⟩) hlt hA5 hP5 hrb5)
        clear h4 hA4 hm hP4 k0 k1 i0 i1 q0 q1 j0 j1 hA5 hP5 hrb5
        obtain ⟨k0, k1, i0, i1⟩ := two_of heb4
        obtain ⟨q0, q1, j0, j1⟩ := two_of hrb4
        clear hrb4 heb4
        go_wp2
        obtain ⟨hE, hH⟩ := HE.out
        refine bodyPost_ret (results_cell_row rfl _ _ w.heap.size 81 #[vs s, vs o] (0, 0) _ rfl hH Tryd.underlying81 rfl (by kernel_rfl)) rfl ?_
        rw [refS_two HO.out HD.out HM.out]
        exact hE
end Go.Proofs.YtgmlcnikphbiiaaDoor.L

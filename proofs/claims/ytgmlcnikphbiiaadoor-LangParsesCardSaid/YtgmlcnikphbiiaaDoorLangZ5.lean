/-
  The document's reader in any state: expr, is, name, must, ref.
-/
import Derived.Test.YtgmlcnikphbiiaaDoorLangZ4
namespace Go.Proofs.YtgmlcnikphbiiaaDoor.L
open Go.RowKit Go.Proofs.YtgmlcnikphbiiaaDoor.B Go.Proofs.YtgmlcnikphbiiaaDoor.S10 Go.Proofs.YtgmlcnikphbiiaaDoor.Nm
open Go.Proofs.YtgmlcnikphbiiaaDoor.C (QRow Turn wpList_append_q)
set_option linter.unusedVariables false
set_option linter.unusedSimpArgs false

theorem rexpr_all {rb : Nat} : ∀ (d : Nat) (op : Int), op + d = 12 → 0 ≤ op → ∀ w L, RO w rb op L →
    Calls Tryd.prog 56 #[.pointer (some ⟨rb, 0, none⟩)] w (EndsR rb op w (ExRet w) (exprS d L))
  | d, op, hd, h0, w, L, h => by
    rw [exprS_eq]
    have hla : Less (atomF (innerS d)) := less_atom (less_inner d)
    have hwa : Low (atomF (innerS d)) := low_atom (low_inner d)
    have hatom : ∀ w L, RO w rb op L → Calls Tryd.prog 87 #[.pointer (some ⟨rb, 0, none⟩)] w (EndsR rb op w (ExRet w) (atomF (innerS d) L)) := fun w L h => by
      refine ratom_calls ⟨h0, by omega⟩ (innerS d) ⟨fun hi => ?_, fun p hi => ?_⟩ h
      · cases d with
        | zero => omega
        | succ d => cases hi
      · cases d with
        | zero => cases hi
        | succ d =>
          cases hi
          exact ⟨by omega, fun w L h => rexpr_all d (op + 1) (by omega) (by omega) w L h⟩
    exact rexpr_calls _ (less_chain hla) (low_chain hwa) (fun w L h => rterm_calls _ hla hwa hatom h) h
abbrev exZ : Value := .agg #[.int .i64 0, .string ⟨#[]⟩, .string ⟨#[]⟩, .slice none 0 0]
theorem RE.head {w : World} {rb : Nat} {op : Int} {d : Dg} (h : RE w rb op d) : ∃ TL at_ op' t, RD w rb TL at_ op' d ∧ TL[at_]? = some t := by
  obtain ⟨h0, TL, at_, op', hd, -⟩ := h
  have hlt : at_ < TL.length := by obtain ⟨_, _, _, _, h, _⟩ := hd; exact h
  exact ⟨TL, at_, op', TL[at_], hd, List.getElem?_eq_getElem hlt⟩
set_option maxRecDepth 100000 in
set_option maxHeartbeats 2000000 in
theorem ratom_err {w : World} {rb : Nat} {op : Int} {d : Dg} (h : RE w rb op d) : Calls Tryd.prog 87 #[.pointer (some ⟨rb, 0, none⟩)] w fun e w' => e = .returned exZ ∧ Below w.heap.size w w' := by
  have hlt := h.lt
  have h0 := h.below ((Below.refl _ w).alloc (Nat.le_refl _) (.cells #[.int .i64 0, .string ⟨#[]⟩, .string ⟨#[]⟩, .slice none 0 0] 38))
  obtain ⟨TL, at_, op', t, hd, ht⟩ := h0.head
  have H0 := Lib.hid h0
  have HD := Lib.hid hd
  have HT := Lib.hid ht
  clear h h0 hd ht
  go_enter Tryd.func87, Tryd.ntmps87
  go_wp2_with fail
  refine (next_calls HD.out HT.out).mono ?_
  rintro e w1 ⟨rfl, hb1⟩
  have hrb1 := (hb1.block w.heap.size (by simp)).trans (heap_alloc_new w (.cells #[.int .i64 0, .string ⟨#[]⟩, .string ⟨#[]⟩, .slice none 0 0] 38))
  have HB1 := Lib.hid (keepB ((Below.refl _ w).alloc (Nat.le_refl _) _) hb1)
  have HRB1 := Lib.hid hrb1
  have HE1 := Lib.hid ((H0.out.below hb1).below ((Below.refl _ w1).alloc (Nat.le_refl _) (.cells #[vs t.s, .int .i64 t.line, .int .i64 t.col] 67)))
  clear hb1 hrb1
  go_wp2_with fail
  refine (is_err HE1.out _).mono ?_
  rintro e w2 ⟨rfl, hb2⟩
  have hrb2 := (hb2.block w.heap.size (by have := lt_of_heap HRB1.out; simp; omega)).trans ((alloc_old _ (lt_of_heap HRB1.out)).trans HRB1.out)
  have HB2 := Lib.hid (keepB (belAlloc HB1.out _) hb2)
  have HE2 := Lib.hid (HE1.out.below hb2)
  have HRB2 := Lib.hid hrb2
  clear hb2 hrb2
  go_wp2_with fail
  refine (rname_err HE2.out).mono ?_
  rintro e w3 ⟨rfl, hb3⟩
  have HB3 := Lib.hid (keepB HB2.out hb3)
  have HE3 := Lib.hid (HE2.out.below hb3)
  have HRB3 := Lib.hid ((hb3.block w.heap.size (lt_of_heap HRB2.out)).trans HRB2.out)
  clear hb3
  go_wp2_with fail
  refine (is_err HE3.out _).mono ?_
  rintro e w4 ⟨rfl, hb4⟩
  have hrb4 := (hb4.block w.heap.size (lt_of_heap HRB3.out)).trans HRB3.out
  obtain ⟨q0, q1, q2, q3, j0, j1, j2, j3⟩ := four_of hrb4
  have HB4 := Lib.hid (keepB HB3.out hb4)
  have HRB4 := Lib.hid hrb4
  clear hb4 hrb4
  go_wp2
  refine bodyPost_ret (results_cell_row rfl _ _ w.heap.size 38 #[.int .i64 0, .string ⟨#[]⟩, .string ⟨#[]⟩, .slice none 0 0] (0, 0) _ rfl (set4 HRB4.out _ _ _ _) Tryd.underlying38 rfl (by kernel_rfl)) rfl ?_
  exact ⟨rfl, (((HB4.out.setCell (Nat.le_refl _) _).setCell (Nat.le_refl _) _).setCell (Nat.le_refl _) _).setCell (Nat.le_refl _) _⟩
set_option maxRecDepth 100000 in
set_option maxHeartbeats 2000000 in
theorem rterm_err {w : World} {rb : Nat} {op : Int} {d : Dg} (h : RE w rb op d) : Calls Tryd.prog 74 #[.pointer (some ⟨rb, 0, none⟩)] w fun e w' => e = .returned exZ ∧ Below w.heap.size w w' := by
  have hlt := h.lt
  have H0 := Lib.hid (h.below ((Below.refl _ w).alloc (Nat.le_refl _) (.cells #[.int .i64 0, .string ⟨#[]⟩, .string ⟨#[]⟩, .slice none 0 0] 38)))
  have HWB := Lib.hid h
  clear h
  go_enter Tryd.func74, Tryd.ntmps74
  go_wp2_with fail
  refine (ratom_err H0.out).mono ?_
  rintro e w1 ⟨rfl, hb1⟩
  have hrb1 := (hb1.block w.heap.size (by simp)).trans (heap_alloc_new w (.cells #[.int .i64 0, .string ⟨#[]⟩, .string ⟨#[]⟩, .slice none 0 0] 38))
  have HB1 := Lib.hid (keepB ((Below.refl _ w).alloc (Nat.le_refl _) _) hb1)
  have HRB1 := Lib.hid hrb1
  have HE1 := Lib.hid (H0.out.below hb1)
  clear hb1 hrb1
  have hbe1 := heap_alloc_new w1 (.cells #[.int .i64 0, .string ⟨#[]⟩, .string ⟨#[]⟩, .slice none 0 0] 38)
  go_wp2_with fail
  go_loopg [] 0 (fun k wr => wr = w1.alloc (.cells #[.int .i64 0, .string ⟨#[]⟩, .string ⟨#[]⟩, .slice none 0 0] 38))
  case atStart => rfl
  case round =>
    subst hrel
    have hE2 := HE1.out.below ((Below.refl _ w1).alloc (Nat.le_refl _) (.cells #[.int .i64 0, .string ⟨#[]⟩, .string ⟨#[]⟩, .slice none 0 0] 38))
    obtain ⟨e1, e2⟩ := hE2.ne
    obtain ⟨-, -, -, c5, -⟩ := hE2.cell
    obtain ⟨b0, b1, b2, b3, -⟩ := four_of hbe1
    have hrb2 := (alloc_old (.cells #[.int .i64 0, .string ⟨#[]⟩, .string ⟨#[]⟩, .slice none 0 0] 38) (lt_of_heap HRB1.out)).trans HRB1.out
    obtain ⟨q0, q1, q2, q3, j0, j1, j2, j3⟩ := four_of hrb2
    have HRB2 := Lib.hid hrb2
    have HB2 := Lib.hid (belAlloc HB1.out (.cells #[.int .i64 0, .string ⟨#[]⟩, .string ⟨#[]⟩, .slice none 0 0] 38))
    clear hrb2 hbe1 hE2
    generalize w1.alloc (.cells #[.int .i64 0, .string ⟨#[]⟩, .string ⟨#[]⟩, .slice none 0 0] 38) = W at *
    go_wp2
    refine bodyPost_ret (results_cell_row rfl _ _ w.heap.size 38 #[.int .i64 0, .string ⟨#[]⟩, .string ⟨#[]⟩, .slice none 0 0] (0, 0) _ rfl (set4 HRB2.out _ _ _ _) Tryd.underlying38 rfl (by kernel_rfl)) rfl ?_
    exact ⟨rfl, (((HB2.out.setCell (Nat.le_refl _) _).setCell (Nat.le_refl _) _).setCell (Nat.le_refl _) _).setCell (Nat.le_refl _) _⟩
set_option maxRecDepth 100000 in
set_option maxHeartbeats 2000000 in
theorem rexpr_err {w : World} {rb : Nat} {op : Int} {d : Dg} (h : RE w rb op d) : Calls Tryd.prog 56 #[.pointer (some ⟨rb, 0, none⟩)] w fun e w' => e = .returned exZ ∧ Below w.heap.size w w' := by
  have hlt := h.lt
  have H0 := Lib.hid (h.below ((Below.refl _ w).alloc (Nat.le_refl _) (.cells #[.int .i64 0, .string ⟨#[]⟩, .string ⟨#[]⟩, .slice none 0 0] 38)))
  have HWB := Lib.hid h
  clear h
  go_enter Tryd.func56, Tryd.ntmps56
  go_wp2_with fail
  refine (rterm_err H0.out).mono ?_
  rintro e w1 ⟨rfl, hb1⟩
  have hrb1 := (hb1.block w.heap.size (by simp)).trans (heap_alloc_new w (.cells #[.int .i64 0, .string ⟨#[]⟩, .string ⟨#[]⟩, .slice none 0 0] 38))
  have HB1 := Lib.hid (keepB ((Below.refl _ w).alloc (Nat.le_refl _) _) hb1)
  have HRB1 := Lib.hid hrb1
  have HE1 := Lib.hid (H0.out.below hb1)
  clear hb1 hrb1
  have hbe1 := heap_alloc_new w1 (.cells #[.int .i64 0, .string ⟨#[]⟩, .string ⟨#[]⟩, .slice none 0 0] 38)
  go_wp2_with fail
  go_loopg [] 0 (fun k wr => wr = w1.alloc (.cells #[.int .i64 0, .string ⟨#[]⟩, .string ⟨#[]⟩, .slice none 0 0] 38))
  case atStart => rfl
  case round =>
    subst hrel
    have hE2 := HE1.out.below ((Below.refl _ w1).alloc (Nat.le_refl _) (.cells #[.int .i64 0, .string ⟨#[]⟩, .string ⟨#[]⟩, .slice none 0 0] 38))
    obtain ⟨e1, e2⟩ := hE2.ne
    obtain ⟨-, -, -, c5, -⟩ := hE2.cell
    obtain ⟨b0, b1, b2, b3, -⟩ := four_of hbe1
    have hrb2 := (alloc_old (.cells #[.int .i64 0, .string ⟨#[]⟩, .string ⟨#[]⟩, .slice none 0 0] 38) (lt_of_heap HRB1.out)).trans HRB1.out
    obtain ⟨q0, q1, q2, q3, j0, j1, j2, j3⟩ := four_of hrb2
    have HRB2 := Lib.hid hrb2
    have HB2 := Lib.hid (belAlloc HB1.out (.cells #[.int .i64 0, .string ⟨#[]⟩, .string ⟨#[]⟩, .slice none 0 0] 38))
    clear hrb2 hbe1 hE2
    generalize w1.alloc (.cells #[.int .i64 0, .string ⟨#[]⟩, .string ⟨#[]⟩, .slice none 0 0] 38) = W at *
    go_wp2
    refine bodyPost_ret (results_cell_row rfl _ _ w.heap.size 38 #[.int .i64 0, .string ⟨#[]⟩, .string ⟨#[]⟩, .slice none 0 0] (0, 0) _ rfl (set4 HRB2.out _ _ _ _) Tryd.underlying38 rfl (by kernel_rfl)) rfl ?_
    exact ⟨rfl, (((HB2.out.setCell (Nat.le_refl _) _).setCell (Nat.le_refl _) _).setCell (Nat.le_refl _) _).setCell (Nat.le_refl _) _⟩
/-! ### in any state -/
def stp {α : Type} (p : P α) : Except Dg (List Tk) → Except Dg (List Tk)
  | .error d => .error d
  | .ok L => match p L with
    | .error d => .error d
    | .ok (_, l) => .ok l
theorem stp_err {α : Type} {p : P α} {L : List Tk} {d : Dg} (h : p L = .error d) : stp p (.ok L) = .error d := by show (match p L with | .error d => _ | .ok (_, l) => _) = _; rw [h]
theorem stp_ok {α : Type} {p : P α} {L l : List Tk} {a : α} (h : p L = .ok (a, l)) : stp p (.ok L) = .ok l := by show (match p L with | .error d => _ | .ok (_, l) => _) = _; rw [h]
/-- how a call ends, whatever the state ahead. -/
def Any {α : Type} (rb : Nat) (op : Int) (w : World) (V : World → α → Ending → Prop) (p : P α) (r : Except Dg (List Tk)) (e : Ending) (w' : World) : Prop :=
  ∃ a, V w' a e ∧ At rb w w' ∧ St w' rb op (stp p r) ∧ ∀ L a' l, r = .ok L → p L = .ok (a', l) → a = a'
theorem any_of {α : Type} {rb : Nat} {op : Int} {w : World} {V : World → α → Ending → Prop} {p : P α} {L : List Tk} {e : Ending} {w' : World} (h : EndsR rb op w V (p L) e w') : Any rb op w V p (.ok L) e w' := by
  obtain ⟨hA, hR⟩ := h
  cases hp : p L with
  | error d =>
    rw [hp] at hR
    obtain ⟨⟨a, ha⟩, hE⟩ := hR
    exact ⟨a, ha, hA, by rw [stp_err hp]; exact hE, fun L' a' l h1 h2 => by cases h1; rw [hp] at h2; cases h2⟩
  | ok q =>
    obtain ⟨a, l⟩ := q
    rw [hp] at hR
    exact ⟨a, hR.1, hA, by rw [stp_ok hp]; exact hR.2, fun L' a' l' h1 h2 => by cases h1; rw [hp] at h2; cases h2; rfl⟩
def isR (q : Bs) : Except Dg (List Tk) → Bool × Except Dg (List Tk)
  | .error d => (false, .error d)
  | .ok L => ((hasS q L).1, .ok (hasS q L).2)
theorem is_any {w : World} {rb : Nat} {op : Int} (r : Except Dg (List Tk)) (h : St w rb op r) (s : ByteArray) (q : Bs) (hs : s = ⟨q.toArray⟩) (h0 : q ≠ []) (h1 : q ≠ [63]) :
    Calls Tryd.prog 26 #[.pointer (some ⟨rb, 0, none⟩), .string s] w
      fun e w' => e = .returned (.bool (isR q r).1) ∧ St w' rb op (isR q r).2 ∧ At rb w w' := by
  cases r with
  | error d => exact (is_err (show RE w rb op d from h) s).mono fun e w' ⟨he, hb⟩ => ⟨he, RE.below (show RE w rb op d from h) hb, at_below hb⟩
  | ok L => exact is_calls (show RO w rb op L from h) s q hs h0 h1
theorem name_any {w : World} {rb : Nat} {op : Int} (r : Except Dg (List Tk)) (h : St w rb op r) : Calls Tryd.prog 27 #[.pointer (some ⟨rb, 0, none⟩)] w (Any rb op w VN nameS r) := by
  cases r with
  | error d => exact (rname_err (show RE w rb op d from h)).mono fun e w' ⟨he, hb⟩ => ⟨[], he, at_below hb, RE.below (show RE w rb op d from h) hb, fun _ _ _ h => by cases h⟩
  | ok L => exact (rname_calls (show RO w rb op L from h)).mono fun e w' h => any_of h
theorem must_any {w : World} {rb : Nat} {op : Int} (r : Except Dg (List Tk)) (h : St w rb op r) (s : ByteArray) (q : Bs) (hs : s = ⟨q.toArray⟩) (h0 : q ≠ []) (h1 : q ≠ [63]) :
    Calls Tryd.prog 54 #[.pointer (some ⟨rb, 0, none⟩), .string s] w (Any rb op w VU (mustS q) r) := by
  cases r with
  | error d => exact (rmust_err (show RE w rb op d from h) s).mono fun e w' ⟨he, hb⟩ => ⟨(), he, at_below hb, RE.below (show RE w rb op d from h) hb, fun _ _ _ h => by cases h⟩
  | ok L => exact (rmust_calls (show RO w rb op L from h) s q hs h0 h1).mono fun e w' h => any_of h
theorem expr_any {w : World} {rb : Nat} (r : Except Dg (List Tk)) (h : St w rb 0 r) : Calls Tryd.prog 56 #[.pointer (some ⟨rb, 0, none⟩)] w (Any rb 0 w (ExRet w) (exprS 12) r) := by
  cases r with
  | error d => exact (rexpr_err (show RE w rb 0 d from h)).mono fun e w' ⟨he, hb⟩ => ⟨leaf 0 [] [], ⟨_, he, leaf_V _ _ 0 [] []⟩, at_below hb, RE.below (show RE w rb 0 d from h) hb, fun _ _ _ h => by cases h⟩
  | ok L => exact (rexpr_all 12 0 rfl (by omega) w L (show RO w rb 0 L from h)).mono fun e w' h => any_of h
theorem St.turn {S : Nat → Prop} {w w' : World} {rb : Nat} {op : Int} {r : Except Dg (List Tk)} (h : St w rb op r) (hT : Turn S w w') (hS : ∀ b, b ≤ rb → ¬ S b) : St w' rb op r := by
  cases r with
  | error d => exact RE.turn h hT hS
  | ok L => exact RO.turn h hT hS
theorem St.below {w w' : World} {rb : Nat} {op : Int} {r : Except Dg (List Tk)} (h : St w rb op r) (hb : Below w.heap.size w w') : St w' rb op r := h.turn (turn_below hb) (fun _ _ h => h)
theorem St.lt {w : World} {rb : Nat} {op : Int} {r : Except Dg (List Tk)} (h : St w rb op r) : rb < w.heap.size := by
  cases r with
  | error d => exact RE.lt h
  | ok L => exact RO.lt h
theorem St.alloc {w : World} {rb : Nat} {op : Int} {r : Except Dg (List Tk)} (h : St w rb op r) (o : Obj) : St (w.alloc o) rb op r := h.below ((Below.refl _ w).alloc (Nat.le_refl _) o)
theorem St.drew {w : World} {rb : Nat} {op : Int} {r : Except Dg (List Tk)} (h : St w rb op r) : St w.drew rb op r := h.below (below_drewN (Below.refl _ _) 1)
end Go.Proofs.YtgmlcnikphbiiaaDoor.L

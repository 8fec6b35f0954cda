/-
  The document's reader: two in any state; term.
-/
import Derived.Test.YtgmlcnikphbiiaaDoorLangZ
namespace Go.Proofs.YtgmlcnikphbiiaaDoor.L
open Go.RowKit Go.Proofs.YtgmlcnikphbiiaaDoor.B Go.Proofs.YtgmlcnikphbiiaaDoor.S10 Go.Proofs.YtgmlcnikphbiiaaDoor.Nm
open Go.Proofs.YtgmlcnikphbiiaaDoor.C (QRow Turn wpList_append_q)
set_option linter.unusedVariables false
set_option linter.unusedSimpArgs false

set_option maxRecDepth 100000 in
set_option maxHeartbeats 2000000 in
theorem two_err {w : World} {rb : Nat} {op : Int} {d : Dg} (h : RE w rb op d) (F : Nat → Prop) (k : Int) (t : Tk) (x y : Ex) (kx : Int) (ax bx : Bs) (Ax : Option Addr) (nx cx : Nat) (ky : Int) (ay by_ : Bs) (Ay : Option Addr) (ny cy : Nat)
    (hx : ExV w F x (exAgg kx ax bx Ax nx cx)) (hy : ExV w F y (exAgg ky ay by_ Ay ny cy)) :
    Calls Tryd.prog 75 #[.pointer (some ⟨rb, 0, none⟩), .int .i64 k, tkAgg t, exAgg kx ax bx Ax nx cx, exAgg ky ay by_ Ay ny cy] w
      (fun e w' => VTwo F w w' (two k x y) e ∧ Below w.heap.size w w') := by
  have hrl := h.lt
  obtain ⟨h0, TL, at_, op', hd, -⟩ := h
  obtain ⟨hB6, -⟩ := six_alloc w _ _ _ _ _ _ _ _ _ _ _ _ (W := ((((((w.alloc (.cells #[vs t.s, .int .i64 t.line, .int .i64 t.col] 67)).alloc (.cells #[.int .i64 kx, vs ax, vs bx, .slice Ax nx cx] 38)).alloc (.cells #[.int .i64 ky, vs ay, vs by_, .slice Ay ny cy] 38)).alloc (.cells #[.int .i64 0, .string ⟨#[]⟩, .string ⟨#[]⟩, .slice none 0 0] 38)).alloc
      (.cells #[.int .i64 kx, vs ax, vs bx, .slice Ax nx cx, .int .i64 ky, vs ay, vs by_, .slice Ay ny cy] 38)).alloc (.cells #[.int .i64 k, .string ⟨#[]⟩, .string ⟨#[]⟩, .slice (some ⟨w.heap.size + 1 + 1 + 1 + 1, 0, none⟩) 2 2] 38))) rfl
  obtain ⟨hB7, -, -, r3, r4, -⟩ := six_alloc w _ _ _ _ _ _ _ _ _ _ _ _ (W := ((((((w.alloc (.cells #[vs t.s, .int .i64 t.line, .int .i64 t.col] 67)).alloc (.cells #[.int .i64 kx, vs ax, vs bx, .slice Ax nx cx] 38)).alloc (.cells #[.int .i64 ky, vs ay, vs by_, .slice Ay ny cy] 38)).alloc (.cells #[.int .i64 k, .string ⟨#[]⟩, .string ⟨#[]⟩, .slice (some ⟨w.heap.size + 1 + 1 + 1 + 1, 0, none⟩) 2 2] 38)).alloc
      (.cells #[.int .i64 kx, vs ax, vs bx, .slice Ax nx cx, .int .i64 ky, vs ay, vs by_, .slice Ay ny cy] 38)).alloc (.cells #[.int .i64 k, .string ⟨#[]⟩, .string ⟨#[]⟩, .slice (some ⟨w.heap.size + 1 + 1 + 1 + 1, 0, none⟩) 2 2] 38))) rfl
  have hT : ExV ((((((w.alloc (.cells #[vs t.s, .int .i64 t.line, .int .i64 t.col] 67)).alloc (.cells #[.int .i64 kx, vs ax, vs bx, .slice Ax nx cx] 38)).alloc (.cells #[.int .i64 ky, vs ay, vs by_, .slice Ay ny cy] 38)).alloc (.cells #[.int .i64 k, .string ⟨#[]⟩, .string ⟨#[]⟩, .slice (some ⟨w.heap.size + 1 + 1 + 1 + 1, 0, none⟩) 2 2] 38)).alloc
      (.cells #[.int .i64 kx, vs ax, vs bx, .slice Ax nx cx, .int .i64 ky, vs ay, vs by_, .slice Ay ny cy] 38)).alloc (.cells #[.int .i64 k, .string ⟨#[]⟩, .string ⟨#[]⟩, .slice (some ⟨w.heap.size + 1 + 1 + 1 + 1, 0, none⟩) 2 2] 38)) (fun b => F b ∨ w.heap.size ≤ b) (two k x y) (.agg #[.int .i64 k, .string ⟨#[]⟩, .string ⟨#[]⟩, .slice (some ⟨w.heap.size + 1 + 1 + 1 + 1, 0, none⟩) 2 2]) :=
    two_V ((hx.below hB7).mono (fun b hb _ => .inl hb)) ((hy.below hB7).mono (fun b hb _ => .inl hb)) (.inr (by omega)) r4
  obtain ⟨A6, c6, hg6, -⟩ := hd.below hB6
  obtain ⟨-, -, -, -, -, g56, -⟩ := six_of hg6
  have HT := Lib.hid hT
  have HB7 := Lib.hid hB7
  have H3 := Lib.hid r3
  have e1 : (d.e == 0) = false := by simpa using h0
  have e2 : (d.e != 0) = true := by simpa using h0
  clear hd hg6 hx hy hT hB6 hB7 r3 r4 h0
  go_enter Tryd.func75, Tryd.ntmps75
  go_wp2
  exact bodyPost_ret (results_cell_row rfl _ _ (w.heap.size + 3) 38 #[.int .i64 k, .string ⟨#[]⟩, .string ⟨#[]⟩, .slice (some ⟨w.heap.size + 1 + 1 + 1 + 1, 0, none⟩) 2 2] (0, 0) _ rfl H3.out Tryd.underlying38 rfl (by kernel_rfl)) rfl ⟨⟨_, rfl, HT.out⟩, HB7.out⟩
/-- the state behind a call of one. -/
def St (w : World) (rb : Nat) (op : Int) : Except Dg (List Tk) → Prop
  | .error d => RE w rb op d
  | .ok L => RO w rb op L
def twoSt (k : Int) (x y : Ex) (t : Tk) : Except Dg (List Tk) → Except Dg (List Tk)
  | .error d => .error d
  | .ok L => if (two k x y).height > 12 then .error ⟨t.line, t.col, 9⟩ else .ok L
theorem two_any {w : World} {rb : Nat} {op : Int} (r : Except Dg (List Tk)) (h : St w rb op r) (F : Nat → Prop) (hF : ∀ b, F b → b ≠ rb) (k : Int) (t : Tk) (x y : Ex) (kx : Int) (ax bx : Bs) (Ax : Option Addr) (nx cx : Nat) (ky : Int) (ay by_ : Bs) (Ay : Option Addr) (ny cy : Nat)
    (hx : ExV w F x (exAgg kx ax bx Ax nx cx)) (hy : ExV w F y (exAgg ky ay by_ Ay ny cy)) (hl : ∀ L, r = .ok L → x.height ≤ 12 ∧ y.height ≤ 12) :
    Calls Tryd.prog 75 #[.pointer (some ⟨rb, 0, none⟩), .int .i64 k, tkAgg t, exAgg kx ax bx Ax nx cx, exAgg ky ay by_ Ay ny cy] w
      (fun e w' => ∃ z k' a b A n c, e = .returned (exAgg k' a b A n c) ∧ At rb w w' ∧ ExV w' (fun b => F b ∨ w.heap.size ≤ b) z (exAgg k' a b A n c) ∧ St w' rb op (twoSt k x y t r) ∧ (∀ L, twoSt k x y t r = .ok L → z = two k x y ∧ r = .ok L ∧ ¬ (two k x y).height > 12)) := by
  cases r with
  | error d =>
    refine (two_err h F k t x y kx ax bx Ax nx cx ky ay by_ Ay ny cy hx hy).mono ?_
    rintro e w' ⟨⟨v, he, hV⟩, hb⟩
    obtain ⟨k', a, b, A, n, c, rfl⟩ := hV.form
    exact ⟨_, k', a, b, A, n, c, he, at_below hb, hV, RE.below (show RE w rb op d from h) hb, fun L hL => by cases hL⟩
  | ok L =>
    obtain ⟨h1, h2⟩ := hl L rfl
    refine (two_calls (show RO w rb op L from h) F hF k t x y kx ax bx Ax nx cx ky ay by_ Ay ny cy hx hy h1 h2).mono ?_
    rintro e w' ⟨hA, hR⟩
    by_cases h12 : (two k x y).height > 12
    · rw [if_pos h12] at hR
      obtain ⟨⟨z, v, he, hV⟩, hE⟩ := hR
      obtain ⟨k', a, b, A, n, c, rfl⟩ := hV.form
      have e1 : twoSt k x y t (.ok L) = .error ⟨t.line, t.col, 9⟩ := by show (if _ then _ else _) = _; rw [if_pos h12]
      rw [e1]
      exact ⟨_, k', a, b, A, n, c, he, hA, hV, hE, fun L hL => by cases hL⟩
    · rw [if_neg h12] at hR
      obtain ⟨⟨v, he, hV⟩, hP⟩ := hR
      obtain ⟨k', a, b, A, n, c, rfl⟩ := hV.form
      have e1 : twoSt k x y t (.ok L) = .ok L := by show (if _ then _ else _) = _; rw [if_neg h12]
      rw [e1]
      exact ⟨_, k', a, b, A, n, c, he, hA, hV, hP, fun L' hL => by cases hL; exact ⟨rfl, rfl, h12⟩⟩
/-- between two rounds. -/
def TI (rb : Nat) (op : Int) (S : Bs) (K : Bs → Int) (one : P Ex) (w : World) (be : Nat) (tot : R Ex) (k : Nat) (wr : World) : Prop :=
  ∃ (e : Ex) (kk : Int) (aa bb : Bs) (AA : Option Addr) (nn cc : Nat), wr.heap[be]? = some (.cells #[.int .i64 kk, vs aa, vs bb, .slice AA nn cc] 38 (0, 0)) ∧
    ExV wr (fun b => w.heap.size < b ∧ b ≠ be) e (exAgg kk aa bb AA nn cc) ∧ At rb w wr ∧ wr.heap[w.heap.size]? = some (.cells #[.int .i64 0, .string ⟨#[]⟩, .string ⟨#[]⟩, .slice none 0 0] 38 (0, 0)) ∧
    ((∃ d, RE wr rb op d ∧ tot = .error d ∧ k = 0) ∨ (∃ L', RO wr rb op L' ∧ tot = chainGo S K one L'.length e L' ∧ k = L'.length + 1 ∧ e.height ≤ 12))
theorem field67 (s : Bs) (a b : Int) (w : World) : Sem.run Tryd.prog (Instr.field 67 (.agg #[vs s, .int .i64 a, .int .i64 b]) 0) w = .ok (vs s) w := by kernel_rfl
theorem next_open {w : World} {rb : Nat} {TL : List Tk} {at_ : Nat} {op : Int} {d : Dg} (h : RD w rb TL at_ op d) {t : Tk} (ht : TL[at_]? = some t) :
    Calls Tryd.prog 29 #[.pointer (some ⟨rb, 0, none⟩)] w fun e w' => e = .returned (.agg #[vs t.s, .int .i64 t.line, .int .i64 t.col]) ∧ Below w.heap.size w w' := next_calls h ht
theorem RE.ne {w : World} {rb : Nat} {op : Int} {d : Dg} (h : RE w rb op d) : (d.e == 0) = false ∧ (d.e != 0) = true := ⟨by simpa using h.1, by simpa using h.1⟩
end Go.Proofs.YtgmlcnikphbiiaaDoor.L

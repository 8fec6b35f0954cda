/-
  The parser's relations: the plain words.
-/
import Derived.Test.YtgmlcnikphbiiaaDoorLangJ
import Derived.Laws.ResultCell
import Derived.Handy
namespace Go.Proofs.YtgmlcnikphbiiaaDoor.L
open Go.RowKit Go.Proofs.YtgmlcnikphbiiaaDoor.B
open Go.Proofs.YtgmlcnikphbiiaaDoor.C (QRow Turn)
set_option linter.unusedVariables false
set_option linter.unusedSimpArgs false

theorem tokens_len (l : Bs) (line col : Int) : (tokens l line col).length ≤ l.length + 1 := by
  have : ∀ (f : Nat) (l : Bs) (line col : Int), (toks f l line col).length ≤ l.length + 1 := by
    intro f
    induction f with
    | zero => intro l line col; simp [toks]
    | succ f ih =>
      intro l line col
      have hl := skip_len l line col
      unfold toks
      revert hl
      generalize skip l line col = p
      obtain ⟨r, line', col'⟩ := p
      intro hl
      cases r with
      | nil => simp
      | cons c r =>
        dsimp only at hl ⊢
        split
        · simp
        · rename_i ht
          have hn := tokN_le (c :: r)
          have := ih ((c :: r).drop (tokN (c :: r))) line' (col' + tokN (c :: r))
          rw [List.length_drop] at this
          simp only [List.length_cons] at this hl hn ⊢
          omega
  exact this _ _ _ _
theorem PS.len {w : World} {pb : Nat} {op : Int} {L : List Tk} (h : PS w pb op L) : L.length ≤ 4098 := by
  obtain ⟨r, line, col, t, l', rfl, h2, h3, h4, h5⟩ := h
  rcases h3 with h3 | h3 | h3
  · rw [h3.2.2]; simp
  · rw [h3.2.2]; simp
  · have := tokens_len r line col
    rw [h3.2.2]; simp; omega
theorem less1_name {L : List Tk} {a : Bs} {l : List Tk} (h : nameS L = .ok (a, l)) : l.length < L.length := by
  cases L with
  | nil => cases h
  | cons t r =>
    unfold nameS at h
    dsimp only at h
    split at h
    · cases h; exact Nat.lt_succ_self _
    · cases h
theorem less1_ref {L : List Tk} {a : Rf} {l : List Tk} (h : refS L = .ok (a, l)) : l.length < L.length := by
  unfold refS at h
  split at h
  · cases h
  · rename_i s r hn
    have h1 := less1_name hn
    have h2 := hasS_len [35] r
    split at h
    · split at h
      · cases h
      · rename_i o r2 hn2
        cases h
        have := less_name _ _ _ hn2
        omega
    · cases h; omega
theorem hasS_less {s : Bs} {L : List Tk} (h : (hasS s L).1 = true) : (hasS s L).2.length < L.length := by
  cases L with
  | nil => cases h
  | cons t l =>
    rw [hasS_cons] at h ⊢
    split at h
    · rename_i h0; rw [if_pos h0]; exact Nat.lt_succ_self _
    · cases h
def refsGo : Nat → List Rf → P (List Rf)
  | 0, _, L => failsL 8 L
  | f + 1, acc, L => match refS L with
    | .error d => .error d
    | .ok (x, l) => if (hasS [124] l).1 then refsGo f (acc ++ [x]) (hasS [124] l).2 else .ok (acc ++ [x], (hasS [124] l).2)
def refsS : P (List Rf) := fun L => refsGo (L.length + 1) [] L
theorem refsGo_err {f : Nat} {acc : List Rf} {L : List Tk} {d : Dg} (h : refS L = .error d) : refsGo (f + 1) acc L = .error d := by rw [refsGo, h]
theorem refsGo_end {f : Nat} {acc : List Rf} {L l : List Tk} {x : Rf} (h : refS L = .ok (x, l)) (h2 : (hasS [124] l).1 = false) : refsGo (f + 1) acc L = .ok (acc ++ [x], (hasS [124] l).2) := by
  rw [refsGo, h]; dsimp only; rw [h2]; rfl
theorem refsGo_fuel : ∀ (f g : Nat) (acc : List Rf) (L : List Tk), L.length < f → L.length < g → refsGo f acc L = refsGo g acc L
  | 0, _, _, _, h, _ => by omega
  | _ + 1, 0, _, _, _, h => by omega
  | f + 1, g + 1, acc, L, h1, h2 => by
    rw [refsGo, refsGo]
    cases hr : refS L with
    | error d => rfl
    | ok p =>
      obtain ⟨x, l⟩ := p
      dsimp only
      have h3 := less1_ref hr
      have h4 := hasS_len [124] l
      rw [refsGo_fuel f g _ _ (by omega) (by omega)]
theorem refsGo_on {f : Nat} {acc : List Rf} {L l : List Tk} {x : Rf} (hf : L.length ≤ f) (h : refS L = .ok (x, l)) (h2 : (hasS [124] l).1 = true) : refsGo (f + 1) acc L = refsGo ((hasS [124] l).2.length + 1) (acc ++ [x]) (hasS [124] l).2 := by
  have h3 := less1_ref h
  have h4 := hasS_len [124] l
  rw [refsGo, h]; dsimp only; rw [h2, if_pos rfl]
  exact refsGo_fuel _ _ _ _ (by omega) (by omega)
theorem refsGo_less : ∀ (f : Nat) (acc : List Rf), Less (refsGo f acc)
  | 0, acc, L, a, l, h => by unfold refsGo failsL at h; split at h <;> cases h
  | f + 1, acc, L, a, l, h => by
    rw [refsGo] at h
    split at h
    · cases h
    · rename_i x r hx
      have h3 := less1_ref hx
      have h4 := hasS_len [124] r
      split at h
      · have := refsGo_less f _ _ _ _ h
        omega
      · cases h; omega
abbrev sRelation : Bs := [114, 101, 108, 97, 116, 105, 111, 110]
abbrev sDefine : Bs := [100, 101, 102, 105, 110, 101]
def relTail (told : Bool) (s : Bs) : P (Option Rl) := fun l =>
  if told then (match refsS l with
    | .error d => .error d
    | .ok (rs, l) => .ok (some ⟨s, rs, leaf 0 [] []⟩, l))
  else (match exprS 12 l with
    | .error d => .error d
    | .ok (e, l) => .ok (some ⟨s, [], e⟩, l))
def relHead (told : Bool) : P (Option Rl) := fun l => match nameS l with
  | .error d => .error d
  | .ok (s, l) => match mustS [58] l with
    | .error d => .error d
    | .ok (_, l) => relTail told s l
def relS : P (Option Rl)
  | [] => .ok (none, [])
  | t :: l => if t.s == sRelation || t.s == sDefine then relHead (t.s == sRelation) l else .ok (none, t :: l)
theorem relS_cons (t : Tk) (l : List Tk) : relS (t :: l) = if t.s == sRelation || t.s == sDefine then relHead (t.s == sRelation) l else .ok (none, t :: l) := rfl
theorem relHead_err {b : Bool} {L : List Tk} {d : Dg} (h : nameS L = .error d) : relHead b L = .error d := by unfold relHead; rw [h]
theorem relHead_err2 {b : Bool} {L l : List Tk} {s : Bs} {d : Dg} (h : nameS L = .ok (s, l)) (h2 : mustS [58] l = .error d) : relHead b L = .error d := by unfold relHead; rw [h]; dsimp only; rw [h2]
theorem relHead_ok {b : Bool} {L l l2 : List Tk} {s : Bs} (h : nameS L = .ok (s, l)) (h2 : mustS [58] l = .ok ((), l2)) : relHead b L = relTail b s l2 := by unfold relHead; rw [h]; dsimp only; rw [h2]
theorem less_relTail (b : Bool) (s : Bs) : Less (relTail b s) := by
  intro L a l h
  unfold relTail at h
  split at h
  · split at h
    · cases h
    · rename_i rs r hr
      cases h
      exact refsGo_less _ _ _ _ _ hr
  · split at h
    · cases h
    · rename_i e r hr
      cases h
      exact less_expr _ _ _ _ hr
theorem less1_rel {L : List Tk} {x : Rl} {l : List Tk} (h : relS L = .ok (some x, l)) : l.length < L.length := by
  cases L with
  | nil => cases h
  | cons t r =>
    rw [relS_cons] at h
    split at h
    · unfold relHead at h
      split at h
      · cases h
      · rename_i s r1 h1
        split at h
        · cases h
        · rename_i u r2 h2
          have := less_name _ _ _ h1
          have := less_must _ _ _ _ h2
          have := less_relTail _ _ _ _ _ h
          simp; omega
    · cases h
def RelR (w : World) (F : Nat → Prop) (x : Rl) (cs : List Value) : Prop :=
  ∃ A n c k a b A' n' c', cs = [vs x.name, .slice A n c, .int .i64 k, vs a, vs b, .slice A' n' c'] ∧ SlV w F 2 RefR x.refs A n ∧ ExV w F x.ex (.agg #[.int .i64 k, vs a, vs b, .slice A' n' c'])
abbrev relVal (cs : List Value) : Value := .agg cs.toArray
abbrev zRel : List Value := [.string ⟨#[]⟩, .slice none 0 0, .int .i64 0, .string ⟨#[]⟩, .string ⟨#[]⟩, .slice none 0 0]
def RelRet (w : World) (w' : World) (o : Option Rl) (e : Ending) : Prop := match o with
  | none => e = .returned (.tuple #[relVal zRel, .bool false])
  | some x => ∃ cs, e = .returned (.tuple #[relVal cs, .bool true]) ∧ RelR w' (fun b => w.heap.size ≤ b) x cs
theorem RelR.keep {w w' : World} {F F' : Nat → Prop} (hF : ∀ b, F b → b < w.heap.size → F' b) (hk : ∀ a v, F a.block → w.cell? a = some v → w'.cell? a = some v) {x : Rl} {cs : List Value} (h : RelR w F x cs) : RelR w' F' x cs := by
  obtain ⟨A, n, c, k, a, b, A', n', c', h1, h2, h3⟩ := h
  exact ⟨A, n, c, k, a, b, A', n', c', h1, h2.keep (by decide) hF hk (fun _ _ h => h), ExV.keep hF hk _ _ h3⟩
theorem set6 {w : World} {b : Nat} {x0 x1 x2 x3 x4 x5 : Value} {e : TypeId} (h : w.heap[b]? = some (.cells #[x0, x1, x2, x3, x4, x5] e (0, 0))) (y0 y1 y2 y3 y4 y5 : Value) :
    ((((((w.setCell ⟨b, 0, none⟩ y0).setCell ⟨b, 1, none⟩ y1).setCell ⟨b, 2, none⟩ y2).setCell ⟨b, 3, none⟩ y3).setCell ⟨b, 4, none⟩ y4).setCell ⟨b, 5, none⟩ y5).heap[b]? = some (.cells #[y0, y1, y2, y3, y4, y5] e (0, 0)) :=
  heap_setCell_same _ b 5 _ _ _ (heap_setCell_same _ b 4 _ _ _ (heap_setCell_same _ b 3 _ _ _ (heap_setCell_same _ b 2 _ _ _ (heap_setCell_same _ b 1 _ _ _ (heap_setCell_same w b 0 _ _ _ h)))))
theorem set6_old {w : World} {b c : Nat} (h : c ≠ b) (y0 y1 y2 y3 y4 y5 : Value) :
    ((((((w.setCell ⟨b, 0, none⟩ y0).setCell ⟨b, 1, none⟩ y1).setCell ⟨b, 2, none⟩ y2).setCell ⟨b, 3, none⟩ y3).setCell ⟨b, 4, none⟩ y4).setCell ⟨b, 5, none⟩ y5).heap[c]? = w.heap[c]? := by
  rw [heap_setCell_other _ _ _ _ h, heap_setCell_other _ _ _ _ h, heap_setCell_other _ _ _ _ h, heap_setCell_other _ _ _ _ h, heap_setCell_other _ _ _ _ h, heap_setCell_other _ _ _ _ h]
theorem six_of {w : World} {b : Nat} {x0 x1 x2 x3 x4 x5 : Value} {e : TypeId} (h : w.heap[b]? = some (.cells #[x0, x1, x2, x3, x4, x5] e (0, 0))) :
    w.cell? ⟨b, 0, none⟩ = some x0 ∧ w.cell? ⟨b, 1, none⟩ = some x1 ∧ w.cell? ⟨b, 2, none⟩ = some x2 ∧ w.cell? ⟨b, 3, none⟩ = some x3 ∧ w.cell? ⟨b, 4, none⟩ = some x4 ∧ w.cell? ⟨b, 5, none⟩ = some x5 ∧
    w.frozen? ⟨b, 0, none⟩ = false ∧ w.frozen? ⟨b, 1, none⟩ = false ∧ w.frozen? ⟨b, 2, none⟩ = false ∧ w.frozen? ⟨b, 3, none⟩ = false ∧ w.frozen? ⟨b, 4, none⟩ = false ∧ w.frozen? ⟨b, 5, none⟩ = false :=
  ⟨cells_of h 0 _ rfl, cells_of h 1 _ rfl, cells_of h 2 _ rfl, cells_of h 3 _ rfl, cells_of h 4 _ rfl, cells_of h 5 _ rfl, frz_of h 0, frz_of h 1, frz_of h 2, frz_of h 3, frz_of h 4, frz_of h 5⟩
theorem res48 {w : World} {g : Nat} {s : Bs} {A : Option Addr} {n c : Nat} {k : Int} {a b : Bs} {A' : Option Addr} {n' c' : Nat} (h : w.heap[g]? = some (.cells #[vs s, .slice A n c, .int .i64 k, vs a, vs b, .slice A' n' c'] 48 (0, 0)))
    (tmps : Array Value) (y : Bool) (h2 : tmps.getD 2 undef = .pointer (some ⟨g, 0, none⟩)) (h3 : tmps.getD 3 undef = .bool y) :
    (results Tryd.f50 tmps).run Tryd.prog w = .ok (.tuple #[.agg #[vs s, .slice A n c, .int .i64 k, vs a, vs b, .slice A' n' c'], .bool y]) w := by
  obtain ⟨c0, c1, c2, c3, c4, c5, -⟩ := six_of h
  rw [results_cell_tmp rfl, h2, h3]
  go_simp
end Go.Proofs.YtgmlcnikphbiiaaDoor.L

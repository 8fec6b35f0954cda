/-
  Tokens of a text: the plain words, and the parser's block in memory.
-/
import Derived.Test.YtgmlcnikphbiiaaDoorLangA
import Derived.Test.YtgmlcnikphbiiaaDoorCacheA
namespace Go.Proofs.YtgmlcnikphbiiaaDoor.L
open Go.RowKit Go.Proofs.YtgmlcnikphbiiaaDoor.B
open Go.Proofs.YtgmlcnikphbiiaaDoor.C (QRow Turn)
set_option linter.unusedVariables false
set_option linter.unusedSimpArgs false

abbrev Bs := List UInt8
abbrev vs (q : Bs) : Value := .string ⟨q.toArray⟩
structure Tk where
  s : Bs
  line : Int
  col : Int
def signC (c : UInt8) : Bool := [58, 124, 35, 43, 45, 38, 46, 40, 41].contains c
def spaceC (c : UInt8) : Bool := [32, 9, 10].contains c
def lowC (c : UInt8) : Bool := 97 ≤ c.toNat && c.toNat ≤ 122
def wordN : Bs → Nat
  | [] => 0
  | c :: l => if lowC c then ((c :: l).takeWhile wc).length else 0
theorem wordN_cons (c : UInt8) (l : Bs) : wordN (c :: l) = if lowC c then ((c :: l).takeWhile wc).length else 0 := rfl
theorem wordN_le (l : Bs) : wordN l ≤ l.length := by
  unfold wordN
  split
  · exact Nat.le_refl _
  · split
    · exact List.Sublist.length_le (List.takeWhile_sublist _)
    · exact Nat.zero_le _
theorem wc_low {c : UInt8} (h : lowC c = true) : wc c = true := by
  unfold lowC at h
  unfold wc
  simp at h
  simp [h]
/-- what stands behind the space. -/
def skip : Bs → Int → Int → Bs × Int × Int
  | [], line, col => ([], line, col)
  | c :: l, line, col => if c == 10 then skip l (line + 1) 1 else if spaceC c then skip l line (col + 1) else (c :: l, line, col)
theorem skip_len : ∀ (l : Bs) (line col : Int), (skip l line col).1.length ≤ l.length
  | [], _, _ => Nat.le_refl _
  | c :: l, line, col => by
    unfold skip
    split
    · exact Nat.le_trans (skip_len l _ _) (Nat.le_succ _)
    · split
      · exact Nat.le_trans (skip_len l _ _) (Nat.le_succ _)
      · exact Nat.le_refl _
/-- how many bytes the token has with which a text begins. -/
def tokN (l : Bs) : Nat :=
  match l with
  | [] => 0
  | c :: _ => if 0 < wordN l then wordN l else if signC c then 1 else 0
theorem tokN_le (l : Bs) : tokN l ≤ l.length := by
  unfold tokN
  split
  · exact Nat.zero_le _
  · split
    · exact wordN_le _
    · split
      · simp
      · exact Nat.zero_le _
/-- the tokens of a text; the last one is empty, or [63]. -/
def toks : Nat → Bs → Int → Int → List Tk
  | 0, _, line, col => [⟨[], line, col⟩]
  | f + 1, l, line, col =>
    match skip l line col with
    | ([], line, col) => [⟨[], line, col⟩]
    | (r, line, col) => if tokN r = 0 then [⟨[63], line, col⟩] else ⟨r.take (tokN r), line, col⟩ :: toks f (r.drop (tokN r)) line (col + tokN r)
theorem toks_fuel : ∀ (f g : Nat) (l : Bs) (line col : Int), l.length < f → l.length < g → toks f l line col = toks g l line col
  | 0, _, _, _, _, h, _ => by omega
  | _ + 1, 0, _, _, _, _, h => by omega
  | f + 1, g + 1, l, line, col, h1, h2 => by
    have hl := skip_len l line col
    unfold toks
    revert hl
    generalize skip l line col = p
    obtain ⟨r, line', col'⟩ := p
    intro hl
    cases r with
    | nil => rfl
    | cons c r =>
      dsimp only at hl ⊢
      split
      · rfl
      · rename_i ht
        have hn := tokN_le (c :: r)
        have hc : (c :: r).length = r.length + 1 := rfl
        rw [toks_fuel f g _ _ _ (by rw [List.length_drop]; omega) (by rw [List.length_drop]; omega)]
def tokens (l : Bs) (line col : Int) : List Tk := toks (l.length + 1) l line col
theorem tokens_eq (l : Bs) (line col : Int) : tokens l line col = (match skip l line col with
    | ([], line, col) => [⟨[], line, col⟩]
    | (r, line, col) => if tokN r = 0 then [⟨[63], line, col⟩] else ⟨r.take (tokN r), line, col⟩ :: tokens (r.drop (tokN r)) line (col + tokN r)) := by
  have hl := skip_len l line col
  unfold tokens
  rw [toks]
  revert hl
  generalize skip l line col = p
  obtain ⟨r, line', col'⟩ := p
  intro hl
  cases r with
  | nil => rfl
  | cons c r =>
    dsimp only at hl ⊢
    split
    · rfl
    · rename_i ht
      have hn := tokN_le (c :: r)
      have hc : (c :: r).length = r.length + 1 := rfl
      rw [toks_fuel _ _ _ _ _ (by rw [List.length_drop]; omega) (Nat.lt_succ_self _)]
theorem tokens_nl (l : Bs) (line col : Int) : tokens (10 :: l) line col = tokens l (line + 1) 1 := by
  rw [tokens_eq, tokens_eq l]
  rfl
theorem tokens_space (c : UInt8) (l : Bs) (line col : Int) (h : spaceC c = true) (h10 : (c == 10) = false) : tokens (c :: l) line col = tokens l line (col + 1) := by
  rw [tokens_eq, tokens_eq l]
  have : skip (c :: l) line col = skip l line (col + 1) := by
    conv => lhs; unfold skip
    rw [h10, h]; rfl
  rw [this]
theorem tokens_nil (line col : Int) : tokens [] line col = [⟨[], line, col⟩] := rfl
theorem tokens_tok (c : UInt8) (l : Bs) (line col : Int) (h : spaceC c = false) : tokens (c :: l) line col =
    if tokN (c :: l) = 0 then [⟨[63], line, col⟩] else ⟨(c :: l).take (tokN (c :: l)), line, col⟩ :: tokens ((c :: l).drop (tokN (c :: l))) line (col + tokN (c :: l)) := by
  rw [tokens_eq]
  have h10 : (c == 10) = false := by
    cases hc : c == 10
    · rfl
    · have := eq_of_beq hc
      subst this
      cases h
  have : skip (c :: l) line col = (c :: l, line, col) := by
    unfold skip
    rw [h10, h]; rfl
  rw [this]

/-! ### the parser's block -/
theorem cells_of {w : World} {b : Nat} {cs : Array Value} {e : TypeId} (h : w.heap[b]? = some (.cells cs e (0, 0))) (o : Nat) (v : Value) (ho : cs[o]? = some v) : w.cell? ⟨b, o, none⟩ = some v := by
  rw [cell_of_row w b o cs e (0, 0) h]; exact ho
theorem frz_of {w : World} {b : Nat} {cs : Array Value} {e : TypeId} (h : w.heap[b]? = some (.cells cs e (0, 0))) (o : Nat) : w.frozen? ⟨b, o, none⟩ = false := frozen_of_row w b o cs e h
theorem alloc_old {w : World} (o : Obj) {b : Nat} (hb : b < w.heap.size) : (w.alloc o).heap[b]? = w.heap[b]? := (Turn.alloc (fp := fun _ => False) w o).block b hb (fun h => h)
def Blk (w : World) (pb : Nat) (l : Bs) (line col : Int) (x : Bs) (y z op : Int) : Prop :=
  w.heap[pb]? = some (.cells #[vs l, .int .i64 line, .int .i64 col, vs x, .int .i64 y, .int .i64 z, .int .i64 op] 56 (0, 0))
theorem Blk.lt {w : World} {pb : Nat} {l : Bs} {line col : Int} {x : Bs} {y z op : Int} (h : Blk w pb l line col x y z op) : pb < w.heap.size := (Array.getElem?_eq_some_iff.1 h).1
theorem Blk.kept {w w' : World} {pb : Nat} {l : Bs} {line col : Int} {x : Bs} {y z op : Int} (h : Blk w pb l line col x y z op) (hb : w'.heap[pb]? = w.heap[pb]?) : Blk w' pb l line col x y z op := hb.trans h
def shown (s : Bs) : Bs := if s == [63] then [] else s
/-- the parser stands at these tokens. -/
def PS (w : World) (pb : Nat) (op : Int) (L : List Tk) : Prop :=
  ∃ (r : Bs) (line col : Int) (t : Tk) (l' : List Tk), L = t :: l' ∧ Blk w pb r line col (shown t.s) t.line t.col op ∧
    ((t.s = [] ∧ r = [] ∧ l' = []) ∨ (t.s = [63] ∧ r ≠ [] ∧ l' = []) ∨ (t.s ≠ [] ∧ t.s ≠ [63] ∧ l' = tokens r line col)) ∧
    (r.length ≤ 4096 ∧ 0 ≤ line ∧ line + r.length ≤ 5000 ∧ 0 ≤ col ∧ col + r.length ≤ 5000) ∧ t.s.length ≤ 4096 ∧ t.s ≠ [43, 45]
end Go.Proofs.YtgmlcnikphbiiaaDoor.L

/-
  The parser's schema: the plain words, the laws on memory between its steps.
-/
import Derived.Test.YtgmlcnikphbiiaaDoorLangL
namespace Go.Proofs.YtgmlcnikphbiiaaDoor.L
open Go.RowKit Go.Proofs.YtgmlcnikphbiiaaDoor.B
open Go.Proofs.YtgmlcnikphbiiaaDoor.C (QRow Turn)
set_option linter.unusedVariables false
set_option linter.unusedSimpArgs false

abbrev sType : Bs := [116, 121, 112, 101]
def relsOf : Nat → List Rl → P (List Rl)
  | 0, _, L => failsL 8 L
  | f + 1, acc, L => match relS L with
    | .error d => .error d
    | .ok (none, l) => .ok (acc, l)
    | .ok (some x, l) => relsOf f (acc ++ [x]) l
theorem relsOf_err {f : Nat} {acc : List Rl} {L : List Tk} {d : Dg} (h : relS L = .error d) : relsOf (f + 1) acc L = .error d := by rw [relsOf, h]
theorem relsOf_end {f : Nat} {acc : List Rl} {L l : List Tk} (h : relS L = .ok (none, l)) : relsOf (f + 1) acc L = .ok (acc, l) := by rw [relsOf, h]
theorem relsOf_fuel : ∀ (f g : Nat) (acc : List Rl) (L : List Tk), L.length < f → L.length < g → relsOf f acc L = relsOf g acc L
  | 0, _, _, _, h, _ => by omega
  | _ + 1, 0, _, _, _, h => by omega
  | f + 1, g + 1, acc, L, h1, h2 => by
    rw [relsOf, relsOf]
    cases hr : relS L with
    | error d => rfl
    | ok p =>
      obtain ⟨x, l⟩ := p
      cases x with
      | none => rfl
      | some x =>
        have h3 := less1_rel hr
        exact relsOf_fuel f g _ _ (by omega) (by omega)
theorem relsOf_on {f : Nat} {acc : List Rl} {L l : List Tk} {x : Rl} (hf : L.length ≤ f) (h : relS L = .ok (some x, l)) : relsOf (f + 1) acc L = relsOf (l.length + 1) (acc ++ [x]) l := by
  have h3 := less1_rel h
  rw [relsOf, h]
  exact relsOf_fuel _ _ _ _ (by omega) (by omega)
theorem less_rel : Less relS := by
  intro L o l h
  cases o with
  | some x => exact Nat.le_of_lt (less1_rel h)
  | none =>
    cases L with
    | nil => cases h; exact Nat.le_refl _
    | cons t r =>
      rw [relS_cons] at h
      split at h
      · unfold relHead at h
        split at h
        · cases h
        · split at h
          · cases h
          · unfold relTail at h
            split at h
            · split at h <;> cases h
            · split at h <;> cases h
      · cases h; exact Nat.le_refl _
theorem relsOf_less : ∀ (f : Nat) (acc : List Rl), Less (relsOf f acc)
  | 0, acc, L, a, l, h => by unfold relsOf failsL at h; split at h <;> cases h
  | f + 1, acc, L, a, l, h => by
    rw [relsOf] at h
    split at h
    · cases h
    · rename_i r hx
      cases h
      exact less_rel _ _ _ hx
    · rename_i x r hx
      have h3 := less1_rel hx
      have := relsOf_less f _ _ _ _ h
      omega
def typesGo : Nat → List Ty → P (List Ty)
  | 0, _, L => failsL 8 L
  | f + 1, acc, L => if (hasS sType L).1 then (match nameS (hasS sType L).2 with
    | .error d => .error d
    | .ok (s, l) => match relsOf (l.length + 1) [] l with
      | .error d => .error d
      | .ok (rs, l) => typesGo f (acc ++ [⟨s, rs⟩]) l) else .ok (acc, (hasS sType L).2)
theorem typesGo_end {f : Nat} {acc : List Ty} {L : List Tk} (h : (hasS sType L).1 = false) : typesGo (f + 1) acc L = .ok (acc, (hasS sType L).2) := by rw [typesGo, h]; rfl
theorem typesGo_err {f : Nat} {acc : List Ty} {L : List Tk} {d : Dg} (h : (hasS sType L).1 = true) (h2 : nameS (hasS sType L).2 = .error d) : typesGo (f + 1) acc L = .error d := by rw [typesGo, if_pos h, h2]
theorem typesGo_in {f : Nat} {acc : List Ty} {L l : List Tk} {s : Bs} (h : (hasS sType L).1 = true) (h2 : nameS (hasS sType L).2 = .ok (s, l)) : typesGo (f + 1) acc L = (match relsOf (l.length + 1) [] l with
      | .error d => .error d
      | .ok (rs, l) => typesGo f (acc ++ [⟨s, rs⟩]) l) := by rw [typesGo, if_pos h, h2]
theorem typesGo_fuel : ∀ (f g : Nat) (acc : List Ty) (L : List Tk), L.length < f → L.length < g → typesGo f acc L = typesGo g acc L
  | 0, _, _, _, h, _ => by omega
  | _ + 1, 0, _, _, _, h => by omega
  | f + 1, g + 1, acc, L, h1, h2 => by
    rw [typesGo, typesGo]
    split
    · rename_i hh
      have h0 := hasS_less hh
      cases hn : nameS (hasS sType L).2 with
      | error d => rfl
      | ok p =>
        obtain ⟨s, l⟩ := p
        have h3 := less_name _ _ _ hn
        dsimp only
        cases hr : relsOf (l.length + 1) [] l with
        | error d => rfl
        | ok p =>
          obtain ⟨rs, l2⟩ := p
          have h4 := relsOf_less _ _ _ _ _ hr
          exact typesGo_fuel f g _ _ (by omega) (by omega)
    · rfl
def schemaS : P (List Ty) := fun L => match typesGo (L.length + 1) [] L with
  | .error d => .error d
  | .ok (ts, []) => failsL 8 []
  | .ok (ts, t :: l) => if t.s == [] then .ok (ts, t :: l) else t.fail 8

/-! ### in memory -/
def TyR (w : World) (F : Nat → Prop) (x : Ty) (cs : List Value) : Prop := ∃ A n c, cs = [vs x.name, .slice A n c] ∧ SlV w F 6 (RelR w F) x.rels A n
theorem turn_cell {S F : Nat → Prop} {w w' : World} (hT : Turn S w w') (hF : ∀ b, F b → b < w.heap.size → ¬ S b) : ∀ (a : Addr) (v : Value), F a.block → w.cell? a = some v → w'.cell? a = some v := fun a v ha hv => by
  have hl := World.block_lt_of_cell? w a hv
  rw [cell_congr (hT.block _ hl (hF _ ha hl))]; exact hv
theorem RelR.turn {S F F' : Nat → Prop} {w w' : World} {x : Rl} {cs : List Value} (h : RelR w F x cs) (hT : Turn S w w') (hF : ∀ b, F b → b < w.heap.size → ¬ S b ∧ F' b) : RelR w' F' x cs :=
  h.keep (fun b hb hl => (hF b hb hl).2) (turn_cell hT (fun b hb hl => (hF b hb hl).1))
theorem TyR.turn {S F F' : Nat → Prop} {w w' : World} {x : Ty} {cs : List Value} (h : TyR w F x cs) (hT : Turn S w w') (hF : ∀ b, F b → b < w.heap.size → ¬ S b ∧ F' b) : TyR w' F' x cs := by
  obtain ⟨A, n, c, h1, h2⟩ := h
  exact ⟨A, n, c, h1, h2.keep (by decide) (fun b hb hl => (hF b hb hl).2) (turn_cell hT (fun b hb hl => (hF b hb hl).1)) (fun x cs hx => hx.turn hT hF)⟩
abbrev own (A : Option Addr) (n c : Nat) : Option Nat := (Value.slice A n c).ownBlock
/-- a type is being read. -/
structure RS (pb : Nat) (w : World) (bt br : Nat) (s : Bs) (acc : List Ty) (A : Option Addr) (c : Nat) (acc2 : List Rl) (A2 : Option Addr) (c2 : Nat) (cs : List Value) (wr : World) : Prop where
  at0 : At pb w wr
  rb : wr.heap[w.heap.size]? = some (.cells #[.slice none 0 0] 25 (0, 0))
  sb : wr.heap[w.heap.size + 1]? = some (.cells #[.slice A acc.length c] 25 (0, 0))
  tb : wr.heap[bt]? = some (.cells #[vs s, .slice A2 acc2.length c2] 35 (0, 0))
  rc : wr.heap[br]? = some (.cells cs.toArray 48 (0, 0))
  ts : OwnL wr 35 2 (TyR wr (fun b => w.heap.size + 2 ≤ b ∧ b ≠ bt ∧ b ≠ br ∧ own A acc.length c ≠ some b ∧ own A2 acc2.length c2 ≠ some b)) (.slice A acc.length c) acc
  rs : OwnL wr 48 6 (RelR wr (fun b => w.heap.size + 2 ≤ b ∧ b ≠ bt ∧ b ≠ br ∧ own A acc.length c ≠ some b ∧ own A2 acc2.length c2 ≠ some b)) (.slice A2 acc2.length c2) acc2
  g1 : ∀ g, own A acc.length c = some g → w.heap.size + 2 ≤ g ∧ g ≠ bt ∧ g ≠ br ∧ own A2 acc2.length c2 ≠ some g
  g2 : ∀ g, own A2 acc2.length c2 = some g → w.heap.size + 2 ≤ g ∧ g ≠ bt ∧ g ≠ br
  ht : w.heap.size + 2 ≤ bt
  hr : w.heap.size + 2 ≤ br
  hne : bt ≠ br
  hp : pb < w.heap.size
/-- the blocks of a type's content. -/
abbrev RF (w : World) (bt br : Nat) (o o2 : Option Nat) (b : Nat) : Prop := w.heap.size + 2 ≤ b ∧ b ≠ bt ∧ b ≠ br ∧ o ≠ some b ∧ o2 ≠ some b
theorem OwnL.block_lt {α : Type} {w : World} {e : TypeId} {size : Nat} {R : α → List Value → Prop} {v : Value} {xs : List α} (h : OwnL w e size R v xs) {g : Nat} (hg : v.ownBlock = some g) : g < w.heap.size := by
  obtain ⟨css, _, h2, _⟩ := h
  exact h2.block_lt hg
theorem RS.turn {pb : Nat} {w : World} {bt br : Nat} {s : Bs} {acc : List Ty} {A : Option Addr} {c : Nat} {acc2 : List Rl} {A2 : Option Addr} {c2 : Nat} {cs cs' : List Value} {wr w' : World} {S : Nat → Prop}
    (h : RS pb w bt br s acc A c acc2 A2 c2 cs wr) (hT : Turn S wr w') (hS : ∀ b, S b → b = pb ∨ b = br) (hrc : w'.heap[br]? = some (.cells cs'.toArray 48 (0, 0))) : RS pb w bt br s acc A c acc2 A2 c2 cs' w' := by
  have hp := h.hp
  have hr := h.hr
  have hk : ∀ b, w.heap.size ≤ b → b ≠ br → ¬ S b := fun b hb hne hs => by
    rcases hS b hs with e | e <;> omega
  have hF : ∀ b, RF w bt br (own A acc.length c) (own A2 acc2.length c2) b → b < wr.heap.size → ¬ S b ∧ RF w bt br (own A acc.length c) (own A2 acc2.length c2) b := fun b hb _ => ⟨hk b (by omega) hb.2.2.1, hb⟩
  refine ⟨Turn.trans h.at0 hT (fun k hk' hlt => ?_), ?_, ?_, ?_, hrc, ?_, ?_, h.g1, h.g2, h.ht, h.hr, h.hne, h.hp⟩
  · rcases hS k hk' with e | e
    · exact e
    · omega
  · exact (hT.block _ (lt_of_heap h.rb) (hk _ (Nat.le_refl _) (by omega))).trans h.rb
  · exact (hT.block _ (lt_of_heap h.sb) (hk _ (by omega) (by omega))).trans h.sb
  · exact (hT.block _ (lt_of_heap h.tb) (hk _ (by have := h.ht; omega) h.hne)).trans h.tb
  · refine h.ts.kept (fun g hg => hT.block _ (h.ts.block_lt hg) ?_) (fun x cs hx => hx.turn hT hF)
    have := h.g1 g hg
    exact hk _ (by omega) this.2.2.1
  · refine h.rs.kept (fun g hg => hT.block _ (h.rs.block_lt hg) ?_) (fun x cs hx => hx.turn hT hF)
    have := h.g2 g hg
    exact hk _ (by omega) this.2.2
/-- a relation is put behind the others. -/
theorem RS.push {pb : Nat} {w : World} {bt br : Nat} {s : Bs} {acc : List Ty} {A : Option Addr} {c : Nat} {acc2 : List Rl} {A2 A2' : Option Addr} {c2 c2' : Nat} {cs : List Value} {wr w6 : World} {x : Rl} {css : List (List Value)}
    (h : RS pb w bt br s acc A c acc2 A2 c2 cs wr) (hx : RelR wr (RF w bt br (own A acc.length c) (own A2 acc2.length c2)) x cs) (h6 : cs.length = 6)
    (hc1 : ∀ c ∈ css, c.length = 6) (hc3 : All2 (RelR wr (RF w bt br (own A acc.length c) (own A2 acc2.length c2))) acc2 css)
    (hq : QRow w6 48 6 (.slice A2' (acc2.length + 1) c2') (acc2.length + 1) (css.flatten ++ cs)) (hg : (wr.alloc (.cells cs.toArray 48)).grownBy w6 (own A2 acc2.length c2))
    (hb : ∀ g, own A2' (acc2.length + 1) c2' = some g → own A2 acc2.length c2 = some g ∨ wr.heap.size + 1 ≤ g) :
    RS pb w bt w6.heap.size s acc A c (acc2 ++ [x]) A2' c2' cs ((w6.setCell ⟨bt, 1, none⟩ (.slice A2' (acc2.length + 1) c2')).alloc (.cells cs.toArray 48)) := by
  have hlen : (acc2 ++ [x]).length = acc2.length + 1 := by simp
  have hsz : wr.heap.size < w6.heap.size := by have := hg.size; simp at this; omega
  have hw5 : (wr.alloc (.cells cs.toArray 48)).heap.size = wr.heap.size + 1 := by simp
  have hp := h.hp
  have htb := lt_of_heap h.tb
  have hrb := lt_of_heap h.rb
  have hsb := lt_of_heap h.sb
  have hT : Turn (fun b => own A2 acc2.length c2 = some b ∨ b = bt) wr ((w6.setCell ⟨bt, 1, none⟩ (.slice A2' (acc2.length + 1) c2')).alloc (.cells cs.toArray 48)) :=
    Turn.trans (Turn.trans (Turn.trans (Turn.alloc (fp := fun b => own A2 acc2.length c2 = some b ∨ b = bt) wr (.cells cs.toArray 48)) (Turn.grown (fp := fun b => own A2 acc2.length c2 = some b) hg (fun k hk => hk)) (fun k hk _ => .inl hk))
      (Turn.setCell (fp := fun b => b = bt) w6 ⟨bt, 1, none⟩ _ rfl) (fun k hk _ => .inr hk)) (Turn.alloc (fp := fun _ => False) _ _) (fun k hk _ => hk.elim)
  have hw6 : (w6.setCell ⟨bt, 1, none⟩ (.slice A2' (acc2.length + 1) c2')).heap.size = w6.heap.size := by simp
  have hnew : ((w6.setCell ⟨bt, 1, none⟩ (.slice A2' (acc2.length + 1) c2')).alloc (.cells cs.toArray 48)).heap[w6.heap.size]? = some (.cells cs.toArray 48 (0, 0)) := by
    have := heap_alloc_new (w6.setCell ⟨bt, 1, none⟩ (.slice A2' (acc2.length + 1) c2')) (.cells cs.toArray 48)
    rw [hw6] at this; exact this
  have htb6 : w6.heap[bt]? = some (.cells #[vs s, .slice A2 acc2.length c2] 35 (0, 0)) := by
    rw [hg.block bt (by rw [hw5]; omega) (fun e => (h.g2 _ e.symm).2.1 rfl), alloc_old _ htb]; exact h.tb
  have hF : ∀ b, RF w bt br (own A acc.length c) (own A2 acc2.length c2) b → b < wr.heap.size → ¬ (own A2 acc2.length c2 = some b ∨ b = bt) ∧ RF w bt w6.heap.size (own A acc.length c) (own A2' (acc2.length + 1) c2') b := fun b hb' hl =>
    ⟨fun e => e.elim hb'.2.2.2.2 hb'.2.1, hb'.1, hb'.2.1, by omega, hb'.2.2.2.1, fun e => by
      rcases hb b e with h1 | h1
      · exact hb'.2.2.2.2 h1
      · omega⟩
  refine ⟨Turn.trans h.at0 hT (fun k hk hlt => ?_), ?_, ?_, ?_, hnew, ?_, ?_, ?_, ?_, h.ht, by omega, by omega, h.hp⟩
  · rcases hk with e | e
    · have := (h.g2 _ e).1; omega
    · have := h.ht; omega
  · exact (hT.block _ hrb (fun e => by
      rcases e with e | e
      · have := (h.g2 _ e).1; omega
      · have := h.ht; omega)).trans h.rb
  · exact (hT.block _ hsb (fun e => by
      rcases e with e | e
      · have := (h.g2 _ e).1; omega
      · have := h.ht; omega)).trans h.sb
  · rw [alloc_old _ (by rw [hw6]; omega), hlen]
    exact heap_setCell_same w6 bt 1 _ _ _ htb6
  · rw [hlen]
    refine h.ts.kept (fun g hg' => hT.block _ (h.ts.block_lt hg') (fun e => ?_)) (fun y ys hy => hy.turn hT hF)
    have := h.g1 g hg'
    rcases e with e | e
    · exact this.2.2.2 e
    · exact this.2.1 e
  · have hq' : QRow ((w6.setCell ⟨bt, 1, none⟩ (.slice A2' (acc2.length + 1) c2')).alloc (.cells cs.toArray 48)) 48 6 (.slice A2' (acc2.length + 1) c2') (acc2.length + 1) (css.flatten ++ cs) := by
      refine hq.kept (fun g hg' => ?_)
      have hgl := hq.block_lt hg'
      rw [alloc_old _ (by rw [hw6]; exact hgl)]
      refine heap_setCell_other _ _ _ _ ?_
      show g ≠ bt
      rcases hb g hg' with e | e
      · exact (h.g2 g e).2.1
      · omega
    have := OwnL.snoc (w := wr) (v := .slice none 0 0) hc1 hc3 (R' := RelR ((w6.setCell ⟨bt, 1, none⟩ (.slice A2' (acc2.length + 1) c2')).alloc (.cells cs.toArray 48)) (RF w bt w6.heap.size (own A acc.length c) (own A2' (acc2.length + 1) c2')))
      (x := x) (c := cs) h6 (fun y ys hy => hy.turn hT hF) (hx.turn hT hF) hq'
    rw [hlen]
    exact this
  · intro g hg'
    have h1 := h.g1 g hg'
    have hgl := h.ts.block_lt hg'
    refine ⟨h1.1, h1.2.1, by omega, fun e => ?_⟩
    rw [hlen] at e
    rcases hb g e with e | e
    · exact h1.2.2.2 e
    · omega
  · intro g hg'
    rw [hlen] at hg'
    have hgl := hq.block_lt hg'
    rcases hb g hg' with e | e
    · have := h.g2 g e
      exact ⟨this.1, this.2.1, by omega⟩
    · exact ⟨by omega, by omega, by omega⟩
/-- between two types. -/
structure SS (pb : Nat) (w : World) (acc : List Ty) (A : Option Addr) (c : Nat) (wr : World) : Prop where
  at0 : At pb w wr
  rb : wr.heap[w.heap.size]? = some (.cells #[.slice none 0 0] 25 (0, 0))
  sb : wr.heap[w.heap.size + 1]? = some (.cells #[.slice A acc.length c] 25 (0, 0))
  ts : OwnL wr 35 2 (TyR wr (fun b => w.heap.size + 2 ≤ b ∧ own A acc.length c ≠ some b)) (.slice A acc.length c) acc
  g1 : ∀ g, own A acc.length c = some g → w.heap.size + 2 ≤ g
  hp : pb < w.heap.size
theorem SS.turn {pb : Nat} {w : World} {acc : List Ty} {A : Option Addr} {c : Nat} {wr w' : World} (h : SS pb w acc A c wr) (hT : At pb wr w') : SS pb w acc A c w' := by
  have hp := h.hp
  refine ⟨h.at0.trans hT, (hT.block _ (lt_of_heap h.rb) (fun e => by omega)).trans h.rb, (hT.block _ (lt_of_heap h.sb) (fun e => by omega)).trans h.sb, ?_, h.g1, h.hp⟩
  refine h.ts.kept (fun g hg => hT.block _ (h.ts.block_lt hg) (fun e => ?_)) (fun x cs hx => hx.turn hT (fun b hb _ => ⟨fun e => by omega, hb⟩))
  have := h.g1 g hg
  omega
theorem SS.start {pb : Nat} {w : World} {acc : List Ty} {A : Option Addr} {c : Nat} {wr w' : World} (h : SS pb w acc A c wr) (s : Bs) (hT : At pb (wr.alloc (.cells #[vs s, .slice none 0 0] 35)) w') (cs : List Value) :
    RS pb w wr.heap.size w'.heap.size s acc A c [] none 0 cs (w'.alloc (.cells cs.toArray 48)) := by
  have hp := h.hp
  have hT0 : At pb wr (w'.alloc (.cells cs.toArray 48)) := ((Turn.alloc wr (.cells #[vs s, .slice none 0 0] 35)).trans hT (fun _ h _ => h)).trans (Turn.alloc w' _) (fun _ h _ => h)
  have h0 := h.turn hT0
  have hsz : wr.heap.size + 1 ≤ w'.heap.size := by have := hT.size; simpa using this
  have hsb := lt_of_heap h.sb
  refine ⟨h0.at0, h0.rb, h0.sb, ?_, heap_alloc_new _ _, ?_, ?_, ?_, (fun g hg => by cases hg), by omega, by omega, by omega, h.hp⟩
  · rw [alloc_old _ (by omega)]
    refine (hT.block _ (by simp) (fun e => by omega)).trans (heap_alloc_new wr _)
  · refine h.ts.kept (fun g hg => hT0.block _ (h.ts.block_lt hg) (fun e => ?_)) (fun x cs hx => hx.turn hT0 (fun b hb hl => ⟨fun e => by omega, hb.1, by omega, by omega, hb.2, fun e => by cases e⟩))
    have := h.g1 g hg
    omega
  · exact OwnL.nil _ _ _ _
  · intro g hg
    have hgl := h.ts.block_lt hg
    exact ⟨h.g1 g hg, by omega, by omega, fun e => by cases e⟩
theorem RS.done {pb : Nat} {w : World} {bt br : Nat} {s : Bs} {acc : List Ty} {A A' : Option Addr} {c c' : Nat} {acc2 : List Rl} {A2 : Option Addr} {c2 : Nat} {cs : List Value} {wr w6 : World} {css : List (List Value)}
    (h : RS pb w bt br s acc A c acc2 A2 c2 cs wr) (hc1 : ∀ c ∈ css, c.length = 2) (hc3 : All2 (TyR wr (RF w bt br (own A acc.length c) (own A2 acc2.length c2))) acc css)
    (hq : QRow w6 35 2 (.slice A' (acc.length + 1) c') (acc.length + 1) (css.flatten ++ [vs s, .slice A2 acc2.length c2])) (hg : (wr.alloc (.cells #[vs s, .slice A2 acc2.length c2] 35)).grownBy w6 (own A acc.length c))
    (hb : ∀ g, own A' (acc.length + 1) c' = some g → own A acc.length c = some g ∨ wr.heap.size + 1 ≤ g) :
    SS pb w (acc ++ [⟨s, acc2⟩]) A' c' (w6.setCell ⟨w.heap.size + 1, 0, none⟩ (.slice A' (acc.length + 1) c')) := by
  have hlen : (acc ++ [(⟨s, acc2⟩ : Ty)]).length = acc.length + 1 := by simp
  have hp := h.hp
  have hw5 : (wr.alloc (.cells #[vs s, .slice A2 acc2.length c2] 35)).heap.size = wr.heap.size + 1 := by simp
  have hsz : wr.heap.size < w6.heap.size := by have := hg.size; simp at this; omega
  have hT : Turn (fun b => own A acc.length c = some b ∨ b = w.heap.size + 1) wr (w6.setCell ⟨w.heap.size + 1, 0, none⟩ (.slice A' (acc.length + 1) c')) :=
    Turn.trans (Turn.trans (Turn.alloc (fp := fun b => own A acc.length c = some b ∨ b = w.heap.size + 1) wr (.cells #[vs s, .slice A2 acc2.length c2] 35)) (Turn.grown (fp := fun b => own A acc.length c = some b) hg (fun k hk => hk)) (fun k hk _ => .inl hk))
      (Turn.setCell (fp := fun b => b = w.heap.size + 1) w6 ⟨w.heap.size + 1, 0, none⟩ _ rfl) (fun k hk _ => .inr hk)
  have hF : ∀ b, RF w bt br (own A acc.length c) (own A2 acc2.length c2) b ∨ own A2 acc2.length c2 = some b → b < wr.heap.size → ¬ (own A acc.length c = some b ∨ b = w.heap.size + 1) ∧ (w.heap.size + 2 ≤ b ∧ own A' (acc.length + 1) c' ≠ some b) := fun b hb' hl => by
    have h1 : w.heap.size + 2 ≤ b ∧ own A acc.length c ≠ some b := by
      rcases hb' with hb' | hb'
      · exact ⟨hb'.1, hb'.2.2.2.1⟩
      · exact ⟨(h.g2 b hb').1, fun e => (h.g1 b e).2.2.2 hb'⟩
    refine ⟨fun e => e.elim h1.2 (by omega), h1.1, fun e => ?_⟩
    rcases hb b e with e | e
    · exact h1.2 e
    · omega
  have hsb6 : w6.heap[w.heap.size + 1]? = some (.cells #[.slice A acc.length c] 25 (0, 0)) := by
    have hsb := lt_of_heap h.sb
    rw [hg.block _ (by rw [hw5]; omega) (fun e => by have := (h.g1 _ e.symm).1; omega), alloc_old _ hsb]; exact h.sb
  refine ⟨Turn.trans h.at0 hT (fun k hk hlt => ?_), ?_, ?_, ?_, ?_, h.hp⟩
  · rcases hk with e | e
    · have := (h.g1 _ e).1; omega
    · omega
  · exact (hT.block _ (lt_of_heap h.rb) (fun e => by
      rcases e with e | e
      · have := (h.g1 _ e).1; omega
      · omega)).trans h.rb
  · rw [hlen]; exact heap_setCell_same w6 (w.heap.size + 1) 0 _ _ _ hsb6
  · have hq' : QRow (w6.setCell ⟨w.heap.size + 1, 0, none⟩ (.slice A' (acc.length + 1) c')) 35 2 (.slice A' (acc.length + 1) c') (acc.length + 1) (css.flatten ++ [vs s, .slice A2 acc2.length c2]) := by
      refine hq.kept (fun g hg' => heap_setCell_other _ _ _ _ ?_)
      show g ≠ w.heap.size + 1
      have hsb := lt_of_heap h.sb
      rcases hb g hg' with e | e
      · have := (h.g1 g e).1; omega
      · omega
    have hrd : SlV wr (fun b => RF w bt br (own A acc.length c) (own A2 acc2.length c2) b ∨ own A2 acc2.length c2 = some b) 6 (RelR wr (RF w bt br (own A acc.length c) (own A2 acc2.length c2))) acc2 A2 acc2.length := h.rs.read (by decide) (fun g hg' => .inr hg')
    have hx : TyR (w6.setCell ⟨w.heap.size + 1, 0, none⟩ (.slice A' (acc.length + 1) c')) (fun b => w.heap.size + 2 ≤ b ∧ own A' (acc.length + 1) c' ≠ some b) ⟨s, acc2⟩ [vs s, .slice A2 acc2.length c2] :=
      ⟨A2, acc2.length, c2, rfl, hrd.keep (by decide) (fun b hb' hl => (hF b hb' hl).2) (turn_cell hT (fun b hb' hl => (hF b hb' hl).1)) (fun y ys hy => hy.turn hT (fun b hb' hl => hF b (.inl hb') hl))⟩
    have := OwnL.snoc (w := wr) (v := .slice none 0 0) hc1 hc3 (R' := TyR (w6.setCell ⟨w.heap.size + 1, 0, none⟩ (.slice A' (acc.length + 1) c')) (fun b => w.heap.size + 2 ≤ b ∧ own A' (acc.length + 1) c' ≠ some b))
      (x := ⟨s, acc2⟩) (c := [vs s, .slice A2 acc2.length c2]) rfl (fun y ys hy => hy.turn hT (fun b hb' hl => hF b (.inl hb') hl)) hx hq'
    rw [hlen]
    exact this
  · intro g hg'
    rw [hlen] at hg'
    have hsb := lt_of_heap h.sb
    rcases hb g hg' with e | e
    · exact (h.g1 g e).1
    · omega
end Go.Proofs.YtgmlcnikphbiiaaDoor.L

/-
  The document's Parse: the laws on memory.
-/
import Derived.Test.YtgmlcnikphbiiaaDoorLangZ8
import Derived.Test.YtgmlcnikphbiiaaDoorLangZ10
namespace Go.Proofs.YtgmlcnikphbiiaaDoor.L
open Go.RowKit Go.Proofs.YtgmlcnikphbiiaaDoor.B Go.Proofs.YtgmlcnikphbiiaaDoor.S10 Go.Proofs.YtgmlcnikphbiiaaDoor.Nm
open Go.Proofs.YtgmlcnikphbiiaaDoor.C (QRow Turn wpList_append_q)
set_option linter.unusedVariables false
set_option linter.unusedSimpArgs false

/-- the blocks of a type's content. -/
abbrev TF (w : World) (bt : Nat) (o o2 : Option Nat) (b : Nat) : Prop := w.heap.size + 2 ≤ b ∧ b ≠ bt ∧ o ≠ some b ∧ o2 ≠ some b
/-- a type is being read. -/
structure RT (w : World) (bt : Nat) (s : Bs) (acc : List Ty) (A : Option Addr) (c : Nat) (acc2 : List Rl) (A2 : Option Addr) (c2 : Nat) (wr : World) : Prop where
  bel : Below w.heap.size w wr
  sb : wr.heap[w.heap.size + 1]? = some (.cells #[.slice A acc.length c] 25 (0, 0))
  tb : wr.heap[bt]? = some (.cells #[vs s, .slice A2 acc2.length c2] 35 (0, 0))
  ts : OwnL wr 35 2 (TyR wr (TF w bt (own A acc.length c) (own A2 acc2.length c2))) (.slice A acc.length c) acc
  rs : OwnL wr 48 6 (RelR wr (TF w bt (own A acc.length c) (own A2 acc2.length c2))) (.slice A2 acc2.length c2) acc2
  g1 : ∀ g, own A acc.length c = some g → w.heap.size + 2 ≤ g ∧ g ≠ bt ∧ own A2 acc2.length c2 ≠ some g
  g2 : ∀ g, own A2 acc2.length c2 = some g → w.heap.size + 2 ≤ g ∧ g ≠ bt
  ht : w.heap.size + 2 ≤ bt
theorem RT.turn {w : World} {bt : Nat} {s : Bs} {acc : List Ty} {A : Option Addr} {c : Nat} {acc2 : List Rl} {A2 : Option Addr} {c2 : Nat} {wr w' : World} {S : Nat → Prop}
    (h : RT w bt s acc A c acc2 A2 c2 wr) (hT : Turn S wr w') (hS : ∀ b, S b → b = w.heap.size) : RT w bt s acc A c acc2 A2 c2 w' := by
  have ht := h.ht
  have hk : ∀ b, w.heap.size + 1 ≤ b → ¬ S b := fun b hb hs => by have := hS b hs; omega
  have hF : ∀ b, TF w bt (own A acc.length c) (own A2 acc2.length c2) b → b < wr.heap.size → ¬ S b ∧ TF w bt (own A acc.length c) (own A2 acc2.length c2) b := fun b hb _ => ⟨hk b (by omega), hb⟩
  refine ⟨h.bel.trans (Turn.below hT h.bel.size (fun k hk' hs => by have := hS k hs; omega)), ?_, ?_, ?_, ?_, h.g1, h.g2, h.ht⟩
  · exact (hT.block _ (lt_of_heap h.sb) (hk _ (by omega))).trans h.sb
  · exact (hT.block _ (lt_of_heap h.tb) (hk _ (by omega))).trans h.tb
  · refine h.ts.kept (fun g hg => hT.block _ (h.ts.block_lt hg) (hk _ ?_)) (fun x cs hx => hx.turn hT hF)
    have := h.g1 g hg
    omega
  · refine h.rs.kept (fun g hg => hT.block _ (h.rs.block_lt hg) (hk _ ?_)) (fun x cs hx => hx.turn hT hF)
    have := h.g2 g hg
    omega
/-- a relation is put behind the others. -/
theorem RT.push {w : World} {bt : Nat} {s : Bs} {acc : List Ty} {A : Option Addr} {c : Nat} {acc2 : List Rl} {A2 A2' : Option Addr} {c2 c2' : Nat} {cs : List Value} {wr w6 : World} {x : Rl} {css : List (List Value)}
    (h : RT w bt s acc A c acc2 A2 c2 wr) (hx : RelR wr (TF w bt (own A acc.length c) (own A2 acc2.length c2)) x cs) (h6 : cs.length = 6)
    (hc1 : ∀ c ∈ css, c.length = 6) (hc3 : All2 (RelR wr (TF w bt (own A acc.length c) (own A2 acc2.length c2))) acc2 css)
    (hq : QRow w6 48 6 (.slice A2' (acc2.length + 1) c2') (acc2.length + 1) (css.flatten ++ cs)) (hg : (wr.alloc (.cells cs.toArray 48)).grownBy w6 (own A2 acc2.length c2))
    (hb : ∀ g, own A2' (acc2.length + 1) c2' = some g → own A2 acc2.length c2 = some g ∨ wr.heap.size + 1 ≤ g) :
    w6.heap[bt]? = some (.cells #[vs s, .slice A2 acc2.length c2] 35 (0, 0)) ∧ RT w bt s acc A c (acc2 ++ [x]) A2' c2' (w6.setCell ⟨bt, 1, none⟩ (.slice A2' (acc2.length + 1) c2')) ∧ Turn (fun b => own A2 acc2.length c2 = some b ∨ b = bt) wr (w6.setCell ⟨bt, 1, none⟩ (.slice A2' (acc2.length + 1) c2')) := by
  have hlen : (acc2 ++ [x]).length = acc2.length + 1 := by simp
  have hsz : wr.heap.size < w6.heap.size := by have := hg.size; simp at this; omega
  have hw5 : (wr.alloc (.cells cs.toArray 48)).heap.size = wr.heap.size + 1 := by simp
  have htb := lt_of_heap h.tb
  have hsb := lt_of_heap h.sb
  have hht := h.ht
  have hT : Turn (fun b => own A2 acc2.length c2 = some b ∨ b = bt) wr (w6.setCell ⟨bt, 1, none⟩ (.slice A2' (acc2.length + 1) c2')) :=
    Turn.trans (Turn.trans (Turn.alloc (fp := fun b => own A2 acc2.length c2 = some b ∨ b = bt) wr (.cells cs.toArray 48)) (Turn.grown (fp := fun b => own A2 acc2.length c2 = some b) hg (fun k hk => hk)) (fun k hk _ => .inl hk))
      (Turn.setCell (fp := fun b => b = bt) w6 ⟨bt, 1, none⟩ _ rfl) (fun k hk _ => .inr hk)
  have htb6 : w6.heap[bt]? = some (.cells #[vs s, .slice A2 acc2.length c2] 35 (0, 0)) := by
    rw [hg.block bt (by rw [hw5]; omega) (fun e => (h.g2 _ e.symm).2 rfl), alloc_old _ htb]; exact h.tb
  have hF : ∀ b, TF w bt (own A acc.length c) (own A2 acc2.length c2) b → b < wr.heap.size → ¬ (own A2 acc2.length c2 = some b ∨ b = bt) ∧ TF w bt (own A acc.length c) (own A2' (acc2.length + 1) c2') b := fun b hb' hl =>
    ⟨fun e => e.elim hb'.2.2.2 hb'.2.1, hb'.1, hb'.2.1, hb'.2.2.1, fun e => by
      rcases hb b e with h1 | h1
      · exact hb'.2.2.2 h1
      · omega⟩
  refine ⟨htb6, ⟨h.bel.trans (Turn.below hT h.bel.size (fun k hk hs => by
    rcases hs with e | e
    · have := (h.g2 _ e).1; omega
    · omega)), ?_, ?_, ?_, ?_, ?_, ?_, h.ht⟩, hT⟩
  · exact (hT.block _ hsb (fun e => by
      rcases e with e | e
      · have := (h.g2 _ e).1; omega
      · omega)).trans h.sb
  · rw [hlen]
    exact heap_setCell_same w6 bt 1 _ _ _ htb6
  · rw [hlen]
    refine h.ts.kept (fun g hg' => hT.block _ (h.ts.block_lt hg') (fun e => ?_)) (fun y ys hy => hy.turn hT hF)
    have := h.g1 g hg'
    rcases e with e | e
    · exact this.2.2 e
    · exact this.2.1 e
  · have hq' : QRow (w6.setCell ⟨bt, 1, none⟩ (.slice A2' (acc2.length + 1) c2')) 48 6 (.slice A2' (acc2.length + 1) c2') (acc2.length + 1) (css.flatten ++ cs) := by
      refine hq.kept (fun g hg' => heap_setCell_other _ _ _ _ ?_)
      show g ≠ bt
      rcases hb g hg' with e | e
      · exact (h.g2 g e).2
      · omega
    have := OwnL.snoc (w := wr) (v := .slice none 0 0) hc1 hc3 (R' := RelR (w6.setCell ⟨bt, 1, none⟩ (.slice A2' (acc2.length + 1) c2')) (TF w bt (own A acc.length c) (own A2' (acc2.length + 1) c2')))
      (x := x) (c := cs) h6 (fun y ys hy => hy.turn hT hF) (hx.turn hT hF) hq'
    rw [hlen]
    exact this
  · intro g hg'
    have h1 := h.g1 g hg'
    have hgl := h.ts.block_lt hg'
    refine ⟨h1.1, h1.2.1, fun e => ?_⟩
    rw [hlen] at e
    rcases hb g e with e | e
    · exact h1.2.2 e
    · omega
  · intro g hg'
    rw [hlen] at hg'
    rcases hb g hg' with e | e
    · exact h.g2 g e
    · exact ⟨by omega, by omega⟩
/-- between two types. -/
structure SSR (w : World) (acc : List Ty) (A : Option Addr) (c : Nat) (wr : World) : Prop where
  bel : Below w.heap.size w wr
  sb : wr.heap[w.heap.size + 1]? = some (.cells #[.slice A acc.length c] 25 (0, 0))
  ts : OwnL wr 35 2 (TyR wr (fun b => w.heap.size + 2 ≤ b ∧ own A acc.length c ≠ some b)) (.slice A acc.length c) acc
  g1 : ∀ g, own A acc.length c = some g → w.heap.size + 2 ≤ g
theorem SSR.turn {w : World} {acc : List Ty} {A : Option Addr} {c : Nat} {wr w' : World} {S : Nat → Prop} (h : SSR w acc A c wr) (hT : Turn S wr w') (hS : ∀ b, S b → b = w.heap.size) : SSR w acc A c w' := by
  have hn : ∀ b, w.heap.size + 1 ≤ b → ¬ S b := fun b hb hs => by have := hS b hs; omega
  refine ⟨h.bel.trans (Turn.below hT h.bel.size (fun k hk hs => by have := hS k hs; omega)), (hT.block _ (lt_of_heap h.sb) (hn _ (by omega))).trans h.sb, ?_, h.g1⟩
  refine h.ts.kept (fun g hg => hT.block _ (h.ts.block_lt hg) (hn _ ?_)) (fun x cs hx => hx.turn hT (fun b hb _ => ⟨hn _ (by omega), hb⟩))
  have := h.g1 g hg
  omega
theorem SSR.start {w : World} {acc : List Ty} {A : Option Addr} {c : Nat} {wr : World} (h : SSR w acc A c wr) (s : Bs) : RT w wr.heap.size s acc A c [] none 0 (wr.alloc (.cells #[vs s, .slice none 0 0] 35)) := by
  have hsb := lt_of_heap h.sb
  refine ⟨h.bel.alloc h.bel.size _, (alloc_old _ hsb).trans h.sb, heap_alloc_new _ _, ?_, OwnL.nil _ _ _ _, fun g hg => ?_, (fun g hg => by cases hg), by omega⟩
  · exact h.ts.kept (fun g hg => alloc_old _ (h.ts.block_lt hg)) (fun x cs hx => hx.turn (S := fun _ => False) (Turn.alloc _ _) (fun b hb hl => ⟨fun h => h, hb.1, by omega, hb.2, fun e => by cases e⟩))
  · have hgl := h.ts.block_lt hg
    exact ⟨h.g1 g hg, by omega, fun e => by cases e⟩
theorem RT.done {w : World} {bt : Nat} {s : Bs} {acc : List Ty} {A A' : Option Addr} {c c' : Nat} {acc2 : List Rl} {A2 : Option Addr} {c2 : Nat} {wr w6 : World} {css : List (List Value)}
    (h : RT w bt s acc A c acc2 A2 c2 wr) (hc1 : ∀ c ∈ css, c.length = 2) (hc3 : All2 (TyR wr (TF w bt (own A acc.length c) (own A2 acc2.length c2))) acc css)
    (hq : QRow w6 35 2 (.slice A' (acc.length + 1) c') (acc.length + 1) (css.flatten ++ [vs s, .slice A2 acc2.length c2])) (hg : (wr.alloc (.cells #[vs s, .slice A2 acc2.length c2] 35)).grownBy w6 (own A acc.length c))
    (hb : ∀ g, own A' (acc.length + 1) c' = some g → own A acc.length c = some g ∨ wr.heap.size + 1 ≤ g) :
    w6.heap[w.heap.size + 1]? = some (.cells #[.slice A acc.length c] 25 (0, 0)) ∧ SSR w (acc ++ [⟨s, acc2⟩]) A' c' (w6.setCell ⟨w.heap.size + 1, 0, none⟩ (.slice A' (acc.length + 1) c')) ∧ Turn (fun b => own A acc.length c = some b ∨ b = w.heap.size + 1) wr (w6.setCell ⟨w.heap.size + 1, 0, none⟩ (.slice A' (acc.length + 1) c')) := by
  have hlen : (acc ++ [(⟨s, acc2⟩ : Ty)]).length = acc.length + 1 := by simp
  have hw5 : (wr.alloc (.cells #[vs s, .slice A2 acc2.length c2] 35)).heap.size = wr.heap.size + 1 := by simp
  have hsz : wr.heap.size < w6.heap.size := by have := hg.size; simp at this; omega
  have hsb := lt_of_heap h.sb
  have hT : Turn (fun b => own A acc.length c = some b ∨ b = w.heap.size + 1) wr (w6.setCell ⟨w.heap.size + 1, 0, none⟩ (.slice A' (acc.length + 1) c')) :=
    Turn.trans (Turn.trans (Turn.alloc (fp := fun b => own A acc.length c = some b ∨ b = w.heap.size + 1) wr (.cells #[vs s, .slice A2 acc2.length c2] 35)) (Turn.grown (fp := fun b => own A acc.length c = some b) hg (fun k hk => hk)) (fun k hk _ => .inl hk))
      (Turn.setCell (fp := fun b => b = w.heap.size + 1) w6 ⟨w.heap.size + 1, 0, none⟩ _ rfl) (fun k hk _ => .inr hk)
  have hF : ∀ b, TF w bt (own A acc.length c) (own A2 acc2.length c2) b ∨ own A2 acc2.length c2 = some b → b < wr.heap.size → ¬ (own A acc.length c = some b ∨ b = w.heap.size + 1) ∧ (w.heap.size + 2 ≤ b ∧ own A' (acc.length + 1) c' ≠ some b) := fun b hb' hl => by
    have h1 : w.heap.size + 2 ≤ b ∧ own A acc.length c ≠ some b := by
      rcases hb' with hb' | hb'
      · exact ⟨hb'.1, hb'.2.2.1⟩
      · exact ⟨(h.g2 b hb').1, fun e => (h.g1 b e).2.2 hb'⟩
    refine ⟨fun e => e.elim h1.2 (by omega), h1.1, fun e => ?_⟩
    rcases hb b e with e | e
    · exact h1.2 e
    · omega
  have hsb6 : w6.heap[w.heap.size + 1]? = some (.cells #[.slice A acc.length c] 25 (0, 0)) := by
    rw [hg.block _ (by rw [hw5]; omega) (fun e => by have := (h.g1 _ e.symm).1; omega), alloc_old _ hsb]; exact h.sb
  refine ⟨hsb6, ⟨h.bel.trans (Turn.below hT h.bel.size (fun k hk hs => by
    rcases hs with e | e
    · have := (h.g1 _ e).1; omega
    · omega)), ?_, ?_, ?_⟩, hT⟩
  · rw [hlen]; exact heap_setCell_same w6 (w.heap.size + 1) 0 _ _ _ hsb6
  · have hq' : QRow (w6.setCell ⟨w.heap.size + 1, 0, none⟩ (.slice A' (acc.length + 1) c')) 35 2 (.slice A' (acc.length + 1) c') (acc.length + 1) (css.flatten ++ [vs s, .slice A2 acc2.length c2]) := by
      refine hq.kept (fun g hg' => heap_setCell_other _ _ _ _ ?_)
      show g ≠ w.heap.size + 1
      rcases hb g hg' with e | e
      · have := (h.g1 g e).1; omega
      · omega
    have hrd : SlV wr (fun b => TF w bt (own A acc.length c) (own A2 acc2.length c2) b ∨ own A2 acc2.length c2 = some b) 6 (RelR wr (TF w bt (own A acc.length c) (own A2 acc2.length c2))) acc2 A2 acc2.length := h.rs.read (by decide) (fun g hg' => .inr hg')
    have hx : TyR (w6.setCell ⟨w.heap.size + 1, 0, none⟩ (.slice A' (acc.length + 1) c')) (fun b => w.heap.size + 2 ≤ b ∧ own A' (acc.length + 1) c' ≠ some b) ⟨s, acc2⟩ [vs s, .slice A2 acc2.length c2] :=
      ⟨A2, acc2.length, c2, rfl, hrd.keep (by decide) (fun b hb' hl => (hF b hb' hl).2) (turn_cell hT (fun b hb' hl => (hF b hb' hl).1)) (fun y ys hy => hy.turn hT (fun b hb' hl => hF b (.inl hb') hl))⟩
    have := OwnL.snoc (w := wr) (v := .slice none 0 0) hc1 hc3 (R' := TyR (w6.setCell ⟨w.heap.size + 1, 0, none⟩ (.slice A' (acc.length + 1) c')) (fun b => w.heap.size + 2 ≤ b ∧ own A' (acc.length + 1) c' ≠ some b))
      (x := ⟨s, acc2⟩) (c := [vs s, .slice A2 acc2.length c2]) rfl (fun y ys hy => hy.turn hT (fun b hb' hl => hF b (.inl hb') hl)) hx hq'
    rw [hlen]
    exact this
  · intro g hg'
    rw [hlen] at hg'
    rcases hb g hg' with e | e
    · exact (h.g1 g e).1
    · omega
end Go.Proofs.YtgmlcnikphbiiaaDoor.L

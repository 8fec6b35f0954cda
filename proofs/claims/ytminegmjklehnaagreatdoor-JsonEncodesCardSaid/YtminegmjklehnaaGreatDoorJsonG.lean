/-
  The reader of JSON: what list reads piece by piece.
-/
import Derived.Test.YtminegmjklehnaaGreatDoorJsonF
namespace Go.Proofs.YtminegmjklehnaaGreatDoor.J
open Go.RowKit Go.Proofs.YtminegmjklehnaaGreatDoor.B
open Go.Proofs.YtminegmjklehnaaGreatDoor.M hiding Bs
open Go.Proofs.YtminegmjklehnaaGreatDoor.C (QRow Turn)
set_option linter.unusedVariables false
set_option linter.unusedSimpArgs false

def ValV (w : World) (w' : World) (j : Js) (e : Ending) : Prop := ∃ v, e = .returned v ∧ JsV w' (fun b => w.heap.size ≤ b) j v
/-- value, as far as it reads so. -/
def VSpec (p : P Js) (deep : Int) : Prop := ∀ (w : World) (rb : Nat) (L : Bs), RB w rb L deep → Tabs rb w →
  Calls Tryz.prog 29 #[.pointer (some ⟨rb, 0, none⟩)] w (Ends rb deep w (ValV w) (p L))
/-- how a piece ends. -/
def OneEnds {σ : Type} (B0 rb : Nat) (deep : Int) (w : World) (S : σ → World → Prop) (r : Except Int (σ × Bs)) (e : Ending) (w' : World) : Prop :=
  Turn (fun k => k = rb ∨ B0 ≤ k) w w' ∧ match r with
  | .ok (a, L) => e = .returned (.tuple #[]) ∧ S a w' ∧ RB w' rb L deep
  | .error d => e = .panicked (erChain d)
def LSt (B0 rb pb jb : Nat) (acc : List Js) (w : World) : Prop := ∃ B c, LS B0 rb pb jb acc B c w
theorem infoJson : (Tryz.prog.info? 27).map (fun i => (i.zero, i.size, i.bytes)) = some (some (.agg #[.int .i64 0, .int .i64 0, .string ⟨#[]⟩, .slice none 0 0, .slice none 0 0]), 5, 80) := by kernel_rfl
theorem RB.drew {w : World} {rb : Nat} {L : Bs} {deep : Int} (h : RB w rb L deep) : RB w.drew rb L deep := ⟨h.heap, h.len⟩
theorem Tabs.drew {rb : Nat} {w : World} (h : Tabs rb w) : Tabs rb w.drew := h.at (At.drew (At.refl _ _))
theorem turn_at {B0 rb : Nat} {w w' : World} (h : At rb w w') : Turn (fun k => k = rb ∨ B0 ≤ k) w w' := Turn.mono h (fun k hk _ => .inl hk)
theorem ends_val {rb : Nat} {deep : Int} {w w' : World} {r : Except Int (Js × Bs)} {e : Ending} (h : Ends rb deep w (ValV w) r e w') :
    (∃ d, r = .error d ∧ e = .panicked (erChain d) ∧ At rb w w') ∨ (∃ x M k n t A an ac B bn bc, r = .ok (x, M) ∧ e = .returned (jAgg k n t A an ac B bn bc) ∧ At rb w w' ∧ JsV w' (fun b => w.heap.size ≤ b) x (jAgg k n t A an ac B bn bc) ∧ RB w' rb M deep) := by
  obtain ⟨hA, hM⟩ := h
  cases r with
  | error d => exact .inl ⟨d, rfl, hM, hA⟩
  | ok q =>
    obtain ⟨x, M⟩ := q
    obtain ⟨⟨v, he, hV⟩, hR⟩ := hM
    obtain ⟨k, n, t, A, an, ac, B, bn, bc, rfl⟩ := hV.form
    exact .inr ⟨x, M, k, n, t, A, an, ac, B, bn, bc, rfl, he, hA, hV, hR⟩
theorem jc_new (w : World) (cs : List Value) (t : TypeId) : ∀ j u, cs[j]? = some u → (w.alloc (.cells cs.toArray t)).cell? ((⟨w.heap.size, 0, none⟩ : Addr).add j) = some u := fun j u hu => by
  rw [Addr.add_lit, Nat.zero_add, cell_of_row _ _ _ _ _ (0, 0) (heap_alloc_new w _)]
  simpa using hu
abbrev z5 : List Value := [.int .i64 0, .int .i64 0, .string ⟨#[]⟩, .slice none 0 0, .slice none 0 0]
/-- what append leaves, ahead of the element's own store. -/
structure Grew (w6 : World) (B0 : Nat) (pb jb g off cap n : Nat) (cur : Array Value) (css : List (List Value)) : Prop where
  heap : w6.heap[g]? = some (.cells cur 27 (0, 0))
  hn : n + 1 ≤ cap
  fit : off + cap * 5 ≤ cur.size
  max : cap ≤ maxLen
  take : (cur.toList.drop off).take ((n + 1) * 5) = css.flatten ++ z5
  len : css.flatten.length = n * 5
  g1 : B0 ≤ g ∧ g ≠ pb ∧ g ≠ jb
theorem Grew.cell {w6 : World} {B0 pb jb g off cap n : Nat} {cur : Array Value} {css : List (List Value)} (h : Grew w6 B0 pb jb g off cap n cur css) {i : Nat} {z : Value} (hz : z5[i]? = some z) :
    cur[off + n * 5 + i]? = some z ∧ w6.cell? ⟨g, off + n * 5 + i, none⟩ = some z ∧ w6.frozen? ⟨g, off + n * 5 + i, none⟩ = false := by
  have hi : i < 5 := (List.getElem?_eq_some_iff.1 hz).1
  have h1 : ((cur.toList.drop off).take ((n + 1) * 5))[n * 5 + i]? = some z := by
    rw [h.take, List.getElem?_append_right (by rw [h.len]; omega), h.len, show n * 5 + i - n * 5 = i by omega]
    exact hz
  rw [List.getElem?_take] at h1
  split at h1
  · rw [List.getElem?_drop] at h1
    have h2 : cur[off + n * 5 + i]? = some z := by
      rw [show off + n * 5 + i = off + (n * 5 + i) by omega, ← Array.getElem?_toList]
      exact h1
    exact ⟨h2, by rw [cell_of_row w6 g _ cur _ (0, 0) h.heap]; exact h2, frozen_of_row w6 g _ cur _ h.heap⟩
  · cases h1
/-- the same list, but for five cells at its end. -/
theorem set_end (cur : List Value) (off n : Nat) (pre : List Value) (hl : pre.length = n * 5) (x0 x1 x2 x3 x4 : Value) (ht : (cur.drop off).take ((n + 1) * 5) = pre ++ z5) :
    ((((((cur.set (off + n * 5) x0).set (off + n * 5 + 1) x1).set (off + n * 5 + 2) x2).set (off + n * 5 + 3) x3).set (off + n * 5 + 4) x4).drop off).take ((n + 1) * 5) = pre ++ [x0, x1, x2, x3, x4] := by
  have e : ∀ (l : List Value) (k : Nat) (x : Value), (l.set (off + k) x).drop off = (l.drop off).set k x := by
    intro l k x
    rw [List.drop_set]
    split
    · omega
    · congr 1; omega
  rw [show off + n * 5 + 1 = off + (n * 5 + 1) by omega, show off + n * 5 + 2 = off + (n * 5 + 2) by omega, show off + n * 5 + 3 = off + (n * 5 + 3) by omega, show off + n * 5 + 4 = off + (n * 5 + 4) by omega]
  rw [e, e, e, e, e, List.take_set, List.take_set, List.take_set, List.take_set, List.take_set, ht]
  have s : ∀ (k : Nat) (l : List Value) (x : Value), (pre ++ l).set (n * 5 + k) x = pre ++ l.set k x := by
    intro k l x
    rw [List.set_append_right _ _ (by omega)]
    congr 2
    omega
  rw [show n * 5 = n * 5 + 0 by omega, s, show n * 5 + 0 + 1 = n * 5 + 1 by omega, s, show n * 5 + 0 + 2 = n * 5 + 2 by omega, s, show n * 5 + 0 + 3 = n * 5 + 3 by omega, s, show n * 5 + 0 + 4 = n * 5 + 4 by omega, s]
  rfl
theorem grew_of {w5 w6 : World} {B0 rb pb jb : Nat} {acc : List Js} {B : Option Addr} {c : Nat} (h : LS B0 rb pb jb acc B c w5) {css : List (List Value)} (hc1 : ∀ c ∈ css, c.length = 5) (hcl : css.length = acc.length) {v' : Value}
    (hq : QRow w6 27 5 v' (acc.length + 1) (css.flatten ++ z5)) (hb : ∀ g, v'.ownBlock = some g → (Value.slice B acc.length c).ownBlock = some g ∨ w5.heap.size ≤ g) :
    ∃ g off cap cur, v' = .slice (some ⟨g, off, none⟩) (acc.length + 1) cap ∧ Grew w6 B0 pb jb g off cap acc.length cur css ∧ (own B acc.length c = some g ∨ w5.heap.size ≤ g) := by
  rcases hq.2 with ⟨-, h0⟩ | ⟨g, off, cap, cur, rfl, h2, h3, h4, h5, h6⟩
  · omega
  · have hg := hb g rfl
    refine ⟨g, off, cap, cur, rfl, ⟨h2, h3, h4, h5, h6, ?_, ?_⟩, hg⟩
    · rw [flat_len hc1, hcl]
    · rcases hg with hg | hg
      · exact h.g1 g hg
      · have h7 := lt_of_heap h.box
        have h8 := lt_of_heap h.jc
        have h9 := h.hjb
        exact ⟨by omega, by omega, by omega⟩
theorem LS.jb6 {B0 rb pb jb : Nat} {acc : List Js} {B : Option Addr} {c : Nat} {w5 w6 : World} (h : LS B0 rb pb jb acc B c w5) (hg : Turn (fun k => some k = own B acc.length c) w5 w6) :
    w6.heap[jb]? = some (.cells (jcs 4 0 [] none 0 0 B acc.length c) 27 (0, 0)) := by
  rw [hg.block jb (lt_of_heap h.jc) (fun e => (h.g1 _ e.symm).2.2 rfl)]
  exact h.jc
theorem grown_turn {w w' : World} {v : Value} (h : w.grownBy w' v.ownBlock) : Turn (fun k => some k = v.ownBlock) w w' := Turn.grown h (fun k hk => hk.symm)
theorem grown_turnA {w w' : World} {o : Obj} {v : Value} (h : (w.alloc o).grownBy w' v.ownBlock) : Turn (fun k => some k = v.ownBlock) w w' := turn_then (Turn.alloc _ _) (grown_turn h)
theorem jc_kept {w w' : World} {rb g : Nat} {cs : List Value} {t : TypeId} (hg : w.heap[g]? = some (.cells cs.toArray t (0, 0))) (hA : At rb w w') (hne : g ≠ rb) : ∀ j u, cs[j]? = some u → w'.cell? ((⟨g, 0, none⟩ : Addr).add j) = some u := fun j u hu => by
  rw [Addr.add_lit, Nat.zero_add, cell_of_row _ _ _ _ _ (0, 0) ((hA.block g (lt_of_heap hg) hne).trans hg)]
  simpa using hu
theorem imp_le {w : World} {o : Obj} {v v' : Value} (h : ∀ g, v'.ownBlock = some g → v.ownBlock = some g ∨ (w.alloc o).heap.size ≤ g) : ∀ g, v'.ownBlock = some g → v.ownBlock = some g ∨ w.heap.size ≤ g := fun g hg => (h g hg).imp id (fun h => by simp at h; omega)
/-- what is known behind the call. -/
structure Read5 (p : P Js) (deep : Int) (B0 rb pb jb : Nat) (acc : List Js) (B : Option Addr) (c : Nat) (css : List (List Value)) (w W w5 : World) (L : Bs) (x : Js) (M : Bs) (xk xn : Int) (xt : Bs) (xA : Option Addr) (xan xac : Nat) (xB : Option Addr) (xbn xbc : Nat) : Prop where
  hp : p L = .ok (x, M)
  at0 : At rb w W
  hA : At rb W w5
  hx : JsV w5 (fun b => W.heap.size ≤ b) x (jAgg xk xn xt xA xan xac xB xbn xbc)
  hR : RB w5 rb M deep
  ls0 : LS B0 rb pb jb acc B c W
  ls : LS B0 rb pb jb acc B c w5
  hc1 : ∀ c ∈ css, c.length = 5
  hc3 : All2 (JsR w5 (KF B0 pb jb (own B acc.length c))) acc css
abbrev sets5 (cur : Array Value) (o : Nat) (y0 y1 y2 y3 y4 : Value) : Array Value := ((((cur.setIfInBounds o y0).setIfInBounds (o + 1) y1).setIfInBounds (o + 2) y2).setIfInBounds (o + 3) y3).setIfInBounds (o + 4) y4
abbrev stores5 (w : World) (g o : Nat) (y0 y1 y2 y3 y4 : Value) : World := ((((w.setCell ⟨g, o, none⟩ y0).setCell ⟨g, o + 1, none⟩ y1).setCell ⟨g, o + 2, none⟩ y2).setCell ⟨g, o + 3, none⟩ y3).setCell ⟨g, o + 4, none⟩ y4
theorem stores5_heap {w : World} {g o : Nat} {cur : Array Value} {e : TypeId} (h : w.heap[g]? = some (.cells cur e (0, 0))) (y0 y1 y2 y3 y4 : Value) : (stores5 w g o y0 y1 y2 y3 y4).heap[g]? = some (.cells (sets5 cur o y0 y1 y2 y3 y4) e (0, 0)) :=
  heap_setCell_same _ g (o + 4) _ _ y4 (heap_setCell_same _ g (o + 3) _ _ y3 (heap_setCell_same _ g (o + 2) _ _ y2 (heap_setCell_same _ g (o + 1) _ _ y1 (heap_setCell_same w g o _ _ y0 h))))
theorem stores5_turn {fp : Nat → Prop} (w : World) (g o : Nat) (hg : fp g) (y0 y1 y2 y3 y4 : Value) : Turn fp w (stores5 w g o y0 y1 y2 y3 y4) :=
  turn_then (turn_then (turn_then (turn_then (Turn.setCell _ _ _ hg) (Turn.setCell _ _ _ hg)) (Turn.setCell _ _ _ hg)) (Turn.setCell _ _ _ hg)) (Turn.setCell _ _ _ hg)
/-- the element is stored, and the list's field, in either order. -/
structure Stored (w6 W : World) (jb g off cap n : Nat) (cur : Array Value) (y0 y1 y2 y3 y4 : Value) : Prop where
  row : W.heap[g]? = some (.cells (sets5 cur (off + n * 5) y0 y1 y2 y3 y4) 27 (0, 0))
  jc : W.heap[jb]? = some (.cells (jcs 4 0 [] none 0 0 (some ⟨g, off, none⟩) (n + 1) cap) 27 (0, 0))
  turn : Turn (fun k => k = g ∨ k = jb) w6 W
theorem stored_text {w6 : World} {jb g off cap n : Nat} {cur : Array Value} {B : Option Addr} {c : Nat} (hg : w6.heap[g]? = some (.cells cur 27 (0, 0))) (hj : w6.heap[jb]? = some (.cells (jcs 4 0 [] none 0 0 B n c) 27 (0, 0))) (hne : g ≠ jb) (y0 y1 y2 y3 y4 : Value) :
    Stored w6 ((stores5 w6 g (off + n * 5) y0 y1 y2 y3 y4).setCell ⟨jb, 4, none⟩ (.slice (some ⟨g, off, none⟩) (n + 1) cap)) jb g off cap n cur y0 y1 y2 y3 y4 := by
  have hT := stores5_turn (fp := fun k => k = g ∨ k = jb) w6 g (off + n * 5) (.inl rfl) y0 y1 y2 y3 y4
  have hT1 := stores5_turn (fp := fun k => k = g) w6 g (off + n * 5) rfl y0 y1 y2 y3 y4
  have h1 := stores5_heap (o := off + n * 5) hg y0 y1 y2 y3 y4
  refine ⟨?_, ?_, turn_then hT (Turn.setCell _ _ _ (.inr rfl))⟩
  · exact (heap_setCell_other _ _ _ _ (by show g ≠ jb; exact hne)).trans h1
  · exact heap_setCell_same _ jb 4 _ _ _ ((hT1.block jb (lt_of_heap hj) (fun e => hne e.symm)).trans hj)
theorem stored_gc {w6 : World} {jb g off cap n : Nat} {cur : Array Value} {B : Option Addr} {c : Nat} (hg : w6.heap[g]? = some (.cells cur 27 (0, 0))) (hj : w6.heap[jb]? = some (.cells (jcs 4 0 [] none 0 0 B n c) 27 (0, 0))) (hne : g ≠ jb) (y0 y1 y2 y3 y4 : Value) :
    Stored w6 (stores5 (w6.setCell ⟨jb, 4, none⟩ (.slice (some ⟨g, off, none⟩) (n + 1) cap)) g (off + n * 5) y0 y1 y2 y3 y4) jb g off cap n cur y0 y1 y2 y3 y4 := by
  have h0 : (w6.setCell ⟨jb, 4, none⟩ (.slice (some ⟨g, off, none⟩) (n + 1) cap)).heap[g]? = some (.cells cur 27 (0, 0)) := (heap_setCell_other _ _ _ _ (by show g ≠ jb; exact hne)).trans hg
  have h1 : (w6.setCell ⟨jb, 4, none⟩ (.slice (some ⟨g, off, none⟩) (n + 1) cap)).heap[jb]? = some (.cells (jcs 4 0 [] none 0 0 (some ⟨g, off, none⟩) (n + 1) cap) 27 (0, 0)) := heap_setCell_same _ jb 4 _ _ _ hj
  have hT0 : Turn (fun k => k = g ∨ k = jb) w6 (w6.setCell ⟨jb, 4, none⟩ (.slice (some ⟨g, off, none⟩) (n + 1) cap)) := Turn.setCell _ _ _ (.inr rfl)
  generalize w6.setCell ⟨jb, 4, none⟩ (.slice (some ⟨g, off, none⟩) (n + 1) cap) = V at *
  have hT := stores5_turn (fp := fun k => k = g ∨ k = jb) V g (off + n * 5) (.inl rfl) y0 y1 y2 y3 y4
  have hT1 := stores5_turn (fp := fun k => k = g) V g (off + n * 5) rfl y0 y1 y2 y3 y4
  exact ⟨stores5_heap h0 _ _ _ _ _, (hT1.block jb (lt_of_heap h1) (fun e => hne e.symm)).trans h1, turn_then hT0 hT⟩
theorem sets5_list (cur : Array Value) (o : Nat) (y0 y1 y2 y3 y4 : Value) : (sets5 cur o y0 y1 y2 y3 y4).toList = ((((cur.toList.set o y0).set (o + 1) y1).set (o + 2) y2).set (o + 3) y3).set (o + 4) y4 := by
  unfold sets5
  simp
theorem LS.push {p : P Js} {deep : Int} {B0 rb pb jb : Nat} {acc : List Js} {B : Option Addr} {c : Nat} {css : List (List Value)} {w W5 w5 w6 W : World} {L : Bs} {x : Js} {M : Bs} {xk xn : Int} {xt : Bs} {xA : Option Addr} {xan xac : Nat} {xB : Option Addr} {xbn xbc : Nat}
    (h : Read5 p deep B0 rb pb jb acc B c css w W5 w5 L x M xk xn xt xA xan xac xB xbn xbc) (hT6 : Turn (fun k => some k = own B acc.length c) w5 w6) {g off cap : Nat} {cur : Array Value} (hG : Grew w6 B0 pb jb g off cap acc.length cur css)
    (hown : own B acc.length c = some g ∨ w5.heap.size ≤ g) (hS : Stored w6 W jb g off cap acc.length cur (.int .i64 xk) (.int .i64 xn) (vs xt) (.slice xA xan xac) (.slice xB xbn xbc)) :
    LSt B0 rb pb jb (acc ++ [x]) W ∧ RB W rb M deep ∧ Turn (fun k => k = rb ∨ B0 ≤ k) w W := by
  have hrb := h.ls.hrb
  have hpbl := lt_of_heap h.ls.box
  have hjbl := lt_of_heap h.ls.jc
  have hg1 := hG.g1
  have hTW : Turn (fun k => k = jb ∨ some k = own B acc.length c ∨ w5.heap.size ≤ k) w5 W := by
    refine Turn.trans (Turn.mono hT6 (fun k hk _ => .inr (.inl hk))) hS.turn (fun k hk hlt => ?_)
    rcases hk with rfl | rfl
    · rcases hown with ho | ho
      · exact .inr (.inl ho.symm)
      · exact .inr (.inr ho)
    · exact .inl rfl
  have hsz5 := h.hA.size
  have hbw0 : B0 ≤ W5.heap.size := by have := lt_of_heap h.ls0.jc; have := h.ls0.hjb; omega
  refine ⟨⟨some ⟨g, off, none⟩, cap, ?_⟩, ?_, ?_⟩
  · refine ⟨hrb, h.ls.hpb, h.ls.hjb, h.ls.hne, ?_, ?_, ?_, ?_⟩
    · rw [hTW.block pb hpbl (fun hk => by
        rcases hk with hk | hk | hk
        · exact h.ls.hne hk
        · exact (h.ls.g1 _ hk.symm).2.1 rfl
        · omega)]
      exact h.ls.box
    · rw [List.length_append]; exact hS.jc
    · rw [show (Value.slice (some ⟨g, off, none⟩) (acc ++ [x]).length cap) = .slice (some ⟨g, off, none⟩) (acc.length + 1) cap by simp]
      refine ⟨css ++ [[.int .i64 xk, .int .i64 xn, vs xt, .slice xA xan xac, .slice xB xbn xbc]], ?_, ?_, ?_⟩
      · intro d hd
        rcases List.mem_append.1 hd with hd | hd
        · exact h.hc1 d hd
        · rw [List.mem_singleton.1 hd]; rfl
      · refine ⟨?_, .inr ⟨g, off, cap, _, by simp, hS.row, by simp; exact hG.hn, by simp [sets5]; exact hG.fit, hG.max, ?_⟩⟩
        · rw [List.flatten_append, List.length_append, hG.len]; simp; omega
        · rw [sets5_list, List.flatten_append]
          have := set_end cur.toList off acc.length css.flatten hG.len (.int .i64 xk) (.int .i64 xn) (vs xt) (.slice xA xan xac) (.slice xB xbn xbc) hG.take
          simpa using this
      · refine All2.snoc (h.hc3.mono (fun y cs hy => ?_)) ?_
        · refine hy.turn hTW (fun b hb hl => ⟨fun hk => ?_, hb.1, hb.2.1, hb.2.2.1, ?_⟩)
          · rcases hk with hk | hk | hk
            · exact hb.2.2.1 hk
            · exact hb.2.2.2 hk.symm
            · omega
          · intro e
            have e : g = b := Option.some.inj e
            subst e
            rcases hown with ho | ho
            · exact hb.2.2.2 ho
            · omega
        · refine ⟨rfl, h.hx.turn hTW (fun b hb hl => ⟨fun hk => ?_, by omega, ?_, ?_, ?_⟩)⟩
          · rcases hk with hk | hk | hk
            · have := lt_of_heap h.ls0.jc; omega
            · have := h.ls0.row.block_lt hk.symm; omega
            · omega
          · have := lt_of_heap h.ls0.box; omega
          · have := lt_of_heap h.ls0.jc; omega
          · intro e
            have e : g = b := Option.some.inj e
            subst e
            rcases hown with ho | ho
            · have := h.ls0.row.block_lt ho; omega
            · omega
    · intro g' hg'
      have e : g = g' := Option.some.inj hg'
      subst e
      exact hg1
  · exact h.hR.kept (hTW.block rb h.hR.lt (fun hk => by
      rcases hk with hk | hk | hk
      · have := h.ls.hjb; omega
      · have := (h.ls.g1 _ hk.symm).1; omega
      · have := h.hR.lt; omega))
  · refine Turn.trans (turn_at (At.trans h.at0 h.hA)) hTW (fun k hk hlt => ?_)
    rcases hk with hk | hk | hk
    · right; rw [hk]; exact h.ls.hjb
    · right; exact (h.ls.g1 _ hk.symm).1
    · right; have := h.ls.hjb; omega
theorem LS.fin {W : World} {p : P Js} {deep : Int} {B0 rb pb jb : Nat} {acc : List Js} {B : Option Addr} {c : Nat} {css : List (List Value)} {w W5 w5 w6 : World} {L : Bs} {x : Js} {M : Bs} {xk xn : Int} {xt : Bs} {xA : Option Addr} {xan xac : Nat} {xB : Option Addr} {xbn xbc : Nat}
    (h : Read5 p deep B0 rb pb jb acc B c css w W5 w5 L x M xk xn xt xA xan xac xB xbn xbc) {g off cap : Nat} {cur : Array Value}
    (h6 : Turn (fun k => some k = own B acc.length c) w5 w6 ∧ Grew w6 B0 pb jb g off cap acc.length cur css ∧ (own B acc.length c = some g ∨ w5.heap.size ≤ g) ∧ w6.heap[jb]? = some (.cells (jcs 4 0 [] none 0 0 B acc.length c) 27 (0, 0))) (hgj : g ≠ jb)
    (hS : Stored w6 W jb g off cap acc.length cur (.int .i64 xk) (.int .i64 xn) (vs xt) (.slice xA xan xac) (.slice xB xbn xbc)) : OneEnds B0 rb deep w (LSt B0 rb pb jb) (oneL p acc L) (.returned (.tuple #[])) W := by
  obtain ⟨hT6, hG, hown, hjb6⟩ := h6
  obtain ⟨h1, h2, h3⟩ := LS.push h hT6 hG hown hS
  refine ⟨h3, ?_⟩
  rw [show oneL p acc L = .ok (acc ++ [x], M) by unfold oneL; rw [h.hp]]
  exact ⟨rfl, h1, h2⟩
theorem LS.fin_text {p : P Js} {deep : Int} {B0 rb pb jb : Nat} {acc : List Js} {B : Option Addr} {c : Nat} {css : List (List Value)} {w W5 w5 w6 : World} {L : Bs} {x : Js} {M : Bs} {xk xn : Int} {xt : Bs} {xA : Option Addr} {xan xac : Nat} {xB : Option Addr} {xbn xbc : Nat}
    (h : Read5 p deep B0 rb pb jb acc B c css w W5 w5 L x M xk xn xt xA xan xac xB xbn xbc) {g off cap : Nat} {cur : Array Value}
    (h6 : Turn (fun k => some k = own B acc.length c) w5 w6 ∧ Grew w6 B0 pb jb g off cap acc.length cur css ∧ (own B acc.length c = some g ∨ w5.heap.size ≤ g) ∧ w6.heap[jb]? = some (.cells (jcs 4 0 [] none 0 0 B acc.length c) 27 (0, 0))) (hgj : g ≠ jb) :
    OneEnds B0 rb deep w (LSt B0 rb pb jb) (oneL p acc L) (.returned (.tuple #[])) ((((((w6.setCell ⟨g, off + acc.length * 5, none⟩ (.int .i64 xk)).setCell ⟨g, off + acc.length * 5 + 1, none⟩ (.int .i64 xn)).setCell ⟨g, off + acc.length * 5 + 2, none⟩ (.string ⟨xt.toArray⟩)).setCell ⟨g, off + acc.length * 5 + 3, none⟩ (.slice xA xan xac)).setCell ⟨g, off + acc.length * 5 + 4, none⟩ (.slice xB xbn xbc)).setCell ⟨jb, 4, none⟩ (.slice (some ⟨g, off, none⟩) (acc.length + 1) cap)) :=
  LS.fin h h6 hgj (stored_text h6.2.1.heap h6.2.2.2 hgj _ _ _ _ _)
theorem LS.fin_gc {p : P Js} {deep : Int} {B0 rb pb jb : Nat} {acc : List Js} {B : Option Addr} {c : Nat} {css : List (List Value)} {w W5 w5 w6 : World} {L : Bs} {x : Js} {M : Bs} {xk xn : Int} {xt : Bs} {xA : Option Addr} {xan xac : Nat} {xB : Option Addr} {xbn xbc : Nat}
    (h : Read5 p deep B0 rb pb jb acc B c css w W5 w5 L x M xk xn xt xA xan xac xB xbn xbc) {g off cap : Nat} {cur : Array Value}
    (h6 : Turn (fun k => some k = own B acc.length c) w5 w6 ∧ Grew w6 B0 pb jb g off cap acc.length cur css ∧ (own B acc.length c = some g ∨ w5.heap.size ≤ g) ∧ w6.heap[jb]? = some (.cells (jcs 4 0 [] none 0 0 B acc.length c) 27 (0, 0))) (hgj : g ≠ jb) :
    OneEnds B0 rb deep w (LSt B0 rb pb jb) (oneL p acc L) (.returned (.tuple #[])) ((((((w6.setCell ⟨jb, 4, none⟩ (.slice (some ⟨g, off, none⟩) (acc.length + 1) cap)).setCell ⟨g, off + acc.length * 5, none⟩ (.int .i64 xk)).setCell ⟨g, off + acc.length * 5 + 1, none⟩ (.int .i64 xn)).setCell ⟨g, off + acc.length * 5 + 2, none⟩ (.string ⟨xt.toArray⟩)).setCell ⟨g, off + acc.length * 5 + 3, none⟩ (.slice xA xan xac)).setCell ⟨g, off + acc.length * 5 + 4, none⟩ (.slice xB xbn xbc)) :=
  LS.fin h h6 hgj (stored_gc h6.2.1.heap h6.2.2.2 hgj _ _ _ _ _)
set_option maxRecDepth 100000 in
set_option maxHeartbeats 8000000 in
theorem listOne_calls {p : P Js} {deep : Int} (hv : VSpec p deep) {B0 rb pb jb : Nat} {acc : List Js} {B : Option Addr} {c : Nat} {w : World} {L : Bs} (h : LS B0 rb pb jb acc B c w) (hR : RB w rb L deep) (hT : Tabs rb w) (hl : acc.length ≤ 1000000000) :
    Calls Tryz.prog 72 #[.pointer (some ⟨jb, 0, none⟩), .pointer (some ⟨pb, 0, none⟩)] w (OneEnds B0 rb deep w (LSt B0 rb pb jb) (oneL p acc L)) := by
  obtain ⟨i0, hi, hz0, hz1, hz2⟩ := info_parts infoJson
  have HI := Lib.hid hi; clear hi
  have HZ0 := Lib.hid hz0; clear hz0
  have HZ1 := Lib.hid hz1; clear hz1
  have HZ2 := Lib.hid hz2; clear hz2
  have hA1 : At rb w w.drew := At.drew (At.refl rb w)
  have hA2 : At rb w (w.alloc (.cells z5.toArray 27)).drew := At.drew (Turn.alloc _ _)
  have HC := Lib.hid (fun W (hA : At rb w W) (hb : W.heap[rb]? = w.heap[rb]?) => hv W rb L (hR.kept hb) (hT.at hA))
  have HO := Lib.hid (show oneL p acc L = match p L with | .error e => .error e | .ok (x, M) => .ok (acc ++ [x], M) from rfl)
  have HLS1 := Lib.hid (h.at hA1)
  have HLS2 := Lib.hid (h.at hA2)
  have HA1 := Lib.hid hA1
  have HA2 := Lib.hid hA2
  have HE1 := Lib.hid (show w.drew.heap[rb]? = w.heap[rb]? from rfl)
  have HE2 := Lib.hid (show (w.alloc (.cells z5.toArray 27)).drew.heap[rb]? = w.heap[rb]? from alloc_old _ hR.lt)
  have HZR := Lib.hid (show (w.alloc (.cells z5.toArray 27)).drew.heap[w.heap.size]? = some (.cells z5.toArray 27 (0, 0)) from heap_alloc_new w _)
  have hrl : w.heap.size ≠ rb := fun e => by have := hR.lt; omega
  have b0 := cells_of h.box 0 _ rfl
  obtain ⟨j0, j1, j2, j3, j4, f0, f1, f2, f3, f4⟩ := five_of h.jc
  have hx1 : ((acc.length : Nat) : Int) < (acc.length : Int) + 1 := by omega
  have b0' := cellAlloc b0 (.cells #[.int .i64 0, .int .i64 0, .string ⟨#[]⟩, .slice none 0 0, .slice none 0 0] 27)
  have j4' := cellAlloc j4 (.cells #[.int .i64 0, .int .i64 0, .string ⟨#[]⟩, .slice none 0 0, .slice none 0 0] 27)
  clear hv h hR hT hA1 hA2
  go_enter Tryz.func72, Tryz.ntmps72
  go_wp2_with fail
  go_region_law (first
    | (refine step_append_q rfl _ _ 25 rfl 27 i0 (.agg #[.int .i64 0, .int .i64 0, .string ⟨#[]⟩, .slice none 0 0, .slice none 0 0]) 5 80 Tryz.underlying25 HI.out HZ0.out HZ1.out HZ2.out rfl (by decide) (.slice B acc.length c) acc.length css.flatten rfl HQ5.out ⟨w5.heap.size, 0, none⟩ 1 1 z5 rfl rfl (jc_new _ _ _) zero5_one (by unfold maxLen; omega) (by omega) ?_
       intro v' w6 hq6 hg6 hb6
       obtain ⟨g, off, cap, cur, rfl, hG, hown⟩ := HGR.out _ _ hq6 (imp_le hb6)
       obtain ⟨-, r0, s0⟩ := hG.cell (i := 0) rfl
       rw [Nat.add_zero] at r0 s0
       obtain ⟨-, r1, s1⟩ := hG.cell (i := 1) rfl
       obtain ⟨-, r2, s2⟩ := hG.cell (i := 2) rfl
       obtain ⟨-, r3, s3⟩ := hG.cell (i := 3) rfl
       obtain ⟨-, r4, s4⟩ := hG.cell (i := 4) rfl
       have hT6 := grown_turnA hg6
       have hjb6 := HJB.out w6 hT6
       have hgj : g ≠ jb := hG.g1.2.2
       obtain ⟨m0, m1, m2, m3, m4, q0, q1, q2, q3, q4⟩ := five_of hjb6
       have H6 := Lib.hid (And.intro hT6 (And.intro hG (And.intro hown hjb6)))
       clear hq6 hb6 hg6 hG hown hjb6 hT6)
    | (refine step_append_q rfl _ _ 25 rfl 27 i0 (.agg #[.int .i64 0, .int .i64 0, .string ⟨#[]⟩, .slice none 0 0, .slice none 0 0]) 5 80 Tryz.underlying25 HI.out HZ0.out HZ1.out HZ2.out rfl (by decide) (.slice B acc.length c) acc.length css.flatten rfl HQB.out ⟨w.heap.size, 0, none⟩ 1 1 z5 rfl rfl HNB.out zero5_one (by unfold maxLen; omega) (by omega) ?_
       intro v' w6 hq6 hg6 hb6
       obtain ⟨g, off, cap, cur, rfl, hG, hown⟩ := HGR.out _ _ hq6 (hb6)
       obtain ⟨-, r0, s0⟩ := hG.cell (i := 0) rfl
       rw [Nat.add_zero] at r0 s0
       obtain ⟨-, r1, s1⟩ := hG.cell (i := 1) rfl
       obtain ⟨-, r2, s2⟩ := hG.cell (i := 2) rfl
       obtain ⟨-, r3, s3⟩ := hG.cell (i := 3) rfl
       obtain ⟨-, r4, s4⟩ := hG.cell (i := 4) rfl
       have hT6 := grown_turn hg6
       have hjb6 := HJB.out w6 hT6
       have hgj : g ≠ jb := hG.g1.2.2
       obtain ⟨m0, m1, m2, m3, m4, q0, q1, q2, q3, q4⟩ := five_of hjb6
       have H6 := Lib.hid (And.intro hT6 (And.intro hG (And.intro hown hjb6)))
       clear hq6 hb6 hg6 hG hown hjb6 hT6)
    | (go_simp; refine (HC.out _ HA1.out HE1.out).mono ?_; intro e5 w5 h5
       rcases ends_val h5 with ⟨d, hp, rfl, hA5⟩ | ⟨x, M, xk, xn, xt, xA, xan, xac, xB, xbn, xbc, hp, rfl, hA5, hx5, hR5⟩
       · refine ⟨rfl, turn_at (At.trans HA1.out hA5), ?_⟩
         rw [HO.out, hp]
       have hls5 := HLS1.out.at hA5
       obtain ⟨css, hc1, hc2, hc3⟩ := hls5.row
       have HQ5 := Lib.hid (hc2.kept (w' := w5.alloc (.cells z5.toArray 27)) (fun g hg => alloc_old _ (hc2.block_lt hg)))
       have HGR := Lib.hid (fun (v' : Value) (w6 : World) hq hb => grew_of (w6 := w6) (v' := v') hls5 hc1 hc3.length.symm hq hb)
       have HJB := Lib.hid (fun (w6 : World) hT6 => hls5.jb6 (w6 := w6) hT6)
       have y4 := (five_of hls5.jc).2.2.2.2.1
       have y4' := cellAlloc y4 (.cells #[.int .i64 0, .int .i64 0, .string ⟨#[]⟩, .slice none 0 0, .slice none 0 0] 27)
       have H5 := Lib.hid (Read5.mk (p := p) (deep := deep) (w := w) hp HA1.out hA5 hx5 hR5 HLS1.out hls5 hc1 hc3)
       clear h5 hp hA5 hx5 hR5 hls5 hc1 hc2 hc3)
    | (go_simp; refine (HC.out _ HA2.out HE2.out).mono ?_; intro e5 w5 h5
       rcases ends_val h5 with ⟨d, hp, rfl, hA5⟩ | ⟨x, M, xk, xn, xt, xA, xan, xac, xB, xbn, xbc, hp, rfl, hA5, hx5, hR5⟩
       · refine ⟨rfl, turn_at (At.trans HA2.out hA5), ?_⟩
         rw [HO.out, hp]
       have hls5 := HLS2.out.at hA5
       obtain ⟨css, hc1, hc2, hc3⟩ := hls5.row
       have HQB := Lib.hid hc2
       have HNB := Lib.hid (jc_kept HZR.out hA5 hrl)
       have HGR := Lib.hid (fun (v' : Value) (w6 : World) hq hb => grew_of (w6 := w6) (v' := v') hls5 hc1 hc3.length.symm hq hb)
       have HJB := Lib.hid (fun (w6 : World) hT6 => hls5.jb6 (w6 := w6) hT6)
       have y4 := (five_of hls5.jc).2.2.2.2.1
       have y4' := cellAlloc y4 (.cells #[.int .i64 0, .int .i64 0, .string ⟨#[]⟩, .slice none 0 0, .slice none 0 0] 27)
       have H5 := Lib.hid (Read5.mk (p := p) (deep := deep) (w := w) hp HA2.out hA5 hx5 hR5 HLS2.out hls5 hc1 hc3)
       clear h5 hp hA5 hx5 hR5 hls5 hc1 hc2 hc3))
  all_goals
    refine bodyPost_end (results_none rfl _ _ _) rfl ?_
    first | with_reducible exact LS.fin_text H5.out H6.out hgj | with_reducible exact LS.fin_gc H5.out H6.out hgj
end Go.Proofs.YtminegmjklehnaaGreatDoor.J

/-
  append where there is room, onto an owned row of bytes: no premise on size.
-/
import Derived.Test.YteaapekkoahilaaDoorNumI
import Derived.ArgAppend
import Derived.Deep.RegionLaw
namespace Go.Proofs.YteaapekkoahilaaDoor.Nu
open Go.RowKit Go.Proofs.YteaapekkoahilaaDoor.B Go.Proofs.YteaapekkoahilaaDoor.S01
set_option linter.unusedVariables false

theorem own_push {w : World} {base g n cap : Nat} {e : TypeId} {xs : List Value} (h : w.ownsRow base e 1 (.slice (some ⟨g, 0, none⟩) n cap) n xs) (hr : n < cap) (u : Value) :
    (w.setCell ⟨g, n, none⟩ u).ownsRow base e 1 (.slice (some ⟨g, 0, none⟩) (n + 1) cap) (n + 1) (xs ++ [u]) ∧ w.grownBy (w.setCell ⟨g, n, none⟩ u) (some g) ∧ (w.cell? ⟨g, n, none⟩).isSome = true ∧ w.frozen? ⟨g, n, none⟩ = false := by
  have hl : xs.length = n := by simpa using h.1
  rcases h.2 with ⟨h', _⟩ | ⟨g', cap', cur, h', hb, hg, hnc, hcm, hcs, htake⟩
  · simp at h'
  · simp only [Value.slice.injEq, Option.some.injEq, Addr.mk.injEq, and_true, true_and] at h'
    obtain ⟨rfl, rfl⟩ := h'
    have hsz : n < cur.size := by rw [hcs]; omega
    refine ⟨⟨by simp [hl], .inr ⟨g, cap, cur.setIfInBounds n u, rfl, hb, heap_setCell_same w g n cur e u hg, hr, hcm, by simpa using hcs, ?_⟩⟩,
      ⟨rfl, rfl, rfl, by simp, fun k _ hk => heap_setCell_other w ⟨g, n, none⟩ k u (fun e => hk (by simp [e]))⟩, ?_, frozen_of_row w g n cur e hg⟩
    · rw [Array.toList_setIfInBounds]
      have ht : cur.toList.take n = xs := by simpa using htake
      rw [Nat.mul_one, List.take_add_one, List.take_set, List.getElem?_set_self (by simpa using hsz), ht]
      rw [List.set_eq_of_length_le (by omega)]
      rfl
    · rw [cell_of_row w g n cur e (0, 0) hg]
      simp [hsz]
/-- append of one byte where there is room, at a plain region's list. -/
theorem wpList_push {w : World} {ops : Array Oper} {rest : List Oper} {o : Oper} {a : Act} {Q : Exit → Act → World → Prop} (hgd : o.guard = none) (s x : Operand)
    (ho : o.op = .call { callee := .builtin .append, args := #[s, x], argTypes := #[22, 22] }) (base : Nat) (i : TypeInfo) (hi : Tryd.prog.info? 5 = some i) (hsize : i.size = 1)
    (g n cap : Nat) (xs : List Value) (hs : a.eval s = .slice (some ⟨g, 0, none⟩) n cap) (hown : w.ownsRow base 5 1 (.slice (some ⟨g, 0, none⟩) n cap) n xs)
    (ad : Addr) (u : Value) (hx : a.eval x = .slice (some ad) 1 1) (hc : w.cell? ad = some u) (h1 : u.oneCell' = true) (hroom : n < cap)
    (h : ∀ w', w'.ownsRow base 5 1 (.slice (some ⟨g, 0, none⟩) (n + 1) cap) (n + 1) (xs ++ [u]) → w.grownBy w' (some g) → wpList Tryd.prog ops Q rest (a.put o.dst (.slice (some ⟨g, 0, none⟩) (n + 1) cap)) w') : wpList Tryd.prog ops Q (o :: rest) a w := by
  refine wpList_plain hgd fun K hK => ?_
  obtain ⟨p1, p2, p3, p4⟩ := own_push hown hroom u
  have hrun := run_append_room_cells (P := Tryd.prog) w 22 o.type 5 i Tryd.underlying22 hi g 0 n cap ad 1 1 [u] (by rw [hsize]; rfl) (fun j v hj => by
    match j, hj with
    | 0, hj => simp at hj; subst hj; simpa [Addr.add] using hc) (fun v hv => by simp at hv; subst hv; exact h1) hroom (fun j hj => by
    have : j = 0 := by simpa using hj
    subst this; rw [hsize]; simpa using p3) (fun j hj => by
    have : j = 0 := by simpa using hj
    subst this; rw [hsize]; simpa using p4)
  rw [hsize, show 0 + n * 1 = n by omega, show w.setCells g n [u] = w.setCell ⟨g, n, none⟩ u from rfl] at hrun
  unfold Oper.wp
  simp [execOp, ho, resolve, invoke, builtin, hs, hx, hrun, Result.andThen]
  exact hK _ _ (h _ p1 p2)
theorem own_spare {w : World} {base g n cap : Nat} {e : TypeId} {xs : List Value} (h : w.ownsRow base e 1 (.slice (some ⟨g, 0, none⟩) n cap) n xs) (o : Nat) (hr : o < cap) : (w.cell? ⟨g, o, none⟩).isSome = true ∧ w.frozen? ⟨g, o, none⟩ = false := by
  rcases h.2 with ⟨h', _⟩ | ⟨g', cap', cur, h', hb, hg, hnc, hcm, hcs, htake⟩
  · simp at h'
  · simp only [Value.slice.injEq, Option.some.injEq, Addr.mk.injEq, and_true, true_and] at h'
    obtain ⟨rfl, rfl⟩ := h'
    have hsz : o < cur.size := by rw [hcs]; omega
    refine ⟨?_, frozen_of_row w g o cur e hg⟩
    rw [cell_of_row w g o cur e (0, 0) hg]
    simp [hsz]
end Go.Proofs.YteaapekkoahilaaDoor.Nu

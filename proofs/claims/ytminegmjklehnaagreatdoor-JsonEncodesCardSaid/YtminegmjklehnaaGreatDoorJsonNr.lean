/-
  Rows of the call's own: what stays of them, the bytes that they are.
-/
import Derived.Test.YtminegmjklehnaaGreatDoorJsonAw
namespace Go.Proofs.YtminegmjklehnaaGreatDoor.J
open Go.RowKit Go.Proofs.YtminegmjklehnaaGreatDoor.B
open Go.Proofs.YtminegmjklehnaaGreatDoor.M hiding Bs
open Go.Proofs.YtminegmjklehnaaGreatDoor.C (QRow Turn)
set_option linter.unusedVariables false
set_option linter.unusedSimpArgs false

theorem row_below {w w' : World} {B : Nat} {e : TypeId} {v : Value} {n : Nat} {xs : List Value} (h : w.ownsRow B e 1 v n xs) (hb : Below w.heap.size w w') : w'.ownsRow B e 1 v n xs := by
  refine ⟨h.1, ?_⟩
  rcases h.2 with h | ⟨g, cap, cur, h0, h1, h2, h3⟩
  · exact .inl h
  · exact .inr ⟨g, cap, cur, h0, h1, (hb.block g (lt_of_heap h2)).trans h2, h3⟩
theorem row_own {w : World} {B : Nat} {e : TypeId} {v : Value} {n : Nat} {xs : List Value} (h : w.ownsRow B e 1 v n xs) : ∀ g, v.ownBlock = some g → B ≤ g := by
  intro g hg
  rcases h.2 with ⟨rfl, -⟩ | ⟨g', cap, cur, rfl, h1, -⟩
  · cases hg
  · cases hg; exact h1
theorem row_bytes {w : World} {B : Nat} {v : Value} {L : Bs} (h : w.ownsRow B 5 1 v L.length (bc L)) : BsV w v L := by
  rcases h.2 with ⟨rfl, h0⟩ | ⟨g, cap, cur, rfl, h1⟩
  · exact .inl ⟨List.eq_nil_of_length_eq_zero h0, none, 0, rfl⟩
  · refine .inr ⟨g, 0, cap, rfl, fun i hi => ?_⟩
    have hc := World.ownsRow.cells h rfl i (.int .u8 ((L[i]).toNat : Int)) (by simp [List.getElem?_eq_getElem hi, bc])
    have hplain : (⟨g, 0, none⟩ : Addr).add i = ⟨g, 0 + i, none⟩ := by unfold Addr.add; split <;> simp_all
    rw [hplain] at hc
    exact hc
end Go.Proofs.YtminegmjklehnaaGreatDoor.J

/-
  The builder of what is printed; a line of any relation.
-/
import Derived.Test.YtgmlcnikphbiiaaDoorLangPm
namespace Go.Proofs.YtgmlcnikphbiiaaDoor.L
open Go.RowKit Go.Proofs.YtgmlcnikphbiiaaDoor.B Go.Proofs.YtgmlcnikphbiiaaDoor.S10 Go.Proofs.YtgmlcnikphbiiaaDoor.Nm
open Go.Proofs.YtgmlcnikphbiiaaDoor.C (QRow Turn wpList_append_q)
set_option linter.unusedVariables false
set_option linter.unusedSimpArgs false

theorem line_calls (F : Nat → Prop) (x : Rl) (A : Option Addr) (n c : Nat) (k : Int) (a b : Bs) (B : Option Addr) (m d : Nat) (w : World) (hm : mayR x = true) (hn : n ≤ 100000) (h1 : SlV w F 2 RefR x.refs A n) (h2 : ExV w F x.ex (exAgg k a b B m d)) :
    Calls Tryd.prog 33 #[rlAgg x.name A n c k a b B m d] w (ShowRet w (lineT x)) := by
  by_cases hr : x.refs = []
  · have hl := h1.1
    rw [hr] at hl
    simp at hl
    subst hl
    exact line_def F x A c k a b B m d w hm hr h2
  · exact line_rel F x A n c k a b B m d w hm hr hn h1
/-- a builder that holds these bytes. -/
def Bld (b : Nat) (l : Bs) (w : World) : Prop := Lib.IsBuilderF 74 5 b b (Lib.byteCells l) w
theorem Bld.lt {b : Nat} {l : Bs} {w : World} (h : Bld b l w) : b < w.heap.size := by
  rcases h with h | h <;> exact h.lt
theorem bldAt_below {b : Nat} {p : Value} {bs : List Value} {w w' : World} (h : Lib.BuilderAtF 74 5 b b p bs w) (hb : Below w.heap.size w w') : Lib.BuilderAtF 74 5 b b p bs w' := by
  have hlt := h.lt
  obtain ⟨hB, v, hc, hown, hne⟩ := h
  exact ⟨hB, v, (hb.block _ hlt).trans hc, hown.kept (row := none) ⟨hb.os, hb.tape, hb.output, hb.size, fun k hk _ => hb.block k hk⟩ (by cases hv : v.ownBlock <;> simp), hne⟩
theorem Bld.below {b : Nat} {l : Bs} {w w' : World} (h : Bld b l w) (hb : Below w.heap.size w w') : Bld b l w' := by
  rcases h with h | h
  · exact .inl (bldAt_below h hb)
  · exact .inr (bldAt_below h hb)
theorem Bld.start (w : World) : Bld w.heap.size [] (w.alloc (.cells #[.pointer none, .slice none 0 0] 74)) := by
  refine .inl ⟨Nat.le_refl _, .slice none 0 0, heap_alloc_new _ _, ?_, by simp [Value.ownBlock]⟩
  exact ⟨rfl, .inl ⟨rfl, rfl⟩⟩
def WrRet (b : Nat) (l s : Bs) (w : World) (e : Ending) (w' : World) : Prop := e = .returned (.tuple #[.int .i64 s.length, .nilIface]) ∧ Bld b (l ++ s) w' ∧ Below b w w' ∧ Lib.OthersKept 5 (some b) w w'
theorem write_calls {b : Nat} {l : Bs} {w : World} (s : Bs) (h : Bld b l w) (hl : l.length + s.length ≤ 140737488355328) : Calls Tryd.prog 32 #[.pointer (some ⟨b, 0, none⟩), vs s] w (WrRet b l s w) := by
  have hlt := h.lt
  have e1 : (Lib.byteCells l).length = l.length := by simp [Lib.byteCells]
  refine (Any.Builder_WriteString_k lays166 extraB b b (Lib.byteCells l) ⟨s.toArray⟩ w h (by rw [e1, sz]; exact hl) (by omega)).mono ?_
  rintro e w' ⟨rfl, h1, h2, h3⟩
  refine ⟨by rw [sz], .inr ?_, h2, h3⟩
  have e2 : Lib.byteCells l ++ Lib.strCells ⟨s.toArray⟩ = Lib.byteCells (l ++ s) := by simp [Lib.byteCells, Lib.strCells]
  rw [← e2]
  exact h1
theorem string_calls {b : Nat} {l : Bs} {w : World} (h : Bld b l w) : Calls Tryd.prog 34 #[.pointer (some ⟨b, 0, none⟩)] w fun e w' => e = .returned (vs l) ∧ Below b w w' := by
  refine (Any.Builder_String_any_k lays169 extraB b b l w h (by have := h.lt; omega)).mono ?_
  rintro e w' ⟨rfl, -, h2, -⟩
  exact ⟨rfl, h2⟩
end Go.Proofs.YtgmlcnikphbiiaaDoor.L

/-
  A relation as a line: its references.
-/
import Derived.Test.YtgmlcnikphbiiaaDoorLangPj
namespace Go.Proofs.YtgmlcnikphbiiaaDoor.L
open Go.RowKit Go.Proofs.YtgmlcnikphbiiaaDoor.B Go.Proofs.YtgmlcnikphbiiaaDoor.S10 Go.Proofs.YtgmlcnikphbiiaaDoor.Nm
open Go.Proofs.YtgmlcnikphbiiaaDoor.C (QRow Turn wpList_append_q)
set_option linter.unusedVariables false
set_option linter.unusedSimpArgs false

theorem infoStr : (Tryd.prog.info? 9).map (fun i => (i.zero, i.size, i.bytes)) = some (some (.string ByteArray.empty), 1, 16) := by kernel_rfl
theorem cell_list2 (w : World) (xs : List Value) (t : TypeId) : ∀ j u, xs[j]? = some u → (w.alloc (.cells xs.toArray t)).cell? ((⟨w.heap.size, 0, none⟩ : Addr).add j) = some u := by
  intro j u h
  have hg := heap_alloc_new w (.cells xs.toArray t)
  rw [Addr.add_lit, Nat.zero_add, cell_of_row _ _ _ _ _ (0, 0) hg]
  simpa using h
def strsT (xs : List Rf) (j : Nat) : List Value := (xs.take j).map (fun x => vs (refT x))
/-- the texts of the references so far. -/
structure LS (w : World) (cs : Array Value) (xs : List Rf) (j : Nat) (A : Option Addr) (c : Nat) (wr : World) : Prop where
  bel : Below w.heap.size w wr
  box : wr.heap[w.heap.size]? = some (.cells cs 48 (0, 0))
  row : QRow wr 9 1 (.slice A j c) j (strsT xs j)
  g1 : ∀ g, own A j c = some g → w.heap.size + 1 ≤ g
theorem LS.start {w : World} {cs : Array Value} {xs : List Rf} : LS w cs xs 0 none 0 (w.alloc (.cells cs 48)) :=
  ⟨(Below.refl _ w).alloc (Nat.le_refl _) _, heap_alloc_new _ _, QRow.nil _ _ _, fun g h => by cases h⟩
theorem strs_succ {xs : List Rf} {j : Nat} (hj : j < xs.length) : strsT xs (j + 1) = strsT xs j ++ [vs (refT (rfAt xs j))] := by
  unfold strsT rfAt
  rw [List.take_add_one, List.map_append, List.getD_eq_getElem?_getD, List.getElem?_eq_getElem hj]
  rfl
theorem LS.push {w wr w6 : World} {cs : Array Value} {xs : List Rf} {j : Nat} {A A6 : Option Addr} {c c6 : Nat} {q1 q2 z : Value} (h : LS w cs xs j A c wr) (hj : j < xs.length) (hs : z = vs (refT (rfAt xs j)))
    (hq : QRow w6 9 1 (.slice A6 (j + 1) c6) (j + 1) (strsT xs j ++ [z])) (hg : ((wr.alloc (.cells #[q1, q2] 81)).alloc (.cells #[z] 9)).grownBy w6 (own A j c))
    (hbk : ∀ g, own A6 (j + 1) c6 = some g → own A j c = some g ∨ wr.heap.size + 2 ≤ g) : LS w cs xs (j + 1) A6 c6 w6 := by
  have hbl := lt_of_heap h.box
  have hT : Turn (fun b => own A j c = some b) wr w6 :=
    Turn.trans (Turn.trans (Turn.alloc (fp := fun b => own A j c = some b) wr (.cells #[q1, q2] 81)) (Turn.alloc (fp := fun b => own A j c = some b) _ (.cells #[z] 9)) (fun k hk _ => hk))
      (Turn.grown (fp := fun b => own A j c = some b) hg (fun k hk => hk)) (fun k hk _ => hk)
  refine ⟨h.bel.trans (Turn.below hT h.bel.size (fun k hk e => by have := h.g1 _ e; omega)), (hT.block _ hbl (fun e => by have := h.g1 _ e; omega)).trans h.box, ?_, fun g hg' => ?_⟩
  · rw [strs_succ hj, ← hs]; exact hq
  · rcases hbk g hg' with e | e
    · exact h.g1 g e
    · omega
theorem LS.cell {w wr : World} {cs : Array Value} {xs : List Rf} {j : Nat} {A : Option Addr} {c : Nat} (h : LS w cs xs j A c wr) {q1 q2 z : Value} :
    QRow ((wr.alloc (.cells #[q1, q2] 81)).alloc (.cells #[z] 9)) 9 1 (.slice A j c) j (strsT xs j) ∧
    ∀ i u, [z][i]? = some u → ((wr.alloc (.cells #[q1, q2] 81)).alloc (.cells #[z] 9)).cell? ((⟨wr.heap.size + 1, 0, none⟩ : Addr).add i) = some u := by
  have hs : (wr.alloc (.cells #[q1, q2] 81)).heap.size = wr.heap.size + 1 := by simp
  refine ⟨h.row.kept (fun g hg => ?_), ?_⟩
  · have := h.row.block_lt hg
    rw [alloc_old _ (by omega), alloc_old _ this]
  · have := cell_list2 (wr.alloc (.cells #[q1, q2] 81)) [z] 9
    rw [hs] at this
    exact this
theorem refT_len {x : Rf} (h : mayF x = true) : x.ty.length ≤ 16 ∧ x.rel.length ≤ 16 ∧ (refT x).length ≤ 33 := by
  unfold mayF at h
  rw [Bool.and_eq_true] at h
  have h1 := (nm_len h.1).2
  unfold refT
  cases hr : x.rel.isEmpty with
  | true =>
    have := List.isEmpty_iff.1 hr
    rw [this]
    simp
    omega
  | false =>
    rw [hr, Bool.false_or] at h
    have h2 := (nm_len h.2).2
    simp
    omega
end Go.Proofs.YtgmlcnikphbiiaaDoor.L

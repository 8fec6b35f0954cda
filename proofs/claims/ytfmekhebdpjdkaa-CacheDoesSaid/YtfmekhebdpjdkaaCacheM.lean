/-
  The document's cache in memory.
-/
import Derived.Test.YtfmekhebdpjdkaaCacheJ
namespace Go.Proofs.Ytfmekhebdpjdkaa.C
open Go.RowKit Go.Proofs.Ytfmekhebdpjdkaa.B
set_option linter.unusedVariables false
set_option linter.unusedSimpArgs false

def cellsL (l : List (Nm × Bool)) : List Value := l.flatMap fun p => [vs p.1, .bool p.2]
theorem cellsL_len (l : List (Nm × Bool)) : (cellsL l).length = l.length * 2 := by
  induction l with
  | nil => rfl
  | cons p l ih => unfold cellsL at *; rw [List.flatMap_cons, List.length_append, ih]; simp; omega
theorem cellsL_get : ∀ (l : List (Nm × Bool)) (i : Nat) (p : Nm × Bool), l[i]? = some p → (cellsL l)[i * 2]? = some (vs p.1) ∧ (cellsL l)[i * 2 + 1]? = some (.bool p.2)
  | [], i, p, h => by simp at h
  | q :: l, 0, p, h => by
    simp at h; subst h
    exact ⟨rfl, rfl⟩
  | q :: l, i + 1, p, h => by
    have ih := cellsL_get l i p (by simpa using h)
    have e : cellsL (q :: l) = vs q.1 :: .bool q.2 :: cellsL l := rfl
    rw [e, show (i + 1) * 2 = i * 2 + 1 + 1 by omega]
    exact ih
def PartR (w : World) (N : Nat) (tag : Nat → Option Tag) (nm : Nm) (tb : Nat) (t : Tn) (lv : Value) : Prop :=
  tag tb = some (.part nm) ∧ (∀ g, lv.ownBlock = some g → tag g = some (.ord nm)) ∧
    w.heap[tb]? = some (.cells #[vs nm, .int .i64 t.1, lv] 53 (0, 0)) ∧ QRow w 55 2 lv t.2.length (cellsL t.2) ∧ t.2.length ≤ N
structure RepR (w : World) (rb : Nat) (most : Int) (N : Nat) (tag : Nat → Option Tag) (tv : Value) (names : List Nm) (pt : Nm → Nat) (S : Nm → Option Tn) : Prop where
  tc : tag rb = some .top
  hc : w.heap[rb]? = some (.cells #[.int .i64 most, tv] 29 (0, 0))
  tt : ∀ g, tv.ownBlock = some g → tag g = some .map
  row : QRow w 49 1 tv names.length (names.map fun nm => .pointer (some ⟨pt nm, 0, none⟩))
  len : names.length ≤ N
  nd : names.Nodup
  lt : ∀ b, tag b ≠ none → b < w.heap.size
  mem : ∀ nm, nm ∈ names ↔ (S nm).isSome = true
  parts : ∀ nm t, S nm = some t → ∃ lv, PartR w N tag nm (pt nm) t lv
theorem PartR.kept {w w' : World} {N N' : Nat} {tag tag' : Nat → Option Tag} {nm : Nm} {tb : Nat} {t : Tn} {lv : Value} (h : PartR w N tag nm tb t lv)
    (hb : ∀ b, (tag b = some (.part nm) ∨ tag b = some (.ans nm) ∨ tag b = some (.ord nm)) → w'.heap[b]? = w.heap[b]? ∧ tag' b = tag b) (hN : N ≤ N') : PartR w' N' tag' nm tb t lv := by
  obtain ⟨h1, h2, h3, h4, h5⟩ := h
  refine ⟨?_, ?_, ?_, ?_, Nat.le_trans h5 hN⟩
  · rw [(hb tb (.inl h1)).2]; exact h1
  · intro g hg
    rw [(hb g (.inr (.inr (h2 g hg)))).2]; exact h2 g hg
  · rw [(hb tb (.inl h1)).1]; exact h3
  · exact h4.kept fun g hg => (hb g (.inr (.inr (h2 g hg)))).1
theorem RepR.kept {w w' : World} {rb : Nat} {most : Int} {N : Nat} {tag : Nat → Option Tag} {tv : Value} {names : List Nm} {pt : Nm → Nat} {S : Nm → Option Tn} (h : RepR w rb most N tag tv names pt S)
    (hb : ∀ b, fp tag b → w'.heap[b]? = w.heap[b]?) (hs : w.heap.size ≤ w'.heap.size) : RepR w' rb most N tag tv names pt S :=
  ⟨h.tc, (hb rb (by simp [fp, h.tc])).trans h.hc, h.tt, h.row.kept (fun g hg => hb g (by simp [fp, h.tt g hg])), h.len, h.nd, fun b hb' => Nat.lt_of_lt_of_le (h.lt b hb') hs, h.mem,
    fun nm t ht => let ⟨lv, hp⟩ := h.parts nm t ht; ⟨lv, hp.kept (fun b hb' => ⟨hb b (by rcases hb' with e | e | e <;> simp [fp, e]), rfl⟩) (Nat.le_refl _)⟩⟩
theorem RepR.below {w w' : World} {rb : Nat} {most : Int} {N : Nat} {tag : Nat → Option Tag} {tv : Value} {names : List Nm} {pt : Nm → Nat} {S : Nm → Option Tn} (h : RepR w rb most N tag tv names pt S) (hb : Below w.heap.size w w') : RepR w' rb most N tag tv names pt S :=
  h.kept (fun b hb' => hb.block b (h.lt b hb')) hb.size
theorem RepR.mono {w : World} {rb : Nat} {most : Int} {N N' : Nat} {tag : Nat → Option Tag} {tv : Value} {names : List Nm} {pt : Nm → Nat} {S : Nm → Option Tn} (h : RepR w rb most N tag tv names pt S) (hN : N ≤ N') : RepR w rb most N' tag tv names pt S :=
  ⟨h.tc, h.hc, h.tt, h.row, Nat.le_trans h.len hN, h.nd, h.lt, h.mem, fun nm t ht => let ⟨lv, hp⟩ := h.parts nm t ht; ⟨lv, hp.kept (fun _ _ => ⟨rfl, rfl⟩) hN⟩⟩
/-- one tenant's part is another one. -/
theorem RepR.step {w w' : World} {rb : Nat} {most : Int} {N N' : Nat} {tag tag' : Nat → Option Tag} {tv : Value} {names : List Nm} {pt : Nm → Nat} {S : Nm → Option Tn} (h : RepR w rb most N tag tv names pt S) (hN : N ≤ N') {nm : Nm} {x : Tn} {lv : Value}
    (hT : Turn (own tag nm) w w') (htag : ∀ b, b < w.heap.size → tag' b = tag b) (hlt : ∀ b, tag' b ≠ none → b < w'.heap.size) (hnm : nm ∈ names) (hp : PartR w' N' tag' nm (pt nm) x lv) :
    RepR w' rb most N' tag' tv names pt (upd S nm (some x)) ∧ TStep w tag w' tag' := by
  have hk : ∀ b, fp tag b → ¬ own tag nm b → w'.heap[b]? = w.heap[b]? := fun b hb hn => hT.block b (h.lt b hb) hn
  refine ⟨⟨by rw [htag rb (h.lt rb (by simp [h.tc]))]; exact h.tc, ?_, ?_, ?_, Nat.le_trans h.len hN, h.nd, hlt, ?_, ?_⟩, hT.mono (fun k hk _ => ?_), htag⟩
  · rw [hk rb (by simp [fp, h.tc]) (by simp [own, h.tc])]; exact h.hc
  · intro g hg
    have := h.tt g hg
    rw [htag g (h.lt g (by simp [this]))]; exact this
  · exact h.row.kept fun g hg => hk g (by simp [fp, h.tt g hg]) (by simp [own, h.tt g hg])
  · intro q
    by_cases hq : q = nm
    · subst hq; rw [upd_same]; simp [hnm]
    · rw [upd_other _ _ hq]; exact h.mem q
  · intro q t ht
    by_cases hq : q = nm
    · subst hq
      rw [upd_same] at ht
      cases ht
      exact ⟨lv, hp⟩
    · rw [upd_other _ _ hq] at ht
      obtain ⟨lv', hp'⟩ := h.parts q t ht
      exact ⟨lv', hp'.kept (fun b hb => ⟨hk b (by rcases hb with e | e | e <;> simp [fp, e]) (fun ho => by
        rcases hb with e | e | e <;> rcases ho with o | o | o <;> rw [e] at o <;> cases o <;> exact hq rfl), htag b (h.lt b (by rcases hb with e | e | e <;> simp [e]))⟩) hN⟩
  · rcases hk with e | e | e <;> simp [fp, e]
theorem QRow.get {w : World} {e : TypeId} {A : Option Addr} {n c : Nat} {xs : List Value} (h : QRow w e 1 (.slice A n c) n xs) {i : Nat} (hi : i < n) {v : Value} (hv : xs[i]? = some v) : ∃ g off, A = some ⟨g, off, none⟩ ∧ w.cell? ⟨g, off + i, none⟩ = some v := by
  rcases h.2 with ⟨_, h0⟩ | ⟨g, off, cap, cur, h', hg, _, _, _, ht⟩
  · omega
  · simp only [Value.slice.injEq] at h'
    refine ⟨g, off, h'.1, ?_⟩
    rw [cell_of_row w g _ cur _ (0, 0) hg]
    rw [← ht] at hv
    rw [List.getElem?_take] at hv
    split at hv
    · rw [List.getElem?_drop] at hv
      simpa using hv
    · cases hv
theorem QRow.get2 {w : World} {e : TypeId} {A : Option Addr} {n c : Nat} {xs : List Value} (h : QRow w e 2 (.slice A n c) n xs) {i : Nat} (hi : i < n) {v u : Value} (hv : xs[i * 2]? = some v) (hu : xs[i * 2 + 1]? = some u) :
    ∃ g off, A = some ⟨g, off, none⟩ ∧ w.cell? ⟨g, off + i * 2, none⟩ = some v ∧ w.cell? ⟨g, off + i * 2 + 1, none⟩ = some u ∧ w.frozen? ⟨g, off + i * 2 + 1, none⟩ = false := by
  rcases h.2 with ⟨_, h0⟩ | ⟨g, off, cap, cur, h', hg, _, _, _, ht⟩
  · omega
  · simp only [Value.slice.injEq] at h'
    refine ⟨g, off, h'.1, ?_, ?_, frozen_of_row w g _ cur _ hg⟩
    · rw [cell_of_row w g _ cur _ (0, 0) hg]
      rw [← ht, List.getElem?_take] at hv
      split at hv
      · rw [List.getElem?_drop] at hv
        simpa using hv
      · cases hv
    · rw [cell_of_row w g _ cur _ (0, 0) hg]
      rw [← ht, List.getElem?_take] at hu
      split at hu
      · rw [List.getElem?_drop] at hu
        simpa [Nat.add_assoc] using hu
      · cases hu
end Go.Proofs.Ytfmekhebdpjdkaa.C

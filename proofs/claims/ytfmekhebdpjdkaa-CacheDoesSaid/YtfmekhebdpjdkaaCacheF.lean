/-
  The cache: Put, where the answer is new.
-/
import Derived.Test.YtfmekhebdpjdkaaCacheE
namespace Go.Proofs.Ytfmekhebdpjdkaa.C
open Go.RowKit Go.Proofs.Ytfmekhebdpjdkaa.B
open Go.Maps (Keyed)
set_option linter.unusedVariables false
set_option linter.unusedSimpArgs false

def PartX (w : World) (N : Nat) (tag : Nat → Option Tag) (nm : Nm) (pb : Nat) (t : Tn) (ab : Nat) (ov : Value) : Prop :=
  tag pb = some (.part nm) ∧ tag ab = some (.ans nm) ∧ (∀ g, ov.ownBlock = some g → tag g = some (.ord nm)) ∧
    w.heap[pb]? = some (.cells #[.int .i64 t.1, .map (some ab), ov] 48 (0, 0)) ∧ OwnF BE w 9 ab N (fun q => t.2.lookup q) ∧
    QRow w 9 1 ov t.2.length (t.2.map fun p => vs p.1) ∧ t.2.length ≤ N ∧ (t.2.map Prod.fst).Nodup ∧ ∀ p ∈ t.2, p.1.length ≤ maxLen
theorem vs_mk (q : ByteArray) : vs q.data.toList = .string q := by simp [vs]
theorem new_keep {w1 w2 w3 : World} {cb : Nat} {most : Int} {N : Nat} {tag : Nat → Option Tag} {mb : Nat} {pm : Nm → Option Nat} {S : Nm → Option Tn} (h : Rep w1 cb most N tag mb pm S) {q : ByteArray} (hq : q.size ≤ maxLen) {y : Bool} {nm : Nm} {pb ab : Nat} {ov v' : Value} {rev : Int} {l : List (Nm × Bool)} {o : Obj}
    (hpm : pm nm = some pb) (hX : PartX w1 N tag nm pb (rev, l) ab ov) (hno : l.lookup q.data.toList = none)
    (hq2 : QRow w2 9 1 v' (l.length + 1) (l.map (fun p => vs p.1) ++ [.string q])) (hg2 : (w1.alloc o).grownBy w2 ov.ownBlock) (hblk : ∀ g, v'.ownBlock = some g → ov.ownBlock = some g ∨ w1.heap.size + 1 ≤ g)
    (ho : OwnF BE w3 9 ab (N + 1) (upd (fun q => l.lookup q) q.data.toList (some y))) (hg3 : (w2.setCell ⟨pb, 2, none⟩ v').grownBy w3 (some ab)) :
    ∃ tag', Rep w3 cb most (N + 1) tag' mb pm (upd S nm (some (rev, l ++ [(q.data.toList, y)]))) ∧ TStep w1 tag w3 tag' ∧ PartX w3 (N + 1) tag' nm pb (rev, l ++ [(q.data.toList, y)]) ab v' := by
  obtain ⟨t1, t2, t3, hp, ha, hqr, hl, hnd, hml⟩ := hX
  have hpb := (Array.getElem?_eq_some_iff.1 hp).1
  have hab := ha.lt
  have hpa : pb ≠ ab := fun e => by rw [e, t2] at t1; cases t1
  have hsz : (w1.alloc o).heap.size = w1.heap.size + 1 := by simp
  have hs2 : w1.heap.size + 1 ≤ w2.heap.size := by have := hg2.size; omega
  have hp2 : w2.heap[pb]? = some (.cells #[.int .i64 rev, .map (some ab), ov] 48 (0, 0)) := by
    rw [hg2.block pb (by omega) (fun e => by have := t3 pb e.symm; rw [t1] at this; cases this), alloc_old o hpb]
    exact hp
  have hT : Turn (own tag nm) w1 w3 := (((Turn.alloc w1 o).trans (Turn.grown hg2 (fun k hk => .inr (.inr (t3 k hk)))) (fun _ h _ => h)).trans (Turn.setCell _ ⟨pb, 2, none⟩ v' (.inl t1)) (fun _ h _ => h)).trans (Turn.grown hg3 (fun k hk => by cases hk; exact .inr (.inl t2))) (fun _ h _ => h)
  have hnew : ∀ b, v'.ownBlock = some b → b < w1.heap.size → tag b = some (.ord nm) := fun b hb hlt => by
    rcases hblk b hb with h' | h'
    · exact t3 b h'
    · omega
  have htag : ∀ b, b < w1.heap.size → (if v'.ownBlock = some b then some (Tag.ord nm) else tag b) = tag b := fun b hb => by
    split
    · rename_i e; exact (hnew b e hb).symm
    · rfl
  have hne : ∀ b, v'.ownBlock = some b → b ≠ pb ∧ b ≠ ab := fun b hb => by
    rcases hblk b hb with h' | h'
    · have := t3 b h'
      refine ⟨fun e => ?_, fun e => ?_⟩ <;> rw [e] at this
      · rw [t1] at this; cases this
      · rw [t2] at this; cases this
    · omega
  have hX3 : PartX w3 (N + 1) (fun b => if v'.ownBlock = some b then some (Tag.ord nm) else tag b) nm pb (rev, l ++ [(q.data.toList, y)]) ab v' := by
    refine ⟨(htag pb hpb).trans t1, (htag ab hab).trans t2, fun g hg => by simp [hg], ?_, ho.congr (snoc_lookup _ _ _ hno), ?_, ?_, ?_, ?_⟩
    · rw [hg3.block pb (by simp; omega) (fun e => hpa (Option.some.inj e))]
      exact heap_setCell_same w2 pb 2 _ _ _ hp2
    · have hk := hq2.kept (w' := w3) fun g hg => by
        rw [hg3.block g (by have := hq2.block_lt hg; simpa using this) (fun e => (hne g hg).2 (Option.some.inj e)), heap_setCell_other _ _ _ _ (hne g hg).1]
      simpa [vs_mk] using hk
    · simp; omega
    · rw [List.map_append, List.nodup_append]
      refine ⟨hnd, by simp, ?_⟩
      intro a ha b hb e
      have hb' : b = q.data.toList := by simpa using hb
      exact lookup_none hno (hb' ▸ e ▸ ha)
    · intro p hp'
      rcases List.mem_append.1 hp' with hp' | hp'
      · exact hml p hp'
      · have : p = (q.data.toList, y) := by simpa using hp'
        rw [this, Array.length_toList]; exact hq
  obtain ⟨r1, r2⟩ := h.step (Nat.le_succ _) hT htag (fun b hb => by
    split at hb
    · rename_i e
      have := hq2.block_lt e
      have := hg3.size
      simp at this
      omega
    · exact Nat.lt_of_lt_of_le (h.lt b hb) hT.size) hpm ⟨ab, v', hX3⟩
  exact ⟨_, r1, r2, hX3⟩
theorem trim {w3 w4 : World} {cb : Nat} {most : Int} {N : Nat} {tag : Nat → Option Tag} {mb : Nat} {pm : Nm → Option Nat} {S : Nm → Option Tn} (h : Rep w3 cb most N tag mb pm S) {nm : Nm} {pb ab : Nat} {rev : Int} {p : Nm × Bool} {t : List (Nm × Bool)} {g off cap : Nat} {k : Nat}
    (hpm : pm nm = some pb) (hX : PartX w3 N tag nm pb (rev, p :: t) ab (.slice (some ⟨g, off, none⟩) (t.length + 1) cap))
    (ho : OwnF BE w4 9 ab N (upd (fun q => (p :: t).lookup q) p.1 none)) (hg : w3.grownBy w4 (some ab)) :
    Rep (w4.setCell ⟨pb, 2, none⟩ (.slice (some ⟨g, off + 1, none⟩) t.length (cap - 1))) cb most N tag mb pm (upd S nm (some (rev, t))) ∧ TStep w3 tag (w4.setCell ⟨pb, 2, none⟩ (.slice (some ⟨g, off + 1, none⟩) t.length (cap - 1))) tag := by
  obtain ⟨t1, t2, t3, hp, ha, hqr, hl, hnd, hml⟩ := hX
  have hpa : pb ≠ ab := fun e => by rw [e, t2] at t1; cases t1
  have hga : g ≠ ab := fun e => by have := t3 g rfl; rw [e, t2] at this; cases this
  have hgp : g ≠ pb := fun e => by have := t3 g rfl; rw [e, t1] at this; cases this
  have hg' : w3.grownBy w4 (some ab) := ⟨hg.os, hg.tape, hg.output, hg.size, hg.block⟩
  have hpb := (Array.getElem?_eq_some_iff.1 hp).1
  have hT : Turn (own tag nm) w3 (w4.setCell ⟨pb, 2, none⟩ (.slice (some ⟨g, off + 1, none⟩) t.length (cap - 1))) := (Turn.grown hg' (fun k hk => by cases hk; exact .inr (.inl t2))).trans (Turn.setCell _ _ _ (.inl t1)) (fun _ h _ => h)
  refine h.step (Nat.le_refl _) hT (fun _ _ => rfl) (fun b hb => Nat.lt_of_lt_of_le (h.lt b hb) hT.size) hpm ⟨ab, .slice (some ⟨g, off + 1, none⟩) t.length (cap - 1), t1, t2, fun g' hg' => t3 g' hg', ?_, ?_, ?_, by simp at hl ⊢; omega, (List.nodup_cons.1 hnd).2, fun x hx => hml x (List.mem_cons_of_mem _ hx)⟩
  · have h4 : w4.heap[pb]? = some (.cells #[.int .i64 rev, .map (some ab), .slice (some ⟨g, off, none⟩) (t.length + 1) cap] 48 (0, 0)) := (hg'.block pb hpb (fun e => hpa (Option.some.inj e))).trans hp
    exact heap_setCell_same w4 pb 2 _ _ _ h4
  · exact (ho.kept (heap_setCell_other _ _ _ _ (Ne.symm hpa))).congr (drop_lookup hnd)
  · have hk : QRow (w4.setCell ⟨pb, 2, none⟩ (.slice (some ⟨g, off + 1, none⟩) t.length (cap - 1))) 9 1 (.slice (some ⟨g, off, none⟩) (t.length + 1) cap) (t.length + 1) (vs p.1 :: t.map fun p => vs p.1) := hqr.kept fun b hb => by
      cases hb
      rw [heap_setCell_other _ _ _ _ hgp, hg'.block g (hqr.block_lt rfl) (fun e => hga (Option.some.inj e))]
    refine ⟨by simp, .inr ?_⟩
    rcases hk.2 with ⟨h', _⟩ | ⟨g', off', cap', cur, h', h2, h3, h4, h5, h6⟩
    · cases h'
    · simp only [Value.slice.injEq, Option.some.injEq, Addr.mk.injEq, and_true, true_and] at h'
      obtain ⟨⟨rfl, rfl⟩, rfl⟩ := h'
      refine ⟨g, off + 1, cap - 1, cur, rfl, h2, by simp only; omega, by omega, by omega, ?_⟩
      have h7 := congrArg (List.drop 1) h6
      rw [List.drop_take, List.drop_drop] at h7
      simp only [List.drop_succ_cons, List.drop_zero] at h7
      rw [← h7]
      congr 1
end Go.Proofs.Ytfmekhebdpjdkaa.C

/-
  The document's cache: Put.
-/
import Derived.Test.YtfmekhebdpjdkaaCacheR
import Derived.Test.YtfmekhebdpjdkaaCacheI
namespace Go.Proofs.Ytfmekhebdpjdkaa.C
open Go.RowKit Go.Proofs.Ytfmekhebdpjdkaa.B
set_option linter.unusedVariables false
set_option linter.unusedSimpArgs false

theorem info_ans : (Try.prog.info? 55).map (fun i => (i.zero, i.size, i.bytes)) = some (some (.agg #[.string ByteArray.empty, .bool false]), 2, 24) := by kernel_rfl
theorem QRow.set {w : World} {e : TypeId} {size : Nat} {g off n c : Nat} {xs : List Value} (h : QRow w e size (.slice (some ⟨g, off, none⟩) n c) n xs) (j : Nat) (hj : j < n * size) (v : Value) : QRow (w.setCell ⟨g, off + j, none⟩ v) e size (.slice (some ⟨g, off, none⟩) n c) n (xs.set j v) := by
  refine ⟨by simpa using h.1, .inr ?_⟩
  rcases h.2 with ⟨h', _⟩ | ⟨g', off', cap, cur, h', hg, h3, h4, h5, h6⟩
  · cases h'
  · simp only [Value.slice.injEq, Option.some.injEq, Addr.mk.injEq, and_true, true_and] at h'
    obtain ⟨⟨rfl, rfl⟩, rfl⟩ := h'
    refine ⟨g, off, c, cur.setIfInBounds (off + j) v, rfl, heap_setCell_same w g (off + j) cur e v hg, h3, by simpa using h4, h5, ?_⟩
    rw [Array.toList_setIfInBounds, List.drop_set, if_neg (by omega), show off + j - off = j by omega, List.take_set, h6]
theorem cellsL_set : ∀ (l : List (Nm × Bool)) (i : Nat) (p : Nm × Bool) (y : Bool), l[i]? = some p → (cellsL l).set (i * 2 + 1) (.bool y) = cellsL (l.set i (p.1, y))
  | [], i, p, y, h => by simp at h
  | q :: l, 0, p, y, h => by
    simp at h; subst h; rfl
  | q :: l, i + 1, p, y, h => by
    have ih := cellsL_set l i p y (by simpa using h)
    have e : cellsL (q :: l) = vs q.1 :: .bool q.2 :: cellsL l := rfl
    rw [e, show (i + 1) * 2 + 1 = i * 2 + 1 + 1 + 1 by omega, List.set_cons_succ, List.set_cons_succ, ih, List.set_cons_succ]
    rfl
theorem repl_no {q : Nm} {y : Bool} {l : List (Nm × Bool)} (h : q ∉ l.map Prod.fst) : repl q y l = l := by
  unfold repl
  rw [List.map_congr_left (g := id), List.map_id]
  intro p hp
  have : p.1 ≠ q := fun e => h (List.mem_map.2 ⟨p, hp, e⟩)
  simp [this]
theorem set_repl {q : Nm} {y : Bool} : ∀ {l : List (Nm × Bool)} {i : Nat} {p : Nm × Bool}, (l.map Prod.fst).Nodup → l[i]? = some p → p.1 = q → l.set i (q, y) = repl q y l
  | [], i, p, _, h, _ => by simp at h
  | a :: l, 0, p, hnd, h, e => by
    simp at h; subst h
    have hn := (List.nodup_cons.1 hnd).1
    rw [e] at hn
    have : repl q y (a :: l) = (q, y) :: repl q y l := by simp [repl, e]
    rw [this, repl_no hn]; rfl
  | a :: l, i + 1, p, hnd, h, e => by
    have hn := List.nodup_cons.1 hnd
    have h' : l[i]? = some p := by simpa using h
    have ha : a.1 ≠ q := fun ea => hn.1 (by rw [ea, ← e]; exact List.mem_map.2 ⟨p, List.mem_of_getElem? h', rfl⟩)
    have : repl q y (a :: l) = a :: repl q y l := by simp [repl, ha]
    rw [this, List.set_cons_succ, set_repl hn.2 h' e]
theorem cellsL_snoc (l : List (Nm × Bool)) (q : ByteArray) (y : Bool) : cellsL l ++ [.string q, .bool y] = cellsL (l ++ [(q.data.toList, y)]) := by
  unfold cellsL
  rw [List.flatMap_append]
  simp [vs_mk]
theorem rput_had {w : World} {rb : Nat} {most : Int} {N : Nat} {tag : Nat → Option Tag} {tv : Value} {names : List Nm} {pt : Nm → Nat} {S : Nm → Option Tn} (h : RepR w rb most N tag tv names pt S) {nm : Nm} (hnm : nm ∈ names) {r : Int} {l : List (Nm × Bool)} {g off lc i : Nat} {p : Nm × Bool} {q : Nm} {y : Bool}
    (hp : PartR w N tag nm (pt nm) (r, l) (.slice (some ⟨g, off, none⟩) l.length lc)) (hi : l[i]? = some p) (he : p.1 = q) (hnd : (l.map Prod.fst).Nodup) :
    RPost w rb most N tag (upd S nm (some (r, repl q y l))) (.tuple #[]) (.returned (.tuple #[])) (w.setCell ⟨g, off + (i * 2 + 1), none⟩ (.bool y)) := by
  obtain ⟨p1, p2, p3, p4, p5⟩ := hp
  have hlt : i < l.length := by
    rcases Nat.lt_or_ge i l.length with h' | h'
    · exact h'
    · rw [List.getElem?_eq_none h'] at hi; cases hi
  have hg := p2 g rfl
  have hgp : pt nm ≠ g := fun e => by rw [← e, p1] at hg; cases hg
  have hq := p4.set (i * 2 + 1) (show i * 2 + 1 < l.length * 2 by omega) (.bool y)
  simp only at hq
  rw [cellsL_set l i p y hi, he, set_repl hnd hi he] at hq
  have hT : Turn (own tag nm) w (w.setCell ⟨g, off + (i * 2 + 1), none⟩ (.bool y)) := Turn.setCell w _ _ (.inr (.inr hg))
  have e1 : (repl q y l).length = l.length := by simp [repl]
  obtain ⟨r1, r2⟩ := h.step (Nat.le_refl N) hT (fun _ _ => rfl) (fun b hb => Nat.lt_of_lt_of_le (h.lt b hb) hT.size) hnm (x := (r, repl q y l)) (lv := .slice (some ⟨g, off, none⟩) l.length lc)
    ⟨p1, p2, (heap_setCell_other _ _ _ _ hgp).trans p3, by simp only [e1]; exact hq, by simp only [e1]; exact p5⟩
  exact ⟨tag, tv, names, pt, rfl, r1, r2⟩
theorem rput_new {w w2 : World} {rb : Nat} {most : Int} {N : Nat} {tag : Nat → Option Tag} {tv : Value} {names : List Nm} {pt : Nm → Nat} {S : Nm → Option Tn} (h : RepR w rb most N tag tv names pt S) {nm : Nm} (hnm : nm ∈ names) {r : Int} {l : List (Nm × Bool)} {lv v' : Value} {q : ByteArray} {y : Bool} {o : Obj}
    (hp : PartR w N tag nm (pt nm) (r, l) lv) (hq2 : QRow w2 55 2 v' (l.length + 1) (cellsL l ++ [.string q, .bool y])) (hg2 : (w.alloc o).grownBy w2 lv.ownBlock) (hblk : ∀ g, v'.ownBlock = some g → lv.ownBlock = some g ∨ w.heap.size + 1 ≤ g) :
    ∃ tag', RepR (w2.setCell ⟨pt nm, 2, none⟩ v') rb most (N + 1) tag' tv names pt (upd S nm (some (r, l ++ [(q.data.toList, y)]))) ∧ TStep w tag (w2.setCell ⟨pt nm, 2, none⟩ v') tag' ∧ PartR (w2.setCell ⟨pt nm, 2, none⟩ v') (N + 1) tag' nm (pt nm) (r, l ++ [(q.data.toList, y)]) v' := by
  obtain ⟨t1, t3, hpp, hqr, hl⟩ := hp
  have hpb := (Array.getElem?_eq_some_iff.1 hpp).1
  have hsz : (w.alloc o).heap.size = w.heap.size + 1 := by simp
  have hs2 : w.heap.size + 1 ≤ w2.heap.size := by have := hg2.size; omega
  have hs3 : (w2.setCell ⟨pt nm, 2, none⟩ v').heap.size = w2.heap.size := by simp
  have hp2 : w2.heap[pt nm]? = some (.cells #[vs nm, .int .i64 r, lv] 53 (0, 0)) := by
    rw [hg2.block (pt nm) (by omega) (fun e => by have := t3 _ e.symm; rw [t1] at this; cases this), alloc_old o hpb]
    exact hpp
  have hT : Turn (own tag nm) w (w2.setCell ⟨pt nm, 2, none⟩ v') := ((Turn.alloc w o).trans (Turn.grown hg2 (fun k hk => .inr (.inr (t3 k hk)))) (fun _ h _ => h)).trans (Turn.setCell _ ⟨pt nm, 2, none⟩ v' (.inl t1)) (fun _ h _ => h)
  have htag : ∀ b, b < w.heap.size → (if v'.ownBlock = some b then some (Tag.ord nm) else tag b) = tag b := fun b hb => by
    split
    · rename_i e
      rcases hblk b e with h' | h'
      · exact (t3 b h').symm
      · omega
    · rfl
  have hne : ∀ b, v'.ownBlock = some b → b ≠ pt nm := fun b hb e => by
    rcases hblk b hb with h' | h'
    · have := t3 b h'
      rw [e, t1] at this; cases this
    · omega
  have hX : PartR (w2.setCell ⟨pt nm, 2, none⟩ v') (N + 1) (fun b => if v'.ownBlock = some b then some (Tag.ord nm) else tag b) nm (pt nm) (r, l ++ [(q.data.toList, y)]) v' := by
    refine ⟨(htag _ hpb).trans t1, fun g hg => by simp [hg], heap_setCell_same w2 (pt nm) 2 _ _ _ hp2, ?_, by simp only [List.length_append, List.length_cons, List.length_nil]; simp only at hl; omega⟩
    have hk := hq2.kept (w' := w2.setCell ⟨pt nm, 2, none⟩ v') fun g hg => heap_setCell_other _ _ _ _ (hne g hg)
    rw [cellsL_snoc] at hk
    simp only [List.length_append, List.length_cons, List.length_nil]
    exact hk
  obtain ⟨r1, r2⟩ := h.step (Nat.le_succ N) hT htag (fun b hb => by
    rw [hs3]
    split at hb
    · rename_i e; exact hq2.block_lt e
    · have := h.lt b hb; omega) hnm hX
  exact ⟨_, r1, r2, hX⟩
theorem rput_trim {w : World} {rb : Nat} {most : Int} {N : Nat} {tag : Nat → Option Tag} {tv : Value} {names : List Nm} {pt : Nm → Nat} {S : Nm → Option Tn} (h : RepR w rb most N tag tv names pt S) {nm : Nm} (hnm : nm ∈ names) {r : Int} {p : Nm × Bool} {t : List (Nm × Bool)} {g off cap : Nat}
    (hp : PartR w N tag nm (pt nm) (r, p :: t) (.slice (some ⟨g, off, none⟩) (t.length + 1) cap)) :
    RPost w rb most N tag (upd S nm (some (r, t))) (.tuple #[]) (.returned (.tuple #[])) (w.setCell ⟨pt nm, 2, none⟩ (.slice (some ⟨g, off + 2, none⟩) t.length (cap - 1))) := by
  obtain ⟨p1, p2, p3, p4, p5⟩ := hp
  have hT : Turn (own tag nm) w (w.setCell ⟨pt nm, 2, none⟩ (.slice (some ⟨g, off + 2, none⟩) t.length (cap - 1))) := Turn.setCell w _ _ (.inl p1)
  have hgp : g ≠ pt nm := fun e => by have := p2 g rfl; rw [e, p1] at this; cases this
  obtain ⟨r1, r2⟩ := h.step (Nat.le_refl N) hT (fun _ _ => rfl) (fun b hb => Nat.lt_of_lt_of_le (h.lt b hb) hT.size) hnm (x := (r, t)) (lv := .slice (some ⟨g, off + 2, none⟩) t.length (cap - 1))
    ⟨p1, fun g' hg' => p2 g' hg', heap_setCell_same w (pt nm) 2 _ _ _ p3, by
      have hk : QRow (w.setCell ⟨pt nm, 2, none⟩ (.slice (some ⟨g, off + 2, none⟩) t.length (cap - 1))) 55 2 (.slice (some ⟨g, off, none⟩) (t.length + 1) cap) (t.length + 1) (cellsL (p :: t)) := p4.kept fun b hb => by
        cases hb
        exact heap_setCell_other _ _ _ _ hgp
      refine ⟨cellsL_len t, .inr ?_⟩
      rcases hk.2 with ⟨h', _⟩ | ⟨g', off', cap', cur, h', h2, h3, h4, h5, h6⟩
      · cases h'
      · simp only [Value.slice.injEq, Option.some.injEq, Addr.mk.injEq, and_true, true_and] at h'
        obtain ⟨⟨rfl, rfl⟩, rfl⟩ := h'
        refine ⟨g, off + 2, cap - 1, cur, rfl, h2, by simp only; omega, by omega, by omega, ?_⟩
        have h7 := congrArg (List.drop 2) h6
        rw [List.drop_take, List.drop_drop] at h7
        have e : (cellsL (p :: t)).drop 2 = cellsL t := rfl
        rw [e] at h7
        rw [← h7]
        congr 1
        simp only; omega, by simp only [List.length_cons] at p5; simp only; omega⟩
  exact ⟨tag, tv, names, pt, rfl, r1, r2⟩
end Go.Proofs.Ytfmekhebdpjdkaa.C

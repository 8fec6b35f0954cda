/-
  HTTP: the head's lines, by their names (a map of lists).
-/
import Derived.Test.YtomancadpdccaaaGreatDoorHtI
namespace Go.Proofs.YtomancadpdccaaaGreatDoor.Ht
open Go.RowKit Go.Proofs.YtomancadpdccaaaGreatDoor.B
open Go.Proofs.YtomancadpdccaaaGreatDoor.M hiding Bs
open Go.Proofs.YtomancadpdccaaaGreatDoor.C (QRow Turn OwnF Elem upd)
open Go.Maps (Keyed)
set_option linter.unusedVariables false
set_option linter.unusedSimpArgs false

structure Sx where
  (g off n c : Nat)
abbrev Sx.val (x : Sx) : Value := .slice (some ⟨x.g, x.off, none⟩) x.n x.c
def sxElem : Value → Option (DataW Unit × List MemPlace)
  | .slice none 0 0 => some (.nil, [])
  | .slice (some ⟨g, off, none⟩) n c => some (.agg [.lit (.int .i64 g), .lit (.int .i64 off), .lit (.int .i64 n), .lit (.int .i64 c)], [])
  | _ => none
noncomputable def slE : Elem Tryz.prog Sx where
  R := sxElem
  z := .slice none 0 0
  zd := .nil
  v x := x.val
  d x := .agg [.lit (.int .i64 x.g), .lit (.int .i64 x.off), .lit (.int .i64 x.n), .lit (.int .i64 x.c)]
  hz := rfl
  hv _ := rfl
  inv u x ps h := by
    unfold sxElem at h
    split at h
    · cases h
    · simp only [Option.some.injEq, Prod.mk.injEq, DataW.agg.injEq, List.cons.injEq, DataW.lit.injEq, Lit.int.injEq, true_and, and_true] at h
      obtain ⟨⟨h1, h2, h3, h4⟩, -⟩ := h
      rw [Int.ofNat.inj h1, Int.ofNat.inj h2, Int.ofNat.inj h3, Int.ofNat.inj h4]
    · cases h
  invz u ps h := by
    unfold sxElem at h
    split at h
    · rfl
    · cases h
    · cases h
theorem law : Keyed Tryz.prog 9 := Maps.string_keyed Tryz.underlying9
theorem zeroS (w : World) : (zeroValue 44).run Tryz.prog w = .ok slE.z w := by kernel_rfl
theorem key_mk (q : Bs) (hq : q.length ≤ maxLen) : keyOf Tryz.prog 9 (vs q) = some (.string q) := WideMaps.keyOf_string_mk Tryz.underlying9 (s := ba q) (by rw [sz]; exact hq)
theorem own_get (F : C.Nm → Option Sx) (q : Bs) (g : Nat) (h : (slE.get (F q)).ownBlock = some g) : ∃ x, F q = some x ∧ x.g = g := by
  cases hF : F q with
  | none => rw [hF] at h; cases h
  | some x => rw [hF] at h; exact ⟨x, rfl, by cases h; rfl⟩
/-- the values by their names. -/
def MapS (w : World) (B mb : Nat) (l : List Hd) : Prop := ∃ (n : Nat) (F : C.Nm → Option Sx), OwnF slE w 9 mb n F ∧ n ≤ l.length ∧
  (∀ q, QRow w 9 1 (slE.get (F q)) (valsF l q).length ((valsF l q).map vs)) ∧
  (∀ q q' x x', q ≠ q' → F q = some x → F q' = some x' → x.g ≠ x'.g) ∧ (∀ q x, F q = some x → B ≤ x.g ∧ x.g ≠ mb) ∧ B ≤ mb
theorem MapS.made (w : World) : MapS (w.alloc (.map #[] 0)) w.heap.size w.heap.size [] :=
  ⟨0, fun _ => none, OwnF.made _ _ _, Nat.le_refl _, fun q => QRow.nil _ _ _, fun _ _ _ _ _ h => (by cases h), fun _ _ h => (by cases h), Nat.le_refl _⟩
theorem MapS.below {w w' : World} {B mb : Nat} {l : List Hd} (h : MapS w B mb l) (hb : Below w.heap.size w w') : MapS w' B mb l := by
  obtain ⟨n, F, h1, h2, h3, h4, h5, h6⟩ := h
  exact ⟨n, F, h1.kept (hb.block _ h1.lt), h2, fun q => (h3 q).kept (fun g hg => hb.block _ ((h3 q).block_lt hg)), h4, h5, h6⟩
theorem MapS.lt {w : World} {B mb : Nat} {l : List Hd} (h : MapS w B mb l) : B ≤ mb ∧ mb < w.heap.size := by
  obtain ⟨n, F, h1, h2, h3, h4, h5, h6⟩ := h
  exact ⟨h6, h1.lt⟩
theorem vals_snoc (l : List Hd) (h : Hd) (q : Bs) : valsF (l ++ [h]) q = if h.name = q then valsF l q ++ [h.value] else valsF l q := by
  unfold valsF
  rw [List.filter_append]
  by_cases e : h.name = q
  · rw [if_pos e]
    simp [List.filter, e]
  · rw [if_neg e]
    have : (h.name == q) = false := by rw [beq_eq_false_iff_ne]; exact e
    simp [List.filter, this]
theorem vals_len (l : List Hd) (q : Bs) : (valsF l q).length ≤ l.length := by
  unfold valsF
  rw [List.length_map]
  exact List.length_filter_le _ _
/-- one more value under a name: what is found, and what is stored. -/
theorem MapS.put {w : World} {B mb : Nat} {l : List Hd} (h : MapS w B mb l) (hl : l.length ≤ 1000000) (q : Bs) (hq : q.length ≤ 1000000) :
    ∃ (u : Value) (A : Option Addr) (c : Nat), u = .slice A (valsF l q).length c ∧ (∀ W, Below w.heap.size w W → (Instr.lookup 65 (.map (some mb)) (vs q) false).run Tryz.prog W = .ok u W) ∧ (∀ W, Below w.heap.size w W → QRow W 9 1 u (valsF l q).length ((valsF l q).map vs)) ∧
    ∀ (W : World) (t : Bs) (v' : Value) (w2 : World), Below w.heap.size w W → QRow w2 9 1 v' ((valsF l q).length + 1) ((valsF l q).map vs ++ [vs t]) → W.grownBy w2 u.ownBlock → (∀ g, v'.ownBlock = some g → u.ownBlock = some g ∨ W.heap.size ≤ g) →
      ∃ w3, (Instr.mapUpdate 65 (.map (some mb)) (vs q) v').run Tryz.prog w2 = .ok () w3 ∧ MapS w3 B mb (l ++ [⟨q, t⟩]) ∧ (∀ w0, Below B w0 W → Below B w0 w3) := by
  obtain ⟨n, F, h1, h2, h3, h4, h5, h6⟩ := h
  have hk := key_mk q (by unfold maxLen; omega)
  have hmbl := h1.lt
  obtain ⟨A, c, hf⟩ := QRow.form (h3 q)
  refine ⟨slE.get (F q), A, c, hf, fun W hb => ?_, fun W hb => (h3 q).kept (fun g hg => hb.block _ ((h3 q).block_lt hg)), fun W t v' w2 hb hq2 hg hown => ?_⟩
  · exact ((h1.kept (hb.block _ h1.lt)).look law Tryz.underlying65 (zeroS _) hk).1
  · have hWs := hb.size
    have hB : ∀ g, (slE.get (F q)).ownBlock = some g → B ≤ g ∧ g ≠ mb := fun g hgg => by
      obtain ⟨x, hx, rfl⟩ := own_get F q g hgg
      exact h5 q x hx
    obtain ⟨g', off', cap', hv', hv'own⟩ : ∃ g off cap, v' = .slice (some ⟨g, off, none⟩) ((valsF l q).length + 1) cap ∧ v'.ownBlock = some g := by
      rcases hq2.2 with ⟨_, h0⟩ | ⟨g, off, cap, cur, hv, _⟩
      · omega
      · exact ⟨g, off, cap, hv, by rw [hv]; rfl⟩
    have hmb2 : w2.heap[mb]? = w.heap[mb]? := by
      have := hg.block mb (by omega) (fun e => (hB mb e.symm).2 rfl)
      exact this.trans (hb.block _ hmbl)
    have hOw := h1.kept hmb2
    obtain ⟨w3, hrun, hOw3, hg3⟩ := hOw.store law Tryz.underlying65 (n := n) (by unfold maxLen; omega) hk (⟨g', off', (valsF l q).length + 1, cap'⟩ : Sx)
    have hveq : slE.v (⟨g', off', (valsF l q).length + 1, cap'⟩ : Sx) = v' := by rw [hv']; rfl
    rw [hveq] at hrun
    have hg'B : B ≤ g' ∧ g' ≠ mb := by
      rcases hown g' hv'own with h | h
      · exact hB g' h
      · exact ⟨by omega, by omega⟩
    have hs2 := hg.size
    have hkeep : ∀ r x, r ≠ q → F r = some x → w3.heap[x.g]? = w.heap[x.g]? := fun r x hr hx => by
      have hxl : x.g < w.heap.size := (h3 r).block_lt (by rw [hx]; rfl)
      have e1 := hg3.block x.g (by omega) (fun e => (h5 r x hx).2 (Option.some.inj e))
      have e2 := hg.block x.g (by omega) (fun e => by
        obtain ⟨y, hy, hyg⟩ := own_get F q x.g e.symm
        exact h4 r q x y hr hx hy hyg.symm)
      exact e1.trans (e2.trans (hb.block _ hxl))
    refine ⟨w3, hrun, ⟨n + 1, _, hOw3, by rw [List.length_append]; simp; omega, fun r => ?_, fun r r' x x' hrr hx hx' => ?_, fun r x hx => ?_, h6⟩, fun w0 hb0 => (hb0.grown hg (by omega) (fun b e => (hB b e).1)).grown hg3 (by omega) (fun b e => by cases e; exact h6)⟩
    · rw [vals_snoc]
      by_cases e : r = q
      · subst e
        rw [C.upd_same, if_pos rfl, List.length_append, List.map_append]
        show QRow w3 9 1 (slE.v _) _ _
        rw [hveq]
        refine hq2.kept (fun g hgg => ?_)
        rw [hv'own] at hgg
        cases hgg
        exact hg3.block g' (hq2.block_lt hv'own) (fun e => hg'B.2 (Option.some.inj e))
      · rw [C.upd_other _ _ e, if_neg (fun e' => e e'.symm)]
        refine (h3 r).kept (fun g hgg => ?_)
        obtain ⟨x, hx, rfl⟩ := own_get F r g hgg
        exact hkeep r x e hx
    · have hcase : ∀ r x, upd F q (some (⟨g', off', (valsF l q).length + 1, cap'⟩ : Sx)) r = some x → (r = q ∧ x.g = g') ∨ (r ≠ q ∧ F r = some x) := fun r x hx => by
        by_cases e : r = q
        · subst e
          rw [C.upd_same] at hx
          cases hx
          exact .inl ⟨rfl, rfl⟩
        · rw [C.upd_other _ _ e] at hx
          exact .inr ⟨e, hx⟩
      have hap : ∀ r x, r ≠ q → F r = some x → x.g ≠ g' := fun r x hr hx e => by
        have hxl : x.g < w.heap.size := (h3 r).block_lt (by rw [hx]; rfl)
        rcases hown g' hv'own with h | h
        · obtain ⟨y, hy, hyg⟩ := own_get F q g' h
          exact h4 r q x y hr hx hy (by omega)
        · omega
      rcases hcase r x hx with ⟨e1, e2⟩ | ⟨e1, e2⟩
      · rcases hcase r' x' hx' with ⟨e3, e4⟩ | ⟨e3, e4⟩
        · exact absurd (e1.trans e3.symm) hrr
        · rw [e2]; exact fun e => hap r' x' e3 e4 e.symm
      · rcases hcase r' x' hx' with ⟨e3, e4⟩ | ⟨e3, e4⟩
        · rw [e4]; exact hap r x e1 e2
        · exact h4 r r' x x' hrr e2 e4
    · by_cases e : r = q
      · subst e
        rw [C.upd_same] at hx
        cases hx
        exact hg'B
      · rw [C.upd_other _ _ e] at hx
        exact h5 r x hx
/-- what is found under a name. -/
theorem MapS.look {w : World} {B mb : Nat} {l : List Hd} (h : MapS w B mb l) (q : Bs) (hq : q.length ≤ 1000000) : ∃ (A : Option Addr) (c : Nat), (Instr.lookup 65 (.map (some mb)) (vs q) false).run Tryz.prog w = .ok (.slice A (valsF l q).length c) w ∧ (valsF l q).length ≤ c ∧ RdS w A (valsF l q) := by
  obtain ⟨n, F, h1, h2, h3, h4, h5, h6⟩ := h
  have hk := key_mk q (by unfold maxLen; omega)
  have hr := (h1.look law Tryz.underlying65 (zeroS _) hk).1
  rcases (h3 q).2 with ⟨hv, h0⟩ | ⟨g, off, cap, cur, hv, hg, hn, ho, hc, ht⟩
  · rw [hv] at hr
    rw [h0, List.eq_nil_of_length_eq_zero h0]
    exact ⟨none, 0, hr, Nat.le_refl _, RdS.nil _ _⟩
  · rw [hv] at hr
    refine ⟨_, cap, hr, hn, fun i x hx => ⟨_, rfl, ?_⟩⟩
    have hi := (List.getElem?_eq_some_iff.1 hx).1
    rw [Addr.add_lit, cell_of_row w g _ _ _ (0, 0) hg]
    have e := congrArg (fun l : List Value => l[i]?) ht
    simp only [List.getElem?_take, List.getElem?_drop, List.getElem?_map, hx] at e
    rw [if_pos (by omega)] at e
    rw [← Array.getElem?_toList, e]
    rfl
/-! ### the lines -/
theorem hds_snoc : ∀ (l : List Bs) (x : Bs), hdsF (l ++ [x]) = (match hdsF l, hdF x with
      | some a, some h => some (a ++ [h])
      | _, _ => none)
  | [], x => by
    show (match hdF x with | none => none | some h => match hdsF [] with | none => none | some r => some (h :: r)) = _
    cases hdF x <;> rfl
  | y :: l, x => by
    rw [List.cons_append, hdsF, hdsF, hds_snoc l x]
    cases hdF y <;> cases hdsF l <;> cases hdF x <;> rfl
theorem hds_none : ∀ {l : List Bs} {x : Bs}, x ∈ l → hdF x = none → hdsF l = none
  | y :: l, x, hm, h => by
    rw [hdsF]
    rcases List.mem_cons.1 hm with rfl | hm
    · rw [h]
    · rw [hds_none hm h]
      cases hdF y <;> rfl
theorem hds_len : ∀ {l : List Bs} {a : List Hd}, hdsF l = some a → a.length = l.length
  | [], a, h => by cases h; rfl
  | y :: l, a, h => by
    rw [hdsF] at h
    cases hy : hdF y with
    | none => rw [hy] at h; cases h
    | some d =>
      rw [hy] at h
      cases hl : hdsF l with
      | none => rw [hl] at h; cases h
      | some r =>
        rw [hl] at h
        cases h
        simp [hds_len hl]
end Go.Proofs.YtomancadpdccaaaGreatDoor.Ht

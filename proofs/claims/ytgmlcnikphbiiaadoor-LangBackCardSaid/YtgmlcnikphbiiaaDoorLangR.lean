/-
  The statements' own comparison: Exprs, rels, Schemas.
-/
import Derived.Test.YtgmlcnikphbiiaaDoorLangQ
namespace Go.Proofs.YtgmlcnikphbiiaaDoor.L
open Go.RowKit Go.Proofs.YtgmlcnikphbiiaaDoor.B Go.Proofs.YtgmlcnikphbiiaaDoor.S10 Go.Proofs.YtgmlcnikphbiiaaDoor.Nm
open Go.Proofs.YtgmlcnikphbiiaaDoor.C (QRow Turn wpList_append_q)
set_option linter.unusedVariables false
set_option linter.unusedSimpArgs false

def allTo {n : Nat} (f : Fin n → Bool) : Nat → Bool
  | 0 => true
  | k + 1 => allTo f k && (if h : k < n then f ⟨k, h⟩ else true)
theorem allTo_step {n : Nat} (f : Fin n → Bool) {k : Nat} (h : k < n) : allTo f (k + 1) = (allTo f k && f ⟨k, h⟩) := by rw [allTo, dif_pos h]
theorem allTo_false {n : Nat} (f : Fin n → Bool) : ∀ {k : Nat} (j : Nat) (h : k < n), k < j → f ⟨k, h⟩ = false → allTo f j = false
  | k, 0, h, hj, hf => by omega
  | k, j + 1, h, hj, hf => by
    by_cases e : k = j
    · subst e; rw [allTo_step f h, hf, Bool.and_false]
    · rw [allTo, allTo_false f j h (by omega) hf, Bool.false_and]
theorem allTo_iff {n : Nat} (f : Fin n → Bool) : allTo f n = true ↔ ∀ i, f i = true := by
  constructor
  · intro h i
    cases hf : f i
    · rw [allTo_false f n i.2 i.2 hf] at h; cases h
    · rfl
  · intro h
    have : ∀ k, allTo f k = true := by
      intro k
      induction k with
      | zero => rfl
      | succ k ih => rw [allTo, ih]; split <;> simp [h]
    exact this n
def exprsB : Ex → Ex → Bool
  | .mk k a b n kid, .mk k' a' b' n' kid' => (k == k') && (if h : n = n' then (if n = 0 then a == a' && (k == 0 || b == b') else allTo (fun i => exprsB (kid i) (kid' (i.cast h))) n) else false)
theorem exprsB_eq (k k' : Int) (a b a' b' : Bs) (n n' : Nat) (kid : Fin n → Ex) (kid' : Fin n' → Ex) : exprsB (.mk k a b n kid) (.mk k' a' b' n' kid') =
  ((k == k') && (if h : n = n' then (if n = 0 then a == a' && (k == 0 || b == b') else allTo (fun i => exprsB (kid i) (kid' (i.cast h))) n) else false)) := rfl
theorem exprsB_refl : ∀ e, exprsB e e = true
  | .mk k a b n kid => by
    rw [exprsB_eq, dif_pos rfl]
    simp
    right
    rw [allTo_iff]
    intro i
    exact exprsB_refl (kid i)
def BRet (w : World) (b : Bool) (e : Ending) (w' : World) : Prop := e = .returned (.bool b) ∧ Below w.heap.size w w'
theorem two_boxes {w : World} {c1 c2 : Array Value} {t : TypeId} {W : World} (hb : Below ((w.alloc (.cells c1 t)).alloc (.cells c2 t)).heap.size ((w.alloc (.cells c1 t)).alloc (.cells c2 t)) W) :
    W.heap[w.heap.size]? = some (.cells c1 t (0, 0)) ∧ W.heap[w.heap.size + 1]? = some (.cells c2 t (0, 0)) ∧ Below w.heap.size w W := by
  have h1 := heap_alloc_new w (.cells c1 t)
  have h2 := heap_alloc_new (w.alloc (.cells c1 t)) (.cells c2 t)
  have hs : (w.alloc (.cells c1 t)).heap.size = w.heap.size + 1 := by simp
  have hs2 : ((w.alloc (.cells c1 t)).alloc (.cells c2 t)).heap.size = w.heap.size + 1 + 1 := by simp
  rw [hs] at h2
  exact ⟨(hb.block _ (by omega)).trans ((alloc_old _ (by omega)).trans h1), (hb.block _ (by omega)).trans h2, keepB (((Below.refl _ w).alloc (Nat.le_refl _) _).alloc (by omega) _) hb⟩
set_option maxRecDepth 100000 in
set_option maxHeartbeats 2000000 in
theorem exprs_leaf (k k' : Int) (a b a' b' : Bs) (A A' : Option Addr) (n n' c c' : Nat) (hn : n ≤ 9223372036854775807) (hn' : n' ≤ 9223372036854775807) (h : ¬ (k = k' ∧ n = n') ∨ n = 0) (w : World) :
    Calls Tryd.prog 57 #[exAgg k a b A n c, exAgg k' a' b' A' n' c'] w (BRet w ((k == k') && (n == n') && (a == a' && (k == 0 || b == b')))) := by
  have hB : Below w.heap.size w ((w.alloc (.cells #[.int .i64 k, vs a, vs b, .slice A n c] 38)).alloc (.cells #[.int .i64 k', vs a', vs b', .slice A' n' c'] 38)) := ((Below.refl _ w).alloc (Nat.le_refl _) _).alloc (by simp) _
  have HB := Lib.hid hB
  clear hB
  by_cases hk : k = k'
  · subst hk
    by_cases hnn : n = n'
    · subst hnn
      have hn0 : n = 0 := by
        rcases h with h | h
        · exact absurd ⟨rfl, rfl⟩ h
        · exact h
      subst hn0
      clear h
      cases ha : a == a' with
      | false =>
        go_enter Tryd.func57, Tryd.ntmps57
        go_wp2
        go_ret
        exact ⟨by simp, HB.out⟩
      | true =>
        by_cases hk0 : k = 0
        · subst hk0
          go_enter Tryd.func57, Tryd.ntmps57
          go_wp2
          go_ret
          exact ⟨by simp, HB.out⟩
        · have hk0' : (k == 0) = false := by simpa using hk0
          obtain ⟨bb, hbb⟩ : ∃ bb, (b == b') = bb := ⟨_, rfl⟩
          have hbb' := hbb
          rw [hbb]
          have HK := Lib.hid hk0
          clear hk0
          go_enter Tryd.func57, Tryd.ntmps57
          go_wp2
          go_ret
          exact ⟨by simp [HK.out], HB.out⟩
    · have hnn' : ((n : Int) == (n' : Int)) = false := by simp; omega
      have e2 : (n == n') = false := by simpa using hnn
      clear h hnn
      go_enter Tryd.func57, Tryd.ntmps57
      go_wp2
      go_ret
      exact ⟨by simp [e2], HB.out⟩
  · have e1 : (k == k') = false := by simpa using hk
    have HK := Lib.hid hk
    clear h hk
    go_enter Tryd.func57, Tryd.ntmps57
    go_wp2
    go_ret
    exact ⟨by simp [HK.out], HB.out⟩
theorem kid_cells {w : World} {F : Nat → Prop} {k : Int} {a b : Bs} {n : Nat} {kid : Fin n → Ex} {A : Option Addr} {c : Nat} (h : ExV w F (.mk k a b n kid) (exAgg k a b A n c)) (j : Nat) (hj : j < n) :
    ∃ ad b k0 a0 b0 A0 n0 c0, A = some ad ∧ ad.add (j * 4) = b ∧ w.cell? b = some (.int .i64 k0) ∧ w.cell? ⟨b.block, b.off + 1, none⟩ = some (vs a0) ∧ w.cell? ⟨b.block, b.off + 2, none⟩ = some (vs b0) ∧
      w.cell? ⟨b.block, b.off + 3, none⟩ = some (.slice A0 n0 c0) ∧ ExV w F (kid ⟨j, hj⟩) (exAgg k0 a0 b0 A0 n0 c0) := by
  obtain ⟨ad, b, k0, a0, b0, A0, n0, c0, h1, h2, -, h3⟩ := h.kid j hj
  exact ⟨ad, b, k0, a0, b0, A0, n0, c0, h1, h2, h3⟩
set_option maxRecDepth 100000 in
set_option maxHeartbeats 4000000 in
theorem exprs_kids (F F' : Nat → Prop) (k : Int) (a b a' b' : Bs) (A A' : Option Addr) (n c c' : Nat) (kid kid' : Fin n → Ex) (hn : n ≤ 9223372036854775807) (hn0 : n ≠ 0) (w : World)
    (ih : ∀ i v v' w, ExV w F (kid i) v → ExV w F' (kid' i) v' → Calls Tryd.prog 57 #[v, v'] w (BRet w (exprsB (kid i) (kid' i))))
    (h : ExV w F (.mk k a b n kid) (exAgg k a b A n c)) (h' : ExV w F' (.mk k a' b' n kid') (exAgg k a' b' A' n c')) :
    Calls Tryd.prog 57 #[exAgg k a b A n c, exAgg k a' b' A' n c'] w (BRet w (allTo (fun i => exprsB (kid i) (kid' i)) n)) := by
  have HIH := Lib.hid ih
  have HV := Lib.hid h
  have HV' := Lib.hid h'
  have hn0' : ((n : Int) == 0) = false := by simp; omega
  clear ih h h'
  go_enter Tryd.func57, Tryd.ntmps57
  go_wp2_with fail
  go_loopw [5, 6] (fun v5 v6 wr => ∃ j : Nat, j ≤ n ∧ v5 = .int .i64 j ∧ Hid (allTo (fun i => exprsB (kid i) (kid' i)) j = true) ∧ Below ((w.alloc (.cells #[.int .i64 k, vs a, vs b, .slice A n c] 38)).alloc (.cells #[.int .i64 k, vs a', vs b', .slice A' n c'] 38)).heap.size ((w.alloc (.cells #[.int .i64 k, vs a, vs b, .slice A n c] 38)).alloc (.cells #[.int .i64 k, vs a', vs b', .slice A' n c'] 38)) wr) (fun v5 _ _ => n - (intOf v5).toNat)
  case atStart => exact ⟨0, Nat.zero_le _, rfl, Lib.hid rfl, Below.refl _ _⟩
  case round =>
    obtain ⟨j, hjn, rfl, HALL, hb⟩ := hrel
    obtain ⟨g1, g2, hb0⟩ := two_boxes hb
    have HB0 := Lib.hid hb0
    have HB := Lib.hid hb
    obtain ⟨t0, t1, t2, t3, -⟩ := four_of g1
    obtain ⟨u0, u1, u2, u3, -⟩ := four_of g2
    by_cases hj : j < n
    · obtain ⟨ad, p, k1, a1, b1, A1, n1, c1, rfl, hp, d0, d1, d2, d3, hx⟩ := kid_cells (HV.out.below hb0) j hj
      obtain ⟨ad', p', k2, a2, b2, A2, n2, c2, rfl, hp', e0, e1, e2, e3, hx'⟩ := kid_cells (HV'.out.below hb0) j hj
      have HX := Lib.hid (hx.drew)
      have HX' := Lib.hid (hx'.drew)
      have HST := Lib.hid (allTo_step (fun i => exprsB (kid i) (kid' i)) hj)
      obtain ⟨r, hr⟩ : ∃ r, exprsB (kid ⟨j, hj⟩) (kid' ⟨j, hj⟩) = r := ⟨_, rfl⟩
      have HR := Lib.hid hr
      clear hr hx hx' hb hb0 g1 g2
      go_wp2_with fail
      go_region_held3 (fun W => W.cell? ⟨w.heap.size, 3, none⟩ = some (.slice (some ad) n c) ∧ W.cell? ⟨w.heap.size + 1, 3, none⟩ = some (.slice (some ad') n c') ∧ W.cell? p = some (.int .i64 k1) ∧ W.cell? ⟨p.block, p.off + 1, none⟩ = some (vs a1) ∧ W.cell? ⟨p.block, p.off + 2, none⟩ = some (vs b1) ∧ W.cell? ⟨p.block, p.off + 3, none⟩ = some (.slice A1 n1 c1) ∧
          W.cell? p' = some (.int .i64 k2) ∧ W.cell? ⟨p'.block, p'.off + 1, none⟩ = some (vs a2) ∧ W.cell? ⟨p'.block, p'.off + 2, none⟩ = some (vs b2) ∧ W.cell? ⟨p'.block, p'.off + 3, none⟩ = some (.slice A2 n2 c2)) (go_keep)
        ((((with_reducible refine (HIH.out ⟨j, hj⟩ _ _ _ HX.out HX'.out).mono ?_); rintro e w1 ⟨rfl, hb⟩
           have hb' : Below wr.heap.size wr w1 := ⟨hb.os, hb.tape, hb.output, hb.size, hb.block⟩
           have HB1 := Lib.hid (below_then HB.out HB.out.size hb')
           have z0 := keepC hb' t3
           have z1 := keepC hb' u3
           have z2 := keepC hb' d0
           have z3 := keepC hb' d1
           have z4 := keepC hb' d2
           have z5 := keepC hb' d3
           have z6 := keepC hb' e0
           have z7 := keepC hb' e1
           have z8 := keepC hb' e2
           have z9 := keepC hb' e3
           rw [HR.out]
           clear hb hb')))
      all_goals
        cases r with
        | true =>
          go_wp2
          go_roundw
          case rel => exact ⟨j + 1, by omega, by go_num, Lib.hid (by rw [HST.out, HALL.out, HR.out]; rfl), HB1.out⟩
          case measure => simp [intOf]; omega
        | false =>
          have hall := allTo_false (fun i => exprsB (kid i) (kid' i)) n hj hj HR.out
          have HF := Lib.hid hall
          clear hall
          go_wp2
          go_ret
          obtain ⟨-, -, hb1⟩ := two_boxes HB1.out
          exact ⟨by rw [HF.out]; rfl, hb1⟩
    · have hjn' : j = n := by omega
      subst hjn'
      clear hb hb0 g1 g2
      go_wp2
      go_ret
      exact ⟨by rw [HALL.out]; rfl, HB0.out⟩
theorem exprs_calls (F F' : Nat → Prop) : ∀ (x y : Ex) (v v' : Value) (w : World), ExV w F x v → ExV w F' y v' → Calls Tryd.prog 57 #[v, v'] w (BRet w (exprsB x y))
  | .mk k a b n kid, .mk k' a' b' n' kid', v, v', w, h, h' => by
    obtain ⟨⟨A, c, rfl⟩, hn⟩ := h.top
    obtain ⟨⟨A', c', rfl⟩, hn'⟩ := h'.top
    rw [exprsB_eq]
    by_cases hkn : k = k' ∧ n = n'
    · obtain ⟨rfl, rfl⟩ := hkn
      by_cases hn0 : n = 0
      · have := exprs_leaf k k a b a' b' A A' n n c c' hn hn' (.inr hn0) w
        rw [dif_pos rfl, if_pos hn0]
        simpa using this
      · rw [dif_pos rfl, if_neg hn0]
        have := exprs_kids F F' k a b a' b' A A' n c c' kid kid' hn hn0 w (fun i v v' w hv hv' => exprs_calls F F' (kid i) (kid' i) v v' w hv hv') h h'
        simpa using this
    · have := exprs_leaf k k' a b a' b' A A' n n' c c' hn hn' (.inl hkn) w
      have e : ((k == k') && (if h : n = n' then (if n = 0 then a == a' && (k == 0 || b == b') else allTo (fun i => exprsB (kid i) (kid' (i.cast h))) n) else false)) = ((k == k') && (n == n') && (a == a' && (k == 0 || b == b'))) := by
        by_cases hk : k = k'
        · have hnn : ¬ n = n' := fun e => hkn ⟨hk, e⟩
          rw [dif_neg hnn]; simp [hnn]
        · have : (k == k') = false := by simpa using hk
          rw [this]; simp
      rw [e]
      exact this
/-! ### rels -/
def rfB (a b : Rf) : Bool := a.ty == b.ty && a.rel == b.rel
def rfAt (xs : List Rf) (i : Nat) : Rf := xs.getD i ⟨[], []⟩
def relsB (x y : Rl) : Bool := (x.name == y.name) && ((x.refs.length == y.refs.length) && (allTo (n := x.refs.length) (fun i => rfB (rfAt x.refs i) (rfAt y.refs i)) x.refs.length && (decide (0 < x.refs.length) || exprsB x.ex y.ex)))
theorem getD_some {α : Type} {xs : List α} {j : Nat} (d : α) (h : j < xs.length) : xs[j]? = some (xs.getD j d) := by
  rw [List.getD_eq_getElem?_getD, List.getElem?_eq_getElem h]; rfl
theorem SlV.drew {α : Type} {w : World} {F : Nat → Prop} {size : Nat} {R : α → List Value → Prop} {xs : List α} {A : Option Addr} {n : Nat} (hs : 0 < size) (h : SlV w F size R xs A n) : SlV w.drew F size R xs A n :=
  SlV.keep (w := w) (w' := w.drew) hs (fun _ h _ => h) (fun _ _ _ h => h) (fun _ _ h => h) h
theorem turn_below {w w' : World} (hb : Below w.heap.size w w') : Turn (fun _ => False) w w' := Turn.of_below hb
theorem SlV.below {α : Type} {w w' : World} {F : Nat → Prop} {size : Nat} {R R' : α → List Value → Prop} {xs : List α} {A : Option Addr} {n : Nat} (hs : 0 < size) (h : SlV w F size R xs A n) (hb : Below w.heap.size w w') (hR : ∀ x cs, R x cs → R' x cs) : SlV w' F size R' xs A n :=
  SlV.keep hs (fun _ h _ => h) (fun a v _ hv => keepC hb hv) hR h
theorem RelR.below {w w' : World} {F : Nat → Prop} {x : Rl} {cs : List Value} (h : RelR w F x cs) (hb : Below w.heap.size w w') : RelR w' F x cs := h.keep (fun _ h _ => h) (fun a v _ hv => keepC hb hv)
theorem ref_cells {w : World} {F : Nat → Prop} {xs : List Rf} {A : Option Addr} {n : Nat} (h : SlV w F 2 RefR xs A n) (j : Nat) (hj : j < n) :
    ∃ ad b, A = some ad ∧ ad.add (j * 2) = b ∧ w.cell? b = some (vs (rfAt xs j).ty) ∧ w.cell? ⟨b.block, b.off + 1, none⟩ = some (vs (rfAt xs j).rel) := by
  obtain ⟨ad, b, cs, h1, h2, -, -, h5, h6⟩ := h.2.2 j (rfAt xs j) (getD_some _ (by rw [h.1]; exact hj))
  rw [h6] at h5
  have c0 := h5 0 _ rfl
  have c1 := h5 1 _ rfl
  rw [add_zero] at c0
  rw [Addr.add_succ'] at c1
  exact ⟨ad, b, h1, h2, c0, c1⟩
abbrev rlAgg (s : Bs) (A : Option Addr) (n c : Nat) (k : Int) (a b : Bs) (A' : Option Addr) (n' c' : Nat) : Value := .agg #[vs s, .slice A n c, .int .i64 k, vs a, vs b, .slice A' n' c']
abbrev rlCells (s : Bs) (A : Option Addr) (n c : Nat) (k : Int) (a b : Bs) (A' : Option Addr) (n' c' : Nat) : Array Value := #[vs s, .slice A n c, .int .i64 k, vs a, vs b, .slice A' n' c']
set_option maxRecDepth 100000 in
set_option maxHeartbeats 4000000 in
theorem rels_calls (F F' : Nat → Prop) (x y : Rl) (A : Option Addr) (n c : Nat) (k : Int) (a b : Bs) (B : Option Addr) (m d : Nat) (A' : Option Addr) (n' c' : Nat) (k' : Int) (a' b' : Bs) (B' : Option Addr) (m' d' : Nat) (w : World)
    (h1 : SlV w F 2 RefR x.refs A n) (h2 : ExV w F x.ex (exAgg k a b B m d)) (h1' : SlV w F' 2 RefR y.refs A' n') (h2' : ExV w F' y.ex (exAgg k' a' b' B' m' d')) :
    Calls Tryd.prog 31 #[rlAgg x.name A n c k a b B m d, rlAgg y.name A' n' c' k' a' b' B' m' d'] w (BRet w (relsB x y)) := by
  have hl := h1.1
  have hl' := h1'.1
  have hnl := h1.2.1
  have hnl' := h1'.2.1
  have hB : Below w.heap.size w ((w.alloc (.cells (rlCells x.name A n c k a b B m d) 48)).alloc (.cells (rlCells y.name A' n' c' k' a' b' B' m' d') 48)) := ((Below.refl _ w).alloc (Nat.le_refl _) _).alloc (by simp) _
  have HB := Lib.hid hB
  have HL := Lib.hid hl
  have HL' := Lib.hid hl'
  have S1 := Lib.hid h1
  have S2 := Lib.hid h2
  have S1' := Lib.hid h1'
  have S2' := Lib.hid h2'
  clear hB hl hl' h1 h2 h1' h2'
  obtain ⟨nx, hnx⟩ : ∃ nx, x.name = nx := ⟨_, rfl⟩
  obtain ⟨ny, hny⟩ : ∃ ny, y.name = ny := ⟨_, rfl⟩
  have hR : relsB x y = ((nx == ny) && ((n == n') && (allTo (n := n) (fun i => rfB (rfAt x.refs i) (rfAt y.refs i)) n && (decide (0 < n) || exprsB x.ex y.ex)))) := by
    have hl := HL.out
    subst hl
    unfold relsB
    rw [hnx, hny, HL'.out]
  rw [hnx, hny] at HB ⊢
  have HR := Lib.hid hR
  clear hR hnx hny
  cases hna : nx == ny with
  | false =>
    have HNA := Lib.hid hna
    go_enter Tryd.func31, Tryd.ntmps31
    go_wp2
    go_ret
    exact ⟨by rw [HR.out, HNA.out]; rfl, HB.out⟩
  | true =>
  have HNA := Lib.hid hna
  by_cases hnn : n = n'
  · subst hnn
    go_enter Tryd.func31, Tryd.ntmps31
    go_wp2_with fail
    go_loopw [5] (fun v5 wr => ∃ j : Nat, j ≤ n ∧ v5 = .int .i64 j ∧ Hid (allTo (n := n) (fun i => rfB (rfAt x.refs i) (rfAt y.refs i)) j = true) ∧ Below ((w.alloc (.cells (rlCells nx A n c k a b B m d) 48)).alloc (.cells (rlCells ny A' n c' k' a' b' B' m' d') 48)).heap.size ((w.alloc (.cells (rlCells nx A n c k a b B m d) 48)).alloc (.cells (rlCells ny A' n c' k' a' b' B' m' d') 48)) wr) (fun v5 _ => n - (intOf v5).toNat)
    case atStart => exact ⟨0, Nat.zero_le _, rfl, Lib.hid rfl, Below.refl _ _⟩
    case round =>
      obtain ⟨j, hjn, rfl, HALL, hb⟩ := hrel
      obtain ⟨g1, g2, hb0⟩ := two_boxes hb
      have HB0 := Lib.hid hb0
      have HBB := Lib.hid hb
      obtain ⟨t0, t1, t2, t3, t4, t5, -⟩ := six_of g1
      obtain ⟨u0, u1, u2, u3, u4, u5, -⟩ := six_of g2
      by_cases hj : j < n
      · obtain ⟨ad, p, rfl, hp, d0, d1⟩ := ref_cells (S1.out.below (by decide) hb0 (fun _ _ h => h)) j hj
        obtain ⟨ad', p', rfl, hp', e0, e1⟩ := ref_cells (S1'.out.below (by decide) hb0 (fun _ _ h => h)) j hj
        have HST := Lib.hid (allTo_step (n := n) (fun i => rfB (rfAt x.refs i) (rfAt y.refs i)) hj)
        have HAF := Lib.hid (allTo_false (n := n) (fun i => rfB (rfAt x.refs i) (rfAt y.refs i)) n hj hj)
        have HRF := Lib.hid (show rfB (rfAt x.refs j) (rfAt y.refs j) = ((rfAt x.refs j).ty == (rfAt y.refs j).ty && (rfAt x.refs j).rel == (rfAt y.refs j).rel) from rfl)
        generalize (rfAt x.refs j).ty = q1 at *
        generalize (rfAt x.refs j).rel = q2 at *
        generalize (rfAt y.refs j).ty = q3 at *
        generalize (rfAt y.refs j).rel = q4 at *
        cases e13 : q1 == q3 <;> cases e24 : q2 == q4
        all_goals
          have E1 := Lib.hid e13
          have E2 := Lib.hid e24
          clear hb hb0 g1 g2
          go_wp2_with fail
          go_quiet (fail)
          go_wp2
        all_goals first
          | (go_ret
             refine ⟨?_, below_drewN HB0.out _⟩
             rw [HR.out, HNA.out, HAF.out (by show rfB (rfAt x.refs j) (rfAt y.refs j) = false; rw [HRF.out, E1.out, E2.out]; rfl)]
             simp)
          | exact ⟨⟨j + 1, by omega, by go_num, Lib.hid (by rw [HST.out, HALL.out]; show (true && rfB (rfAt x.refs j) (rfAt y.refs j)) = true; rw [HRF.out, E1.out, E2.out]; rfl), below_drewN HBB.out _⟩, by simp [intOf]; omega⟩
      · have hjn' : j = n := by omega
        subst hjn'
        clear hb hb0 g1 g2
        by_cases hj0 : 0 < j
        · go_wp2
          go_ret
          exact ⟨by rw [HR.out, HNA.out, HALL.out]; simp [hj0], HB0.out⟩
        · have hj0' : j = 0 := by omega
          subst hj0'
          have hx2 := S2.out.below HB0.out
          have hx2' := S2'.out.below HB0.out
          have HX := Lib.hid hx2
          have HX' := Lib.hid hx2'
          clear hx2 hx2'
          go_wp2_with fail
          refine (exprs_calls F F' x.ex y.ex _ _ _ HX.out HX'.out).mono ?_
          rintro e w1 ⟨rfl, hb⟩
          have HB1 := Lib.hid (keepB HB0.out hb)
          clear hb
          go_wp2
          go_ret
          exact ⟨by rw [HR.out, HNA.out, HALL.out]; simp, HB1.out⟩
  · have hnn' : ((n : Int) == (n' : Int)) = false := by simp; omega
    have HN := Lib.hid (show (n == n') = false by simpa using hnn)
    clear hnn
    go_enter Tryd.func31, Tryd.ntmps31
    go_wp2
    go_ret
    exact ⟨by rw [HR.out, HNA.out, HN.out]; rfl, HB.out⟩
end Go.Proofs.YtgmlcnikphbiiaaDoor.L

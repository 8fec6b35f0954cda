/-
  Expressions: the plain tree, how it lies in memory, its height.
-/
import Derived.Test.YtgmlcnikphbiiaaDoorLangD
namespace Go.Proofs.YtgmlcnikphbiiaaDoor.L
open Go.RowKit Go.Proofs.YtgmlcnikphbiiaaDoor.B
open Go.Proofs.YtgmlcnikphbiiaaDoor.C (QRow Turn)
set_option linter.unusedVariables false
set_option linter.unusedSimpArgs false

inductive Ex where
  | mk (kind : Int) (name over : Bs) (n : Nat) (kid : Fin n → Ex)
def maxTo {n : Nat} (f : Fin n → Int) : Nat → Int
  | 0 => 0
  | k + 1 => if h : k < n then max (maxTo f k) (f ⟨k, h⟩) else maxTo f k
def Ex.height : Ex → Int
  | .mk _ _ _ n kid => maxTo (fun i => (kid i).height) n + 1
theorem Ex.height_mk (k : Int) (a b : Bs) (n : Nat) (kid : Fin n → Ex) : (Ex.mk k a b n kid).height = maxTo (fun i => (kid i).height) n + 1 := rfl
theorem maxTo_nonneg {n : Nat} (f : Fin n → Int) : ∀ k, 0 ≤ maxTo f k
  | 0 => Int.le_refl _
  | k + 1 => by
    unfold maxTo
    have := maxTo_nonneg f k
    split
    · omega
    · exact this
theorem maxTo_step {n : Nat} (f : Fin n → Int) {k : Nat} (h : k < n) : maxTo f (k + 1) = max (maxTo f k) (f ⟨k, h⟩) := by
  rw [maxTo, dif_pos h]
theorem maxTo_mono {n : Nat} (f : Fin n → Int) : ∀ k j, j ≤ k → maxTo f j ≤ maxTo f k
  | 0, j, h => by
    obtain rfl : j = 0 := by omega
    exact Int.le_refl _
  | k + 1, j, h => by
    by_cases hj : j = k + 1
    · rw [hj]; exact Int.le_refl _
    · have := maxTo_mono f k j (by omega)
      rw [maxTo]
      split
      · omega
      · exact this
theorem Ex.height_pos (e : Ex) : 1 ≤ e.height := by
  cases e with
  | mk k a b n kid =>
    unfold Ex.height
    have := maxTo_nonneg (fun i => (kid i).height) n
    omega
theorem Ex.kid_lt {n : Nat} (f : Fin n → Ex) (k : Nat) (h : k < n) : (f ⟨k, h⟩).height ≤ maxTo (fun i => (f i).height) n := by
  have h1 := maxTo_mono (fun i => (f i).height) n (k + 1) (by omega)
  rw [maxTo_step _ h] at h1
  omega
/-- an expression's value reads as this tree; the blocks that it reads are such ones. -/
def ExV (w : World) (F : Nat → Prop) : Ex → Value → Prop
  | .mk kind nm ov n kid, v => ∃ A c, v = .agg #[.int .i64 kind, vs nm, vs ov, .slice A n c] ∧ n ≤ 9223372036854775807 ∧
    ∀ i : Fin n, ∃ a b v0 v1 v2 v3, A = some a ∧ a.add (i.val * 4) = b ∧ F b.block ∧ w.cell? b = some v0 ∧ w.cell? ⟨b.block, b.off + 1, none⟩ = some v1 ∧ w.cell? ⟨b.block, b.off + 2, none⟩ = some v2 ∧
      w.cell? ⟨b.block, b.off + 3, none⟩ = some v3 ∧ ExV w F (kid i) (.agg #[v0, v1, v2, v3])
theorem ExV.keep {w w' : World} {F F' : Nat → Prop} (hF : ∀ b, F b → b < w.heap.size → F' b) (hk : ∀ a v, F a.block → w.cell? a = some v → w'.cell? a = some v) : ∀ (e : Ex) (v : Value), ExV w F e v → ExV w' F' e v
  | .mk kind nm ov n kid, v, h => by
    unfold ExV at h ⊢
    obtain ⟨A, c, h1, hn, h2⟩ := h
    refine ⟨A, c, h1, hn, fun i => ?_⟩
    obtain ⟨a, b, v0, v1, v2, v3, e1, e2, e3, c0, c1, c2, c3, e4⟩ := h2 i
    exact ⟨a, b, v0, v1, v2, v3, e1, e2, hF _ e3 (World.block_lt_of_cell? w b c0), hk _ _ e3 c0, hk ⟨b.block, b.off + 1, none⟩ _ e3 c1, hk ⟨b.block, b.off + 2, none⟩ _ e3 c2, hk ⟨b.block, b.off + 3, none⟩ _ e3 c3, ExV.keep hF hk _ _ e4⟩
theorem ExV.form {w : World} {F : Nat → Prop} {e : Ex} {v : Value} (h : ExV w F e v) : ∃ k a b A n c, v = .agg #[.int .i64 k, vs a, vs b, .slice A n c] := by
  cases e with
  | mk k a b n kid =>
    unfold ExV at h
    obtain ⟨A, c, h1, _⟩ := h
    exact ⟨k, a, b, A, n, c, h1⟩
theorem ExV.below {w w' : World} {F : Nat → Prop} {e : Ex} {v : Value} (h : ExV w F e v) (hb : Below w.heap.size w w') : ExV w' F e v :=
  ExV.keep (fun _ h _ => h) (fun a v _ hv => keepC hb hv) e v h
/-- a leaf. -/
def leaf (k : Int) (a b : Bs) : Ex := .mk k a b 0 (fun i => i.elim0)
def two (k : Int) (x y : Ex) : Ex := .mk k [] [] 2 (fun i => if i.val = 0 then x else y)
theorem leaf_V (w : World) (F : Nat → Prop) (k : Int) (a b : Bs) : ExV w F (leaf k a b) (.agg #[.int .i64 k, vs a, vs b, .slice none 0 0]) := by
  unfold leaf ExV
  exact ⟨none, 0, rfl, by omega, fun i => i.elim0⟩
theorem two_V {w : World} {F : Nat → Prop} {k : Int} {x y : Ex} {g : Nat} {c : Nat} {x0 x1 x2 x3 y0 y1 y2 y3 : Value} (hx : ExV w F x (.agg #[x0, x1, x2, x3])) (hy : ExV w F y (.agg #[y0, y1, y2, y3])) {e : TypeId} (hF : F g)
    (hg : w.heap[g]? = some (.cells #[x0, x1, x2, x3, y0, y1, y2, y3] e (0, 0))) : ExV w F (two k x y) (.agg #[.int .i64 k, vs [], vs [], .slice (some ⟨g, 0, none⟩) 2 c]) := by
  unfold two ExV
  refine ⟨some ⟨g, 0, none⟩, c, rfl, by omega, fun i => ?_⟩
  have hc : ∀ (o : Nat) (v : Value), (#[x0, x1, x2, x3, y0, y1, y2, y3] : Array Value)[o]? = some v → w.cell? ⟨g, o, none⟩ = some v := fun o v ho => cells_of hg o v ho
  obtain ⟨i, hi⟩ := i
  have h2 : i = 0 ∨ i = 1 := by omega
  rcases h2 with rfl | rfl
  · exact ⟨⟨g, 0, none⟩, ⟨g, 0, none⟩, x0, x1, x2, x3, rfl, rfl, hF, hc 0 _ rfl, hc 1 _ rfl, hc 2 _ rfl, hc 3 _ rfl, hx⟩
  · exact ⟨⟨g, 0, none⟩, ⟨g, 4, none⟩, y0, y1, y2, y3, rfl, rfl, hF, hc 4 _ rfl, hc 5 _ rfl, hc 6 _ rfl, hc 7 _ rfl, hy⟩
theorem two_height (k : Int) (x y : Ex) : (two k x y).height = max x.height y.height + 1 := by
  have h1 := x.height_pos
  have h2 := y.height_pos
  have : maxTo (n := 2) (fun i => (if i.val = 0 then x else y).height) 2 = max x.height y.height := by
    rw [maxTo_step _ (by decide), maxTo_step _ (by decide)]
    simp [maxTo]
    omega
  unfold two
  rw [Ex.height_mk, this]
theorem agg4 {a b c d a' b' c' d' : Value} (h : Value.agg #[a, b, c, d] = .agg #[a', b', c', d']) : a = a' ∧ b = b' ∧ c = c' ∧ d = d' := by
  simpa using h
/-- the value, taken apart. -/
theorem ExV.top {w : World} {F : Nat → Prop} {kind : Int} {nm ov : Bs} {n : Nat} {kid : Fin n → Ex} {v : Value} (h : ExV w F (.mk kind nm ov n kid) v) : (∃ A c, v = .agg #[.int .i64 kind, vs nm, vs ov, .slice A n c]) ∧ n ≤ 9223372036854775807 := by
  unfold ExV at h
  obtain ⟨A, c, h1, hn, _⟩ := h
  exact ⟨⟨A, c, h1⟩, hn⟩
theorem ExV.kid {w : World} {F : Nat → Prop} {kind : Int} {nm ov : Bs} {n : Nat} {kid : Fin n → Ex} {A : Option Addr} {c : Nat} (h : ExV w F (.mk kind nm ov n kid) (.agg #[.int .i64 kind, vs nm, vs ov, .slice A n c])) (k : Nat) (hk : k < n) :
    ∃ a b k0 a0 b0 A0 n0 c0, A = some a ∧ a.add (k * 4) = b ∧ F b.block ∧ w.cell? b = some (.int .i64 k0) ∧ w.cell? ⟨b.block, b.off + 1, none⟩ = some (vs a0) ∧ w.cell? ⟨b.block, b.off + 2, none⟩ = some (vs b0) ∧
      w.cell? ⟨b.block, b.off + 3, none⟩ = some (.slice A0 n0 c0) ∧ ExV w F (kid ⟨k, hk⟩) (.agg #[.int .i64 k0, vs a0, vs b0, .slice A0 n0 c0]) := by
  unfold ExV at h
  obtain ⟨A', c', h1, hn, h2⟩ := h
  have h1 := (agg4 h1).2.2.2
  injection h1 with hA _ _
  obtain ⟨a, b, v0, v1, v2, v3, e1, e2, e3, c0, c1, c2, c3, e4⟩ := h2 ⟨k, hk⟩
  obtain ⟨k0, a0, b0, A0, n0, c0', hf⟩ := e4.form
  rw [hf] at e4
  obtain ⟨rfl, rfl, rfl, rfl⟩ := agg4 hf
  exact ⟨a, b, k0, a0, b0, A0, n0, c0', hA.trans e1, e2, e3, c0, c1, c2, c3, e4⟩
set_option maxRecDepth 100000 in
set_option maxHeartbeats 1000000 in
theorem Height_calls (F : Nat → Prop) : ∀ (e : Ex) (v : Value) (w : World), ExV w F e v → e.height ≤ 1000000 →
    Calls Tryd.prog 20 #[v] w fun e' w' => e' = .returned (.int .i64 e.height) ∧ Below w.heap.size w w'
  | .mk kind nm ov n kid, v, w, h, hh => by
    have HV := Lib.hid h
    obtain ⟨⟨A, c, rfl⟩, hnl⟩ := h.top
    have ih := fun i => Height_calls F (kid i)
    have IH := Lib.hid ih
    rw [Ex.height_mk] at hh ⊢
    have HH := Lib.hid hh
    clear ih hh h
    go_enter Tryd.func20, Tryd.ntmps20
    go_wp2_with fail
    go_loopw [3, 9] (fun v3 v9 wr => ∃ k : Nat, k ≤ n ∧ v9 = .int .i64 k ∧ v3 = .int .i64 (maxTo (fun i => (kid i).height) k) ∧ Below w.heap.size w wr) (fun _ v9 _ => n - (intOf v9).toNat)
    case atStart => exact ⟨0, Nat.zero_le _, rfl, rfl, (Below.refl _ w).alloc (Nat.le_refl _) _⟩
    case round =>
      obtain ⟨k, hkn, rfl, rfl, hb⟩ := hrel
      have HB := Lib.hid hb
      have m0 := maxTo_nonneg (fun i => (kid i).height) k
      have m1 := maxTo_mono (fun i => (kid i).height) n k hkn
      have hh := HH.out
      by_cases hk : k < n
      · obtain ⟨a, b, k0, a0, b0, A0, n0, c0, rfl, hab, -, d0, d1, d2, d3, hx⟩ := (HV.out.below hb).kid k hk
        have hst := maxTo_step (fun i => (kid i).height) hk
        have hkl := Ex.kid_lt kid k hk
        have hkp := (kid ⟨k, hk⟩).height_pos
        have HX := Lib.hid hx
        have HST := Lib.hid hst
        obtain ⟨m, hm⟩ : ∃ m, maxTo (fun i => (kid i).height) k = m := ⟨_, rfl⟩
        obtain ⟨q, hq⟩ : ∃ q, (kid ⟨k, hk⟩).height = q := ⟨_, rfl⟩
        obtain ⟨M, hM⟩ : ∃ M, maxTo (fun i => (kid i).height) n = M := ⟨_, rfl⟩
        rw [hm, hM] at m1
        rw [hm] at m0 ⊢
        rw [hq, hM] at hkl
        rw [hq] at hkp
        rw [hM] at hh
        have HM := Lib.hid hm
        have HQ := Lib.hid hq
        clear hb hx hst hm hq hM
        go_wp2_with fail
        refine (IH.out ⟨k, hk⟩ _ _ (HX.out.below ((Below.refl _ _).alloc (Nat.le_refl _) _)) (by rw [HQ.out]; omega)).mono ?_
        rintro e w1 ⟨rfl, hb1⟩
        have HB1 := Lib.hid (keepB (belAlloc HB.out _) hb1)
        rw [HQ.out]
        clear hb1
        have hk1 : k + 1 ≤ n := hk
        go_wp2
        refine ⟨⟨k + 1, hk1, by go_num, ?_, HB1.out⟩, by simp [intOf]; omega⟩
        rw [HST.out, HM.out, HQ.out]
      · have hk0 : k = n := by omega
        subst hk0
        obtain ⟨m, hm⟩ : ∃ m, maxTo (fun i => (kid i).height) k = m := ⟨_, rfl⟩
        rw [hm] at m0 hh ⊢
        have HM := Lib.hid hm
        clear hm m1
        go_wp2
        go_ret
        exact ⟨by rw [HM.out]; rfl, HB.out⟩
end Go.Proofs.YtgmlcnikphbiiaaDoor.L

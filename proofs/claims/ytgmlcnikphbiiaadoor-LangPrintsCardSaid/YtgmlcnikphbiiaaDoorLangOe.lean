/-
  The document's text of an expression: show, Expr.
-/
import Derived.Test.YtgmlcnikphbiiaaDoorLangOd
namespace Go.Proofs.YtgmlcnikphbiiaaDoor.L
open Go.RowKit Go.Proofs.YtgmlcnikphbiiaaDoor.B Go.Proofs.YtgmlcnikphbiiaaDoor.S10 Go.Proofs.YtgmlcnikphbiiaaDoor.Nm
open Go.Proofs.YtgmlcnikphbiiaaDoor.C (QRow Turn)
set_option linter.unusedVariables false
set_option linter.unusedSimpArgs false

set_option maxRecDepth 100000 in
set_option maxHeartbeats 1000000 in
theorem rshow_rel (a b : Bs) (A : Option Addr) (n c : Nat) (w : World) : Calls Tryd.prog 35 #[exAgg 0 a b A n c] w (ShowRet w a) := by
  go_enter Tryd.func35, Tryd.ntmps35
  go_wp2
  go_ret
  exact ⟨rfl, (Below.refl _ w).alloc (Nat.le_refl _) _⟩
set_option maxRecDepth 100000 in
set_option maxHeartbeats 1000000 in
theorem rshow_arr (a b : Bs) (ha : a.length ≤ 16) (hb : b.length ≤ 16) (A : Option Addr) (n c : Nat) (w : World) : Calls Tryd.prog 35 #[exAgg 1 a b A n c] w (ShowRet w (a ++ [46] ++ b)) := by
  go_enter Tryd.func35, Tryd.ntmps35
  go_wp2
  go_ret
  exact ⟨rfl, (Below.refl _ w).alloc (Nat.le_refl _) _⟩
set_option maxRecDepth 100000 in
set_option maxHeartbeats 8000000 in
theorem rshow_op (F : Nat → Prop) (k : Int) (hk : k = 2 ∨ k = 3 ∨ k = 4) (a b : Bs) (A : Option Addr) (c : Nat) (kid : Fin 2 → Ex) (w : World) (s1 s2 : Bs) (hs1 : s1.length ≤ 1000000) (hs2 : s2.length ≤ 1000000)
    (ih1 : ∀ v w, ExV w F (kid ⟨0, by omega⟩) v → Calls Tryd.prog 35 #[v] w (ShowRet w s1)) (ih2 : ∀ v w, ExV w F (kid ⟨1, by omega⟩) v → Calls Tryd.prog 35 #[v] w (ShowRet w s2))
    (hv : ExV w F (.mk k a b 2 kid) (exAgg k a b A 2 c)) :
    Calls Tryd.prog 35 #[exAgg k a b A 2 c] w (ShowRet w ([40] ++ s1 ++ signK k ++ s2 ++ [41])) := by
  have q1 : ¬ 9223372036854775807 < 1 + s1.length := by omega
  have q2 : ¬ 9223372036854775807 < 1 + s1.length + 3 := by omega
  have q3 : ¬ 9223372036854775807 < 1 + s1.length + 3 + s2.length := by omega
  have q4 : ¬ 9223372036854775807 < 1 + s1.length + 3 + s2.length + 1 := by omega
  have I1 := Lib.hid ih1
  have I2 := Lib.hid ih2
  obtain ⟨a1, b1, k1, p1, q1, A1, n1, c1, rfl, hb1, -, d0, d1, d2, d3, hx1⟩ := (hv.alloc (.cells #[.int .i64 k, vs a, vs b, .slice A 2 c] 38)).kid 0 (by omega)
  have hb1' : a1 = b1 := by rw [← hb1, Nat.zero_mul]; exact (add_zero a1).symm
  subst hb1'
  obtain ⟨a2, b2, k2, p2, q2, A2, n2, c2, ha2, hb2, -, e0, e1, e2, e3, hx2⟩ := (hv.alloc (.cells #[.int .i64 k, vs a, vs b, .slice (some a1) 2 c] 38)).kid 1 (by omega)
  simp only [Option.some.injEq] at ha2
  subst ha2
  have hb2' : b2 = ⟨a1.block, a1.off + 4, none⟩ := by rw [← hb2]; exact Addr.add_succ' a1 3
  subst hb2'
  have hk2 : ∀ w1, Below (w.alloc (.cells #[.int .i64 k, vs a, vs b, .slice (some a1) 2 c] 38)).drew.heap.size (w.alloc (.cells #[.int .i64 k, vs a, vs b, .slice (some a1) 2 c] 38)).drew w1 →
      (w1.cell? ⟨w.heap.size, 0, none⟩ = some (.int .i64 k) ∧ w1.cell? ⟨w.heap.size, 3, none⟩ = some (.slice (some a1) 2 c)) ∧ (w1.cell? a1 = some (.int .i64 k1) ∧ w1.cell? ⟨a1.block, a1.off + 1, none⟩ = some (vs p1) ∧ w1.cell? ⟨a1.block, a1.off + 2, none⟩ = some (vs q1) ∧ w1.cell? ⟨a1.block, a1.off + 3, none⟩ = some (.slice A1 n1 c1)) ∧ (w1.cell? ⟨a1.block, a1.off + 4, none⟩ = some (.int .i64 k2) ∧ w1.cell? ⟨a1.block, a1.off + 4 + 1, none⟩ = some (vs p2) ∧ w1.cell? ⟨a1.block, a1.off + 4 + 2, none⟩ = some (vs q2) ∧ w1.cell? ⟨a1.block, a1.off + 4 + 3, none⟩ = some (.slice A2 n2 c2)) ∧
      ExV w1 F (kid ⟨1, by omega⟩) (.agg #[.int .i64 k2, vs p2, vs q2, .slice A2 n2 c2]) ∧ Below w.heap.size w w1 := fun w1 hb' => by
    have hb : Below (w.alloc (.cells #[.int .i64 k, vs a, vs b, .slice (some a1) 2 c] 38)).heap.size (w.alloc (.cells #[.int .i64 k, vs a, vs b, .slice (some a1) 2 c] 38)) w1 := ⟨hb'.os, hb'.tape, hb'.output, hb'.size, hb'.block⟩
    have hg := (hb.block w.heap.size (by simp)).trans (heap_alloc_new w (.cells #[.int .i64 k, vs a, vs b, .slice (some a1) 2 c] 38))
    obtain ⟨t0, -, -, t3, -⟩ := four_of hg
    exact ⟨⟨t0, t3⟩, ⟨keepC hb d0, keepC hb d1, keepC hb d2, keepC hb d3⟩, ⟨keepC hb e0, keepC hb e1, keepC hb e2, keepC hb e3⟩, hx2.below hb, keepB ((Below.refl _ w).alloc (Nat.le_refl _) _) hb⟩
  have HK := Lib.hid hk2
  have H1 : Hid (ExV (w.alloc (.cells #[.int .i64 k, vs a, vs b, .slice (some a1) 2 c] 38)).drew F (kid ⟨0, by omega⟩) (.agg #[.int .i64 k1, vs p1, vs q1, .slice A1 n1 c1])) := Lib.hid hx1.drew
  clear hx1 hx2 hv ih1 ih2 hb1 hb2 hk2
  rcases hk with rfl | rfl | rfl
  all_goals
    go_enter Tryd.func35, Tryd.ntmps35
    go_wp2_with fail
    go_region_held3 (fun W => W.cell? ⟨w.heap.size, 3, none⟩ = some (.slice (some a1) 2 c) ∧ W.cell? a1 = some (.int .i64 k1) ∧ W.cell? ⟨a1.block, a1.off + 1, none⟩ = some (vs p1) ∧ W.cell? ⟨a1.block, a1.off + 2, none⟩ = some (vs q1) ∧ W.cell? ⟨a1.block, a1.off + 3, none⟩ = some (.slice A1 n1 c1) ∧
        W.cell? ⟨a1.block, a1.off + 4, none⟩ = some (.int .i64 k2) ∧ W.cell? ⟨a1.block, a1.off + 4 + 1, none⟩ = some (vs p2) ∧ W.cell? ⟨a1.block, a1.off + 4 + 2, none⟩ = some (vs q2) ∧ W.cell? ⟨a1.block, a1.off + 4 + 3, none⟩ = some (.slice A2 n2 c2)) (go_keep)
      (first
      | ((with_reducible refine (I1.out _ _ H1.out).mono ?_); rintro e w1 ⟨rfl, hb⟩
         obtain ⟨⟨t0, t3⟩, ⟨g0, g1, g2, g3⟩, ⟨u0, u1, u2, u3⟩, hx, hB⟩ := HK.out w1 hb
         have HX := Lib.hid hx
         have HB := Lib.hid hB
         clear hb hx hB)
      | ((with_reducible refine (I2.out _ _ HX.out).mono ?_); rintro e w2 ⟨rfl, hb⟩
         have HB2 := Lib.hid (keepB HB.out hb)
         have z1 := keepC hb t3
         have z2 := keepC hb g0
         have z3 := keepC hb g1
         have z4 := keepC hb g2
         have z5 := keepC hb g3
         have z6 := keepC hb u0
         have z7 := keepC hb u1
         have z8 := keepC hb u2
         have z9 := keepC hb u3
         clear hb))
    all_goals
      go_wp2
      go_ret
      exact ⟨rfl, HB2.out⟩
set_option maxRecDepth 100000 in
set_option maxHeartbeats 1000000 in
theorem rshow_calls (F : Nat → Prop) : ∀ (m : Nat) (e : Ex) (v : Value) (w : World), ExV w F e v → m ≤ 12 → mayE e m = true → Calls Tryd.prog 35 #[v] w (ShowRet w (showE e))
  | 0, .mk k a b n kid, v, w, h, hm, hy => by rw [mayE_0] at hy; cases hy
  | m + 1, .mk k a b n kid, v, w, h, hm, hy => by
    obtain ⟨⟨A, c, rfl⟩, hnl⟩ := h.top
    rw [mayE_s] at hy
    rw [showE_eq]
    by_cases hk0 : k = 0
    · subst hk0
      rw [if_pos rfl]
      exact rshow_rel a b A n c w
    rw [if_neg hk0] at hy ⊢
    by_cases hk1 : k = 1
    · subst hk1
      rw [if_pos rfl] at hy ⊢
      simp at hy
      have e1 := nameB_size hy.1
      have e2 := nameB_size hy.2.1
      rw [sz] at e1 e2
      exact rshow_arr a b e1.2 e2.2 A n c w
    rw [if_neg hk1] at hy ⊢
    by_cases hn2 : n = 2
    · subst hn2
      rw [dif_pos rfl] at hy ⊢
      rw [Bool.and_eq_true, Bool.not_eq_true'] at hy
      have hk := (sign_form hy.1).1
      simp at hy
      have hp : 2 ^ m ≤ 2 ^ 12 := Nat.pow_le_pow_right (by omega) (by omega)
      have l1 := showE_len m (kid ⟨0, by omega⟩) hy.2.1
      have l2 := showE_len m (kid ⟨1, by omega⟩) hy.2.2
      exact rshow_op F k hk a b A c kid w _ _ (by omega) (by omega) (fun v w hv => rshow_calls F m _ v w hv (by omega) hy.2.1) (fun v w hv => rshow_calls F m _ v w hv (by omega) hy.2.2) h
    · rw [dif_neg hn2] at hy
      simp at hy
set_option maxRecDepth 100000 in
set_option maxHeartbeats 1000000 in
theorem rExpr_calls (F : Nat → Prop) (e : Ex) (v : Value) (w : World) (h : ExV w F e v) (hf : e.Fit) : Calls Tryd.prog 19 #[v] w (ShowRet w (exprP e)) := by
  obtain ⟨k, a, b, A, n, c, rfl⟩ := h.form
  have H0 := Lib.hid (h.alloc (.cells #[.int .i64 k, vs a, vs b, .slice A n c] 38))
  have HF := Lib.hid hf
  clear h hf
  go_enter Tryd.func19, Tryd.ntmps19
  go_wp2_with fail
  refine (rmay_calls F e 12 _ _ H0.out HF.out (by decide)).mono ?_
  rintro e' w1 ⟨rfl, hb⟩
  obtain ⟨r, hr⟩ : ∃ r, mayE e 12 = r := ⟨_, rfl⟩
  rw [hr]
  have HR := Lib.hid hr
  have HB := Lib.hid (keepB ((Below.refl _ w).alloc (Nat.le_refl _) (.cells #[.int .i64 k, vs a, vs b, .slice A n c] 38)) hb)
  have HX := Lib.hid (H0.out.below hb)
  obtain ⟨t0, t1, t2, t3, -⟩ := four_of ((hb.block w.heap.size (by simp)).trans (heap_alloc_new w (.cells #[.int .i64 k, vs a, vs b, .slice A n c] 38)))
  clear hr hb
  cases r with
  | false =>
    go_wp2
    go_ret
    exact ⟨by unfold exprP; rw [HR.out]; rfl, HB.out⟩
  | true =>
    go_wp2_with fail
    refine (rshow_calls F 12 e _ _ HX.out (by decide) HR.out).mono ?_
    rintro e' w2 ⟨rfl, hb⟩
    have HB2 := Lib.hid (keepB HB.out hb)
    clear hb
    go_wp2
    go_ret
    exact ⟨by unfold exprP; rw [HR.out]; rfl, HB2.out⟩
end Go.Proofs.YtgmlcnikphbiiaaDoor.L

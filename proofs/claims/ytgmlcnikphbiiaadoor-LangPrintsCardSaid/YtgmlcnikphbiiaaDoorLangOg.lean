/-
  LangPrints: the walk.
-/
import Derived.Test.YtgmlcnikphbiiaaDoorLangOc
import Derived.Test.YtgmlcnikphbiiaaDoorLangOf
namespace Go.Proofs.YtgmlcnikphbiiaaDoor.L
open Go.RowKit Go.Proofs.YtgmlcnikphbiiaaDoor.B Go.Proofs.YtgmlcnikphbiiaaDoor.S10 Go.Proofs.YtgmlcnikphbiiaaDoor.Nm
open Go.Proofs.YtgmlcnikphbiiaaDoor.C (QRow Turn)
set_option linter.unusedVariables false
set_option linter.unusedSimpArgs false

set_option maxRecDepth 100000 in
set_option maxHeartbeats 1000000 in
theorem Print_any (F : Nat → Prop) (ts : List Ty) (A : Option Addr) (n c : Nat) (w : World) (h : SlV w F 2 (TyR w F) ts A n) (hf : FitS ts) (hp : mayS ts = true → Told ts) :
    Calls Tryd.prog 14 #[.agg #[.slice A n c]] w (ShowRet w (printP ts)) := by
  cases hm : mayS ts with
  | true => exact Print_calls F ts A n c w h hf (hp hm).refs (hp hm).len
  | false =>
    have HMAY := Lib.hid (May_calls F ts A n c _ (types_below h ((Below.refl w.heap.size w).alloc (Nat.le_refl _) (.cells #[.slice A n c] 25))) hf)
    have HB0 := Lib.hid ((Below.refl w.heap.size w).alloc (Nat.le_refl _) (.cells #[.slice A n c] 25))
    have HPP := Lib.hid (show printP ts = [] by unfold printP; rw [hm]; rfl)
    rw [hm] at HMAY
    clear h hf hp hm
    go_enter Tryd.func14, Tryd.ntmps14
    go_wp2_with fail
    refine HMAY.out.mono ?_
    rintro e w1 ⟨rfl, hb⟩
    have HB1 := Lib.hid (keepB HB0.out hb)
    clear hb
    go_wp2
    go_ret
    exact ⟨by rw [HPP.out]; rfl, HB1.out⟩
set_option maxRecDepth 100000 in
set_option maxHeartbeats 1000000 in
theorem docHeight_calls (F : Nat → Prop) : ∀ (e : Ex) (v : Value) (w : World), ExV w F e v → e.height ≤ 1000000 →
    Calls Tryd.prog 21 #[v] w fun e' w' => e' = .returned (.int .i64 e.height) ∧ Below w.heap.size w w'
  | .mk kind nm ov n kid, v, w, h, hh => by
    have HV := Lib.hid h
    obtain ⟨⟨A, c, rfl⟩, hnl⟩ := h.top
    have ih := fun i => docHeight_calls F (kid i)
    have IH := Lib.hid ih
    rw [Ex.height_mk] at hh ⊢
    have HH := Lib.hid hh
    clear ih hh h
    go_enter Tryd.func21, Tryd.ntmps21
    go_wp2_with fail
    go_loopw [3, 4, 5] (fun v3 v4 v5 wr => ∃ k : Nat, k ≤ n ∧ v4 = .int .i64 k ∧ v3 = .int .i64 (maxTo (fun i => (kid i).height) k) ∧ Below (w.alloc (.cells #[.int .i64 kind, vs nm, vs ov, .slice A n c] 38)).heap.size (w.alloc (.cells #[.int .i64 kind, vs nm, vs ov, .slice A n c] 38)) wr) (fun _ v4 _ _ => n - (intOf v4).toNat)
    case atStart => exact ⟨0, Nat.zero_le _, rfl, rfl, Below.refl _ _⟩
    case round =>
      obtain ⟨k, hkn, rfl, rfl, hb'⟩ := hrel
      have hb : Below w.heap.size w wr := keepB ((Below.refl _ w).alloc (Nat.le_refl _) _) hb'
      have HB := Lib.hid hb
      have HB' := Lib.hid hb'
      obtain ⟨t0, t1, t2, t3, -⟩ := four_of ((hb'.block w.heap.size (by simp)).trans (heap_alloc_new w (.cells #[.int .i64 kind, vs nm, vs ov, .slice A n c] 38)))
      have m0 := maxTo_nonneg (fun i => (kid i).height) k
      have m1 := maxTo_mono (fun i => (kid i).height) n k hkn
      have hh := HH.out
      by_cases hk : k < n
      · obtain ⟨a, b, k0, a0, b0, A0, n0, c0, rfl, hab, d0, d1, d2, d3, hx⟩ := kid_cells (HV.out.below hb) k hk
        have hst := maxTo_step (fun i => (kid i).height) hk
        have hkl := Ex.kid_lt kid k hk
        have hkp := (kid ⟨k, hk⟩).height_pos
        have HX := Lib.hid hx
        have HST := Lib.hid hst
        obtain ⟨m, hm⟩ : ∃ m, maxTo (fun i => (kid i).height) k = m := ⟨_, rfl⟩
        obtain ⟨q, hq⟩ : ∃ q, (kid ⟨k, hk⟩).height = q := ⟨_, rfl⟩
        obtain ⟨M, hM⟩ : ∃ M, maxTo (fun i => (kid i).height) n = M := ⟨_, rfl⟩
        rw [hm, hM] at m1
        rw [hm] at m0 ⊢
        rw [hq, hM] at hkl
        rw [hq] at hkp
        rw [hM] at hh
        have HM := Lib.hid hm
        have HQ := Lib.hid hq
        clear hb hb' hx hst hm hq hM
        go_wp2_with fail
        refine (IH.out ⟨k, hk⟩ _ _ HX.out (by rw [HQ.out]; omega)).mono ?_
        rintro e w1 ⟨rfl, hb1⟩
        have HB1 := Lib.hid (below_then HB'.out HB'.out.size hb1)
        rw [HQ.out]
        clear hb1
        have hk1 : k + 1 ≤ n := hk
        by_cases hmq : m < q
        all_goals
          go_wp2
          refine ⟨⟨k + 1, hk1, by go_num, ?_, HB1.out⟩, by simp [intOf]; omega⟩
          rw [HST.out, HM.out, HQ.out]
          congr 1
          omega
      · have hk0 : k = n := by omega
        subst hk0
        obtain ⟨m, hm⟩ : ∃ m, maxTo (fun i => (kid i).height) k = m := ⟨_, rfl⟩
        rw [hm] at m0 hh ⊢
        have HM := Lib.hid hm
        clear hm m1
        go_wp2
        go_ret
        exact ⟨by rw [HM.out]; rfl, HB.out⟩
theorem below_on {B : Nat} {w w1 w2 : World} (h : Below B w w1) (hB : B ≤ w1.heap.size) (k : Below w1.heap.size w1 w2) : Below B w w2 := below_then h hB k
set_option maxRecDepth 100000 in
set_option maxHeartbeats 16000000 in
theorem LangPrints_calls (ts : List Ty) (A : Option Addr) (n c : Nat) (ex : Ex) (v : Value) (w : World) (h : SlV w Ev 2 (TyR w Ev) ts A n) (hf : FitS ts) (hx : ExV w Ev ex v) (hxf : ex.Fit) :
    Calls Tryd.prog 5 #[.agg #[.slice A n c], v] w (BRet w true) := by
  obtain ⟨k, a, b, D, m, d, rfl⟩ := hx.form
  have hB0 : Below w.heap.size w ((w.alloc (.cells #[.slice A n c] 25)).alloc (.cells #[.int .i64 k, vs a, vs b, .slice D m d] 38)) := ((Below.refl w.heap.size w).alloc (Nat.le_refl _) _).alloc (by simp) _
  have g0 := heap_alloc_new w (.cells #[.slice A n c] 25)
  have g1 := heap_alloc_new (w.alloc (.cells #[.slice A n c] 25)) (.cells #[.int .i64 k, vs a, vs b, .slice D m d] 38)
  rw [show (w.alloc (.cells #[.slice A n c] 25)).heap.size = w.heap.size + 1 by simp] at g1
  have g0' := (alloc_old (.cells #[.int .i64 k, vs a, vs b, .slice D m d] 38) (lt_of_heap g0)).trans g0
  have HG0 := Lib.hid g0'
  have HG1 := Lib.hid g1
  have HB := Lib.hid hB0
  have HS := Lib.hid h
  have HX := Lib.hid hx
  have HF := Lib.hid hf
  have HXF := Lib.hid hxf
  have hal : a.length ≤ 9223372036854775807 := by
    cases ex with
    | mk k' a' b' n' kid =>
      obtain ⟨⟨A2, c2, e⟩, -⟩ := hx.top
      obtain ⟨-, e2, e3, -⟩ := agg4 e
      have e2 : a = a' := by simpa using e2
      rw [e2]; exact hxf.1
  have hbl : b.length ≤ 9223372036854775807 := by
    cases ex with
    | mk k' a' b' n' kid =>
      obtain ⟨⟨A2, c2, e⟩, -⟩ := hx.top
      obtain ⟨-, e2, e3, -⟩ := agg4 e
      have e3 : b = b' := by simpa using e3
      rw [e3]; exact hxf.2.1
  clear h hf hx hxf hB0 g0 g1 g0'
  go_enter Tryd.func5, Tryd.ntmps5
  go_wp2_with fail
  refine (awake_calls _).mono ?_
  rintro e w0 ⟨rfl, hb0⟩
  have HB0 := Lib.hid (keepB HB.out hb0)
  have hg0 := (hb0.block _ (lt_of_heap HG0.out)).trans HG0.out
  have hg1 := (hb0.block _ (lt_of_heap HG1.out)).trans HG1.out
  have HG0 := Lib.hid hg0
  have HG1 := Lib.hid hg1
  have s0 := cells_of hg0 0 (.slice A n c) rfl
  clear hb0 hg0 hg1
  go_wp2_with fail
  refine (Few_calls Ev ts A n c _ (types_below HS.out HB0.out)).mono ?_
  rintro e w1 ⟨rfl, hb1⟩
  have HB1 := Lib.hid (keepB HB0.out hb1)
  have hg0 := (hb1.block _ (lt_of_heap HG0.out)).trans HG0.out
  have hg1 := (hb1.block _ (lt_of_heap HG1.out)).trans HG1.out
  have HG0 := Lib.hid hg0
  have HG1 := Lib.hid hg1
  have s0 := cells_of hg0 0 (.slice A n c) rfl
  obtain ⟨t0, t1, t2, t3, -⟩ := four_of hg1
  clear hb1 hg0 hg1
  obtain ⟨fw, hfw⟩ : ∃ fw, fewP ts 300 = fw := ⟨_, rfl⟩
  rw [hfw]
  have HFW := Lib.hid hfw
  clear hfw
  cases fw
  · go_wp2
    go_ret
    exact ⟨rfl, HB1.out⟩
  go_wp2_with fail
  refine (weight_calls Ev ex _ _ 300 (HX.out.below HB1.out) (by omega) (by omega)).mono ?_
  rintro e w2 ⟨rfl, hb2⟩
  have HB2 := Lib.hid (keepB HB1.out hb2)
  have hg0 := (hb2.block _ (lt_of_heap HG0.out)).trans HG0.out
  have hg1 := (hb2.block _ (lt_of_heap HG1.out)).trans HG1.out
  have HG0 := Lib.hid hg0
  have HG1 := Lib.hid hg1
  have s0 := cells_of hg0 0 (.slice A n c) rfl
  obtain ⟨t0, t1, t2, t3, -⟩ := four_of hg1
  clear hb2 hg0 hg1
  have hwb := weightE_bound ex 300 (by omega)
  have hwh := weightE_height ex 300
  generalize weightE ex 300 = q at *
  have hza := sz a
  have hzb := sz b
  by_cases hq0 : q = 0
  · subst hq0
    go_wp2
    go_ret
    exact ⟨rfl, HB2.out⟩
  have hq1 : (q == 0) = false := by simpa using hq0
  have hwh := hwh (by omega)
  by_cases ha : 100 < a.length
  · clear hq0 hwh
    go_wp2
    go_ret
    exact ⟨rfl, HB2.out⟩
  by_cases hb : 100 < b.length
  · clear hq0 hwh
    go_wp2
    go_ret
    exact ⟨rfl, HB2.out⟩
  have HTO := Lib.hid (fun h => few_told HFW.out h HF.out)
  have HC1 := Lib.hid (fun W (h : Below w.heap.size w W) => Print_any Ev ts A n c W (types_below HS.out h) HF.out HTO.out)
  have HC2 := Lib.hid (fun W (h : Below w.heap.size w W) => rPrint_calls Ev ts A n c W (types_below HS.out h) HF.out HTO.out)
  have HC3 := Lib.hid (fun W (h : Below w.heap.size w W) => May_calls Ev ts A n c W (types_below HS.out h) HF.out)
  have HC4 := Lib.hid (fun W (h : Below w.heap.size w W) => rMay_calls Ev ts A n c W (types_below HS.out h) HF.out)
  have HC5 := Lib.hid (fun W (h : Below w.heap.size w W) => Expr_calls Ev ex (exAgg k a b D m d) W (HX.out.below h) HXF.out)
  have HC6 := Lib.hid (fun W (h : Below w.heap.size w W) => rExpr_calls Ev ex (exAgg k a b D m d) W (HX.out.below h) HXF.out)
  have HC7 := Lib.hid (fun W (h : Below w.heap.size w W) => Height_calls Ev ex (exAgg k a b D m d) W (HX.out.below h) (by omega))
  have HC8 := Lib.hid (fun W (h : Below w.heap.size w W) => docHeight_calls Ev ex (exAgg k a b D m d) W (HX.out.below h) (by omega))
  generalize printP ts = pt at *
  generalize mayS ts = mt at *
  generalize exprP ex = xt at *
  generalize ex.height = ht at *
  have HW0 : Hid (Below w.heap.size w w2.drew) := Lib.hid ⟨HB2.out.os, HB2.out.tape, HB2.out.output, HB2.out.size, HB2.out.block⟩
  clear hq0 hwh hwb
  go_wp2_with fail
  go_region_held3 (fun W => W.cell? ⟨w.heap.size, 0, none⟩ = some (.slice A n c) ∧ W.cell? ⟨w.heap.size + 1, 0, none⟩ = some (.int .i64 k) ∧ W.cell? ⟨w.heap.size + 1, 1, none⟩ = some (vs a) ∧ W.cell? ⟨w.heap.size + 1, 2, none⟩ = some (vs b) ∧ W.cell? ⟨w.heap.size + 1, 3, none⟩ = some (.slice D m d)) (go_keep)
    (first
    | ((with_reducible refine (HC1.out _ HW0.out).mono ?_); rintro e y1 ⟨rfl, hb⟩
       have HW1 := Lib.hid (keepB HW0.out hb)
       have z10 := keepC hb s0
       have z11 := keepC hb t0
       have z12 := keepC hb t1
       have z13 := keepC hb t2
       have z14 := keepC hb t3
       clear hb)
    | ((with_reducible refine (HC2.out _ HW1.out).mono ?_); rintro e y2 ⟨rfl, hb⟩
       have HW2 := Lib.hid (keepB HW1.out hb)
       have z20 := keepC hb z10
       have z21 := keepC hb z11
       have z22 := keepC hb z12
       have z23 := keepC hb z13
       have z24 := keepC hb z14
       clear hb)
    | ((with_reducible refine (HC3.out _ HW2.out).mono ?_); rintro e y3 ⟨rfl, hb⟩
       have HW3 := Lib.hid (keepB HW2.out hb)
       have z30 := keepC hb z20
       have z31 := keepC hb z21
       have z32 := keepC hb z22
       have z33 := keepC hb z23
       have z34 := keepC hb z24
       clear hb)
    | ((with_reducible refine (HC4.out _ HW3.out).mono ?_); rintro e y4 ⟨rfl, hb⟩
       have HW4 := Lib.hid (keepB HW3.out hb)
       have z40 := keepC hb z30
       have z41 := keepC hb z31
       have z42 := keepC hb z32
       have z43 := keepC hb z33
       have z44 := keepC hb z34
       clear hb)
    | ((with_reducible refine (HC5.out _ HW4.out).mono ?_); rintro e y5 ⟨rfl, hb⟩
       have HW5 := Lib.hid (keepB HW4.out hb)
       have z50 := keepC hb z40
       have z51 := keepC hb z41
       have z52 := keepC hb z42
       have z53 := keepC hb z43
       have z54 := keepC hb z44
       clear hb)
    | ((with_reducible refine (HC6.out _ HW5.out).mono ?_); rintro e y6 ⟨rfl, hb⟩
       have HW6 := Lib.hid (keepB HW5.out hb)
       have z60 := keepC hb z50
       have z61 := keepC hb z51
       have z62 := keepC hb z52
       have z63 := keepC hb z53
       have z64 := keepC hb z54
       clear hb)
    | ((with_reducible refine (HC7.out _ HW6.out).mono ?_); rintro e y7 ⟨rfl, hb⟩
       have HW7 := Lib.hid (keepB HW6.out hb)
       have z70 := keepC hb z60
       have z71 := keepC hb z61
       have z72 := keepC hb z62
       have z73 := keepC hb z63
       have z74 := keepC hb z64
       clear hb)
    | ((with_reducible refine (HC8.out _ HW7.out).mono ?_); rintro e y8 ⟨rfl, hb⟩
       have HW8 := Lib.hid (keepB HW7.out hb)
       have z80 := keepC hb z70
       have z81 := keepC hb z71
       have z82 := keepC hb z72
       have z83 := keepC hb z73
       have z84 := keepC hb z74
       clear hb))
  all_goals
    go_wp2
    go_ret
    exact ⟨rfl, HW8.out⟩
end Go.Proofs.YtgmlcnikphbiiaaDoor.L

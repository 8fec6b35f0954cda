/-
  The document's reader: Height, two.
-/
import Derived.Test.YtgmlcnikphbiiaaDoorLangX
namespace Go.Proofs.YtgmlcnikphbiiaaDoor.L
open Go.RowKit Go.Proofs.YtgmlcnikphbiiaaDoor.B Go.Proofs.YtgmlcnikphbiiaaDoor.S10 Go.Proofs.YtgmlcnikphbiiaaDoor.Nm
open Go.Proofs.YtgmlcnikphbiiaaDoor.C (QRow Turn wpList_append_q)
set_option linter.unusedVariables false
set_option linter.unusedSimpArgs false

set_option maxRecDepth 100000 in
set_option maxHeartbeats 1000000 in
theorem rHeight_calls (F : Nat → Prop) : ∀ (e : Ex) (v : Value) (w : World), ExV w F e v → e.height ≤ 1000000 →
    Calls Tryd.prog 21 #[v] w fun e' w' => e' = .returned (.int .i64 e.height) ∧ Below w.heap.size w w'
  | .mk kind nm ov n kid, v, w, h, hh => by
    have HV := Lib.hid h
    obtain ⟨⟨A, c, rfl⟩, hnl⟩ := h.top
    have ih := fun i => rHeight_calls F (kid i)
    have IH := Lib.hid ih
    rw [Ex.height_mk] at hh ⊢
    have HH := Lib.hid hh
    clear ih hh h
    go_enter Tryd.func21, Tryd.ntmps21
    go_wp2_with fail
    go_loopw [3, 4, 5] (fun v3 v4 v5 wr => ∃ k : Nat, k ≤ n ∧ v4 = .int .i64 k ∧ v3 = .int .i64 (maxTo (fun i => (kid i).height) k) ∧ Below (w.alloc (.cells #[.int .i64 kind, vs nm, vs ov, .slice A n c] 38)).heap.size (w.alloc (.cells #[.int .i64 kind, vs nm, vs ov, .slice A n c] 38)) wr) (fun _ v4 _ _ => n - (intOf v4).toNat)
    case atStart => exact ⟨0, Nat.zero_le _, rfl, rfl, Below.refl _ _⟩
    case round =>
      obtain ⟨k, hkn, rfl, rfl, hb'⟩ := hrel
      have hb : Below w.heap.size w wr := keepB ((Below.refl _ w).alloc (Nat.le_refl _) _) hb'
      have HB := Lib.hid hb
      have HB' := Lib.hid hb'
      obtain ⟨t0, t1, t2, t3, -⟩ := four_of ((hb'.block w.heap.size (by simp)).trans (heap_alloc_new w (.cells #[.int .i64 kind, vs nm, vs ov, .slice A n c] 38)))
      have m0 := maxTo_nonneg (fun i => (kid i).height) k
      have m1 := maxTo_mono (fun i => (kid i).height) n k hkn
      have hh := HH.out
      by_cases hk : k < n
      · obtain ⟨a, b, k0, a0, b0, A0, n0, c0, rfl, hab, d0, d1, d2, d3, hx⟩ := kid_cells (HV.out.below hb) k hk
        have hst := maxTo_step (fun i => (kid i).height) hk
        have hkl := Ex.kid_lt kid k hk
        have hkp := (kid ⟨k, hk⟩).height_pos
        have HX := Lib.hid hx
        have HST := Lib.hid hst
        obtain ⟨m, hm⟩ : ∃ m, maxTo (fun i => (kid i).height) k = m := ⟨_, rfl⟩
        obtain ⟨q, hq⟩ : ∃ q, (kid ⟨k, hk⟩).height = q := ⟨_, rfl⟩
        obtain ⟨M, hM⟩ : ∃ M, maxTo (fun i => (kid i).height) n = M := ⟨_, rfl⟩
        rw [hm, hM] at m1
        rw [hm] at m0 ⊢
        rw [hq, hM] at hkl
        rw [hq] at hkp
        rw [hM] at hh
        have HM := Lib.hid hm
        have HQ := Lib.hid hq
        clear hb hb' hx hst hm hq hM
        go_wp2_with fail
        refine (IH.out ⟨k, hk⟩ _ _ HX.out (by rw [HQ.out]; omega)).mono ?_
        rintro e w1 ⟨rfl, hb1⟩
        have HB1 := Lib.hid (below_then HB'.out HB'.out.size hb1)
        rw [HQ.out]
        clear hb1
        have hk1 : k + 1 ≤ n := hk
        by_cases hmq : m < q
        all_goals
          go_wp2
          refine ⟨⟨k + 1, hk1, by go_num, ?_, HB1.out⟩, by simp [intOf]; omega⟩
          rw [HST.out, HM.out, HQ.out]
          congr 1
          omega
      · have hk0 : k = n := by omega
        subst hk0
        obtain ⟨m, hm⟩ : ∃ m, maxTo (fun i => (kid i).height) k = m := ⟨_, rfl⟩
        rw [hm] at m0 hh ⊢
        have HM := Lib.hid hm
        clear hm m1
        go_wp2
        go_ret
        exact ⟨by rw [HM.out]; rfl, HB.out⟩
theorem RD.turn {S : Nat → Prop} {w w' : World} {rb : Nat} {TL : List Tk} {at_ : Nat} {op : Int} {d : Dg} (h : RD w rb TL at_ op d) (hT : Turn S w w') (hS : ∀ b, b ≤ rb → ¬ S b) : RD w' rb TL at_ op d := by
  have hl := h.lt
  obtain ⟨A, c, h1, h2, h3⟩ := h
  exact ⟨A, c, (hT.block _ hl (hS rb (Nat.le_refl _))).trans h1, h2.keep (by decide) (fun _ h _ => h) (turn_cell hT (fun b hb _ => hS b (Nat.le_of_lt hb))) (fun _ _ h => h), h3⟩
theorem RO.turn {S : Nat → Prop} {w w' : World} {rb : Nat} {op : Int} {L : List Tk} (h : RO w rb op L) (hT : Turn S w w') (hS : ∀ b, b ≤ rb → ¬ S b) : RO w' rb op L := by
  obtain ⟨TL, at_, h1, h2⟩ := h
  exact ⟨TL, at_, h1.turn hT hS, h2⟩
theorem RE.turn {S : Nat → Prop} {w w' : World} {rb : Nat} {op : Int} {d : Dg} (h : RE w rb op d) (hT : Turn S w w') (hS : ∀ b, b ≤ rb → ¬ S b) : RE w' rb op d := by
  obtain ⟨h0, TL, at_, op', h1, h2⟩ := h
  exact ⟨h0, TL, at_, op', h1.turn hT hS, h2⟩
theorem turn_set4 (w : World) (b : Nat) (y0 y1 y2 y3 : Value) : Turn (fun k => k = b) w ((((w.setCell ⟨b, 0, none⟩ y0).setCell ⟨b, 1, none⟩ y1).setCell ⟨b, 2, none⟩ y2).setCell ⟨b, 3, none⟩ y3) :=
  turn_then (turn_then (turn_then (Turn.setCell _ _ _ rfl) (Turn.setCell _ _ _ rfl)) (Turn.setCell _ _ _ rfl)) (Turn.setCell _ _ _ rfl)
theorem six_alloc (w : World) (c1 c2 c3 c4 c5 c6 : Array Value) (t1 t2 t3 t4 t5 t6 : TypeId) {W : World} (hW : W = (((((w.alloc (.cells c1 t1)).alloc (.cells c2 t2)).alloc (.cells c3 t3)).alloc (.cells c4 t4)).alloc (.cells c5 t5)).alloc (.cells c6 t6)) :
    Below w.heap.size w W ∧ W.heap.size = w.heap.size + 6 ∧ W.heap[w.heap.size]? = some (.cells c1 t1 (0, 0)) ∧ W.heap[w.heap.size + 3]? = some (.cells c4 t4 (0, 0)) ∧ W.heap[w.heap.size + 4]? = some (.cells c5 t5 (0, 0)) ∧ W.heap[w.heap.size + 5]? = some (.cells c6 t6 (0, 0)) := by
  have s1 : (w.alloc (.cells c1 t1)).heap.size = w.heap.size + 1 := by simp
  have h1 := heap_alloc_new w (.cells c1 t1)
  have b1 : Below w.heap.size w (w.alloc (.cells c1 t1)) := (Below.refl _ w).alloc (Nat.le_refl _) _
  generalize w.alloc (.cells c1 t1) = v1 at *
  have s2 : (v1.alloc (.cells c2 t2)).heap.size = w.heap.size + 2 := by simp [s1]
  have h1 := (alloc_old (.cells c2 t2) (by omega : w.heap.size < v1.heap.size)).trans h1
  have b2 := b1.alloc (by omega) (.cells c2 t2)
  generalize v1.alloc (.cells c2 t2) = v2 at *
  have s3 : (v2.alloc (.cells c3 t3)).heap.size = w.heap.size + 3 := by simp [s2]
  have h1 := (alloc_old (.cells c3 t3) (by omega : w.heap.size < v2.heap.size)).trans h1
  have b3 := b2.alloc (by omega) (.cells c3 t3)
  generalize v2.alloc (.cells c3 t3) = v3 at *
  have s4 : (v3.alloc (.cells c4 t4)).heap.size = w.heap.size + 4 := by simp [s3]
  have h1 := (alloc_old (.cells c4 t4) (by omega : w.heap.size < v3.heap.size)).trans h1
  have h4 := heap_alloc_new v3 (.cells c4 t4)
  rw [s3] at h4
  have b4 := b3.alloc (by omega) (.cells c4 t4)
  generalize v3.alloc (.cells c4 t4) = v4 at *
  have s5 : (v4.alloc (.cells c5 t5)).heap.size = w.heap.size + 5 := by simp [s4]
  have h1 := (alloc_old (.cells c5 t5) (by omega : w.heap.size < v4.heap.size)).trans h1
  have h4 := (alloc_old (.cells c5 t5) (by omega : w.heap.size + 3 < v4.heap.size)).trans h4
  have h5 := heap_alloc_new v4 (.cells c5 t5)
  rw [s4] at h5
  have b5 := b4.alloc (by omega) (.cells c5 t5)
  generalize v4.alloc (.cells c5 t5) = v5 at *
  have s6 : (v5.alloc (.cells c6 t6)).heap.size = w.heap.size + 6 := by simp [s5]
  have h1 := (alloc_old (.cells c6 t6) (by omega : w.heap.size < v5.heap.size)).trans h1
  have h4 := (alloc_old (.cells c6 t6) (by omega : w.heap.size + 3 < v5.heap.size)).trans h4
  have h5 := (alloc_old (.cells c6 t6) (by omega : w.heap.size + 4 < v5.heap.size)).trans h5
  have h6 := heap_alloc_new v5 (.cells c6 t6)
  rw [s5] at h6
  have b6 := b5.alloc (by omega) (.cells c6 t6)
  rw [hW]
  exact ⟨b6, s6, h1, h4, h5, h6⟩
abbrev VTwo (F : Nat → Prop) (w : World) (w' : World) (a : Ex) (e : Ending) : Prop := ∃ v, e = .returned v ∧ ExV w' (fun b => F b ∨ w.heap.size ≤ b) a v
theorem two_height_le {k : Int} {x y : Ex} (h1 : x.height ≤ 12) (h2 : y.height ≤ 12) : (two k x y).height ≤ 13 ∧ 1 ≤ (two k x y).height := by
  have := x.height_pos
  rw [two_height]; omega
set_option maxRecDepth 100000 in
set_option maxHeartbeats 2000000 in
theorem two_calls {w : World} {rb : Nat} {op : Int} {L : List Tk} (h : RO w rb op L) (F : Nat → Prop) (hF : ∀ b, F b → b ≠ rb) (k : Int) (t : Tk) (x y : Ex) (kx : Int) (ax bx : Bs) (Ax : Option Addr) (nx cx : Nat) (ky : Int) (ay by_ : Bs) (Ay : Option Addr) (ny cy : Nat)
    (hx : ExV w F x (exAgg kx ax bx Ax nx cx)) (hy : ExV w F y (exAgg ky ay by_ Ay ny cy)) (hlx : x.height ≤ 12) (hly : y.height ≤ 12) :
    Calls Tryd.prog 75 #[.pointer (some ⟨rb, 0, none⟩), .int .i64 k, tkAgg t, exAgg kx ax bx Ax nx cx, exAgg ky ay by_ Ay ny cy] w
      (EndsR rb op w (VTwo F w) (if (two k x y).height > 12 then t.fail 9 else .ok (two k x y, L))) := by
  have hrl := h.lt
  obtain ⟨TL, at_, hd, hdr, hfin⟩ := id h
  obtain ⟨A, c, hg, -⟩ := id hd
  obtain ⟨g0, g1, g2, g3, g4, g5, -⟩ := six_of hg
  obtain ⟨hB6, hs6, r0, r3, r4, r5⟩ := six_alloc w _ _ _ _ _ _ _ _ _ _ _ _ (W := ((((((w.alloc (.cells #[vs t.s, .int .i64 t.line, .int .i64 t.col] 67)).alloc (.cells #[.int .i64 kx, vs ax, vs bx, .slice Ax nx cx] 38)).alloc (.cells #[.int .i64 ky, vs ay, vs by_, .slice Ay ny cy] 38)).alloc (.cells #[.int .i64 0, .string ⟨#[]⟩, .string ⟨#[]⟩, .slice none 0 0] 38)).alloc
      (.cells #[.int .i64 kx, vs ax, vs bx, .slice Ax nx cx, .int .i64 ky, vs ay, vs by_, .slice Ay ny cy] 38)).alloc (.cells #[.int .i64 k, .string ⟨#[]⟩, .string ⟨#[]⟩, .slice (some ⟨w.heap.size + 1 + 1 + 1 + 1, 0, none⟩) 2 2] 38))) rfl
  have hx6 := (hx.mono (F' := fun b => F b ∧ b < w.heap.size) (fun b hb hl => ⟨hb, hl⟩)).below hB6
  have hy6 := (hy.mono (F' := fun b => F b ∧ b < w.heap.size) (fun b hb hl => ⟨hb, hl⟩)).below hB6
  have hT : ExV ((((((w.alloc (.cells #[vs t.s, .int .i64 t.line, .int .i64 t.col] 67)).alloc (.cells #[.int .i64 kx, vs ax, vs bx, .slice Ax nx cx] 38)).alloc (.cells #[.int .i64 ky, vs ay, vs by_, .slice Ay ny cy] 38)).alloc (.cells #[.int .i64 0, .string ⟨#[]⟩, .string ⟨#[]⟩, .slice none 0 0] 38)).alloc
      (.cells #[.int .i64 kx, vs ax, vs bx, .slice Ax nx cx, .int .i64 ky, vs ay, vs by_, .slice Ay ny cy] 38)).alloc (.cells #[.int .i64 k, .string ⟨#[]⟩, .string ⟨#[]⟩, .slice (some ⟨w.heap.size + 1 + 1 + 1 + 1, 0, none⟩) 2 2] 38)) (fun b => (F b ∧ b < w.heap.size) ∨ b = w.heap.size + 4) (two k x y) (.agg #[.int .i64 k, .string ⟨#[]⟩, .string ⟨#[]⟩, .slice (some ⟨w.heap.size + 1 + 1 + 1 + 1, 0, none⟩) 2 2]) :=
    two_V (hx6.mono (fun b hb _ => .inl hb)) (hy6.mono (fun b hb _ => .inl hb)) (.inr rfl) r4
  obtain ⟨A6, c6, hg6, -⟩ := hd.below hB6
  obtain ⟨-, -, -, -, -, g56, -⟩ := six_of hg6
  obtain ⟨q, hq⟩ : ∃ q, (two k x y).height = q := ⟨_, rfl⟩
  obtain ⟨hq13, hq1⟩ := two_height_le (k := k) hlx hly
  rw [hq] at hq13 hq1 ⊢
  have HQ := Lib.hid hq
  have HT := Lib.hid hT
  have HB6 := Lib.hid hB6
  have H3 := Lib.hid r3
  have H5 := Lib.hid r5
  have H0 := Lib.hid r0
  have HS6 := Lib.hid hs6
  have HRO := Lib.hid h
  have HD := Lib.hid hd
  have HRF := Lib.hid (And.intro hdr hfin)
  have HF := Lib.hid hF
  clear h hd hg hg6 hx hy hx6 hy6 hT hB6 hs6 r0 r3 r4 r5 hlx hly hq hF hdr hfin
  by_cases h12 : q > 12
  all_goals
    first | rw [if_pos h12] | rw [if_neg h12]
    go_enter Tryd.func75, Tryd.ntmps75
    go_wp2_with fail
    refine (rHeight_calls _ (two k x y) _ _ HT.out (by rw [HQ.out]; omega)).mono ?_
    rintro e w7 ⟨rfl, hb7⟩
    rw [HQ.out]
    have hb07 := keepB HB6.out hb7
    have hx7 := HT.out.below hb7
    have HB07 := Lib.hid hb07
    have HX7 := Lib.hid hx7
    have k3 := (hb7.block (w.heap.size + 3) (by rw [HS6.out]; omega)).trans H3.out
    have HK3 := Lib.hid k3
    obtain ⟨z0, z1, z2, z3, y0, y1, y2, y3⟩ := four_of k3
    have k5 := (hb7.block (w.heap.size + 5) (by rw [HS6.out]; omega)).trans H5.out
    have HK5 := Lib.hid k5
    obtain ⟨x0, x1, x2, x3, -⟩ := four_of k5
    obtain ⟨u0, u1, u2⟩ := three_of ((hb7.block w.heap.size (by rw [HS6.out]; omega)).trans H0.out)
    clear hb07 hx7 hb7 k3 k5
  · go_wp2_with fail
    refine (fail_calls (HD.out.below HB07.out) t 9 (by decide)).mono ?_
    rintro e w8 ⟨rfl, hE, hA⟩
    have HE := Lib.hid hE
    have HA := Lib.hid hA
    have k8 := hA.kept HK3.out (by omega)
    have HK8 := Lib.hid k8
    have hx8 := HX7.out.at hA (F' := fun b => (F b ∧ b < w.heap.size) ∨ b = w.heap.size + 4) (fun b hb _ => ⟨fun e => by
      rcases hb with hb | hb
      · exact HF.out b hb.1 e
      · omega, hb⟩)
    have HX8 := Lib.hid hx8
    clear x0 x1 x2 x3 z0 z1 z2 z3 y0 y1 y2 y3
    obtain ⟨z0, z1, z2, z3, y0, y1, y2, y3⟩ := four_of k8
    obtain ⟨x0, x1, x2, x3, -⟩ := four_of (hA.kept HK5.out (by omega))
    clear hE hA k8 hx8 u0 u1 u2
    go_wp2
    refine bodyPost_ret (results_cell_row rfl _ _ (w.heap.size + 3) 38 #[.int .i64 k, .string ⟨#[]⟩, .string ⟨#[]⟩, .slice (some ⟨w.heap.size + 1 + 1 + 1 + 1, 0, none⟩) 2 2] (0, 0) _ rfl (set4 HK8.out _ _ _ _) Tryd.underlying38 rfl (by kernel_rfl)) rfl ?_
    have hne : ∀ b, ((F b ∧ b < w.heap.size) ∨ b = w.heap.size + 4) → b ≠ w.heap.size + 3 := fun b hb => by omega
    have hat : At rb w w8 := (at_below HB07.out).trans HA.out
    refine ⟨(((hat.set_new (by omega) 0 _).set_new (by omega) 1 _).set_new (by omega) 2 _).set_new (by omega) 3 _, ⟨two k x y, _, rfl, ((((HX8.out.set hne 0 _).set hne 1 _).set hne 2 _).set hne 3 _).mono (fun b hb _ => ?_)⟩, HE.out.turn (turn_set4 _ _ _ _ _ _) (fun b hb e => by omega)⟩
    · rcases hb with hb | hb
      · exact .inl hb.1
      · exact .inr (by omega)
  · go_wp2
    refine bodyPost_ret (results_cell_row rfl _ _ (w.heap.size + 3) 38 #[.int .i64 k, .string ⟨#[]⟩, .string ⟨#[]⟩, .slice (some ⟨w.heap.size + 1 + 1 + 1 + 1, 0, none⟩) 2 2] (0, 0) _ rfl (set4 HK3.out _ _ _ _) Tryd.underlying38 rfl (by kernel_rfl)) rfl ?_
    have hne : ∀ b, ((F b ∧ b < w.heap.size) ∨ b = w.heap.size + 4) → b ≠ w.heap.size + 3 := fun b hb => by omega
    have hat : At rb w w7 := at_below HB07.out
    refine ⟨(((hat.set_new (by omega) 0 _).set_new (by omega) 1 _).set_new (by omega) 2 _).set_new (by omega) 3 _, ⟨_, rfl, ((((HX7.out.set hne 0 _).set hne 1 _).set hne 2 _).set hne 3 _).mono (fun b hb _ => ?_)⟩, (HRO.out.below HB07.out).turn (turn_set4 _ _ _ _ _ _) (fun b hb e => by omega)⟩
    · rcases hb with hb | hb
      · exact .inl hb.1
      · exact .inr (by omega)
end Go.Proofs.YtgmlcnikphbiiaaDoor.L

/-
  The document's Field; JsonFields: the walk.
-/
import Derived.Test.YtminegmjklehnaaDoorJsonRs
import Derived.Test.YtminegmjklehnaaDoorJsonFi
import Derived.Test.YtminegmjklehnaaDoorJsonBk
namespace Go.Proofs.YtminegmjklehnaaDoor.J
open Go.RowKit Go.Proofs.YtminegmjklehnaaDoor.B
open Go.Proofs.YtminegmjklehnaaDoor.M hiding Bs
open Go.Proofs.YtminegmjklehnaaDoor.C (QRow Turn)
set_option linter.unusedVariables false
set_option linter.unusedSimpArgs false

theorem resG {w : World} {p : Nat} {k n : Int} {t : Bs} {A : Option Addr} {an ac : Nat} {B : Option Addr} {bn bc : Nat} {d : Value} (hp : w.heap[p]? = some (.cells (jcs k n t A an ac B bn bc) 25 (0, 0))) (tmps : Array Value) (h2 : tmps.getD 4 undef = .pointer (some ⟨p, 0, none⟩)) (h3 : tmps.getD 5 undef = d) :
    (results Tryd.f14 tmps).run Tryd.prog w = .ok (.tuple #[jAgg k n t A an ac B bn bc, d]) w := by
  obtain ⟨p0, p1, p2, p3, p4, -⟩ := five_of hp
  have h2' : tmps[4]?.getD undef = .pointer (some ⟨p, 0, none⟩) := by simpa using h2
  have h3' : tmps[5]?.getD undef = d := by simpa using h3
  simp [results, Tryd.results14, go_sem, h2', h3', p0, p1, p2, p3, p4]
set_option maxRecDepth 100000 in
set_option maxHeartbeats 8000000 in
theorem dfield_calls {j : Js} {w : World} {F : Nat → Prop} {k n : Int} {t : Bs} {A : Option Addr} {an ac : Nat} {B : Option Addr} {bn bc : Nat} (h : JsV w F j (jAgg k n t A an ac B bn bc)) (hFB : ∀ b, F b → b < w.heap.size) (s : Bs) :
    Calls Tryd.prog 14 #[jAgg k n t A an ac B bn bc, vs s] w (FRet w F (fieldJ s j)) := by
  obtain ⟨ka, na, ta, names, nk, kid⟩ := j
  obtain ⟨rfl, rfl, rfl, rfl, rfl, hns, hnk, hac⟩ := h.shape
  have hnl := hns.2.1
  obtain ⟨hc1, hC2, hb⟩ := two_jboxes (w := w) (c1 := jcs k n t A names.length ac B bn bc) (c2 := jcs 0 0 [] none 0 0 none 0 0) (t := 25) (Below.refl _ _)
  obtain ⟨i0, i1, i2, i3, i4, -⟩ := five_of hc1
  have HB1 := Lib.hid hb
  have HS := Lib.hid (SlV.below (R' := StrR) (by decide) hns hb (fun _ _ h => h))
  have hJ1 := h.below hb
  have HFB := Lib.hid (show ∀ b, F b → b ≠ w.heap.size + 1 from fun b hb e => by have := hFB b hb; omega)
  have HF := Lib.hid (show fieldJ s (.mk k n t names bn kid) = if h : k = 5 ∧ names.length = bn ∧ at1 s names < bn then some (kid ⟨at1 s names, h.2.2⟩) else none from rfl)
  obtain ⟨r0, r1, r2, r3, r4, q0, q1, q2, q3, q4⟩ := five_of hC2
  generalize hw1 : ((w.alloc (.cells (jcs k n t A names.length ac B bn bc) 25)).alloc (.cells (jcs 0 0 [] none 0 0 none 0 0) 25)) = w1 at *
  have hst := fun k n t A an ac B bn bc => set5 hC2 (.int .i64 k) (.int .i64 n) (vs t) (.slice A an ac) (.slice B bn bc)
  have hT := fun k n t A an ac B bn bc => set5_turn (fp := fun b => b = w.heap.size + 1) w1 (w.heap.size + 1) rfl (.int .i64 k) (.int .i64 n) (vs t) (.slice A an ac) (.slice B bn bc)
  have HBX := Lib.hid (fun W (hT : Turn (fun b => b = w.heap.size + 1) w1 W) => (HB1.out.trans (Turn.below hT HB1.out.size (fun k hk e => by omega)) : Below w.heap.size w W))
  have HNO := Lib.hid (show fieldJ s (.mk k n t names bn kid) = none → ∀ W, W = (((((w1.setCell ⟨w.heap.size + 1, 0, none⟩ (.int .i64 0)).setCell ⟨w.heap.size + 1, 1, none⟩ (.int .i64 0)).setCell ⟨w.heap.size + 1, 2, none⟩ (vs [])).setCell ⟨w.heap.size + 1, 3, none⟩ (.slice none 0 0)).setCell ⟨w.heap.size + 1, 4, none⟩ (.slice none 0 0)) →
      W.heap[w.heap.size + 1]? = some (.cells (jcs 0 0 [] none 0 0 none 0 0) 25 (0, 0)) ∧ FRet w F (fieldJ s (.mk k n t names bn kid)) (.returned (.tuple #[jAgg 0 0 [] none 0 0 none 0 0, .bool false])) W by
    rintro hf W rfl
    refine ⟨hst .., HBX.out _ (hT ..), ?_⟩
    rw [hf])
  have HYES := Lib.hid (show ∀ (h5 : k = 5) (hl : names.length = bn) (ha : at1 s names < bn) (v : Value), JsV w1 F (kid ⟨at1 s names, ha⟩) v → ∀ k0 n0 t0 A0 an0 ac0 B0 bn0 bc0, v = jAgg k0 n0 t0 A0 an0 ac0 B0 bn0 bc0 → ∀ W, W = (((((w1.setCell ⟨w.heap.size + 1, 0, none⟩ (.int .i64 k0)).setCell ⟨w.heap.size + 1, 1, none⟩ (.int .i64 n0)).setCell ⟨w.heap.size + 1, 2, none⟩ (vs t0)).setCell ⟨w.heap.size + 1, 3, none⟩ (.slice A0 an0 ac0)).setCell ⟨w.heap.size + 1, 4, none⟩ (.slice B0 bn0 bc0)) →
      W.heap[w.heap.size + 1]? = some (.cells (jcs k0 n0 t0 A0 an0 ac0 B0 bn0 bc0) 25 (0, 0)) ∧ FRet w F (fieldJ s (.mk k n t names bn kid)) (.returned (.tuple #[jAgg k0 n0 t0 A0 an0 ac0 B0 bn0 bc0, .bool true])) W by
    rintro h5 hl ha v hk k0 n0 t0 A0 an0 ac0 B0 bn0 bc0 rfl W rfl
    refine ⟨hst .., HBX.out _ (hT ..), ?_⟩
    rw [HF.out, dif_pos ⟨h5, hl, ha⟩]
    exact ⟨_, rfl, hk.turn (hT ..) (fun b hb hl => ⟨fun e => HFB.out b hb e, hb⟩)⟩)
  have HJ := Lib.hid hJ1
  clear hst hT hC2 h hns hb hc1 hJ1 hFB
  have HW1 := Lib.hid hw1
  clear hw1
  go_enter Tryd.func14, Tryd.ntmps14
  go_wp2_with fail
  rw [HW1.out]
  go_loopw [6] (fun v6 wr => ∃ i : Nat, i ≤ names.length ∧ v6 = .int .i64 i ∧ Hid ((names.take i).contains s = false) ∧ wr = w1) (fun v6 _ => names.length - (intOf v6).toNat)
  case atStart => exact ⟨0, Nat.zero_le _, rfl, Lib.hid rfl, rfl⟩
  case round =>
    obtain ⟨i, hin, rfl, HCN, rfl⟩ := hrel
    by_cases hi : i < names.length
    rotate_left
    · have hie : i = names.length := by omega
      subst hie
      have HN := Lib.hid (HNO.out (HF.out.trans (dif_neg (fun h => by
        have := HCN.out
        rw [List.take_length] at this
        have := at1_none this
        have := h.2.1
        have := h.2.2
        omega))))
      go_wp2
      obtain ⟨f1, f2⟩ := HN.out _ rfl
      exact bodyPost_ret (resG f1 _ rfl rfl) rfl f2
    by_cases k5 : k = 5
    rotate_left
    · have HN := Lib.hid (HNO.out (HF.out.trans (dif_neg (fun h => k5 h.1))))
      have e5 : (k == 5) = false := beq_eq_false_iff_ne.2 k5
      go_wp2
      obtain ⟨f1, f2⟩ := HN.out _ rfl
      exact bodyPost_ret (resG f1 _ rfl rfl) rfl f2
    by_cases hle : names.length = bn
    rotate_left
    · have HN := Lib.hid (HNO.out (HF.out.trans (dif_neg (fun h => hle h.2.1))))
      have hlei : ((names.length : Int) == (bn : Int)) = false := beq_eq_false_iff_ne.2 (by omega)
      have e5 : (k == 5) = true := by rw [k5]; rfl
      clear hle
      go_wp2
      obtain ⟨f1, f2⟩ := HN.out _ rfl
      exact bodyPost_ret (resG f1 _ rfl rfl) rfl f2
    have hlei : ((names.length : Int) == (bn : Int)) = true := by rw [hle]; simp
    have e5 : (k == 5) = true := by rw [k5]; rfl
    have HK5 := Lib.hid k5
    have HLE := Lib.hid hle
    have hib : i < bn := by omega
    clear hle k5
    obtain ⟨x, hx⟩ : ∃ x, names[i]? = some x := ⟨names[i]'hi, List.getElem?_eq_getElem _⟩
    obtain ⟨a1, p1, rfl, hp1, -, d1⟩ := str_cell HS.out hx
    have HX := Lib.hid hx
    clear hx
    have hneq : (s == x) = (x == s) := by
      cases h1 : (s == x)
      · exact (beq_eq_false_iff_ne.2 (fun e => by rw [e] at h1; simp at h1)).symm
      · rw [eq_of_beq h1]; simp
    cases he : (x == s) with
    | true =>
      rw [he] at hneq
      have hat := at1_has HX.out HCN.out hneq
      obtain ⟨ad, p, k0, n0, t0, A0, an0, ac0, B0, bn0, bc0, rfl, hp, -, d0, d1', d2, d3, d4, hk⟩ := HJ.out.kid i hib
      have HN := Lib.hid (HYES.out HK5.out HLE.out (by rw [hat]; exact hib) _ (by
        have e : (⟨at1 s names, by rw [hat]; exact hib⟩ : Fin bn) = ⟨i, hib⟩ := Fin.ext hat
        rw [e]; exact hk) _ _ _ _ _ _ _ _ _ rfl)
      clear hneq hat hk
      go_wp2
      obtain ⟨f1, f2⟩ := HN.out _ rfl
      exact bodyPost_ret (resG f1 _ rfl rfl) rfl f2
    | false =>
      rw [he] at hneq
      have HST := Lib.hid (contains_step HX.out HCN.out hneq)
      clear hneq
      go_wp2
      exact ⟨⟨i + 1, by omega, by go_num, HST, trivial⟩, by simp [intOf]; omega⟩
theorem FRet.any {w w' : World} {F : Nat → Prop} {r : Option Js} {e : Ending} (h : FRet w F r e w') : Below w.heap.size w w' ∧ ∃ k n t A an ac B bn bc, e = .returned (.tuple #[jAgg k n t A an ac B bn bc, .bool r.isSome]) ∧ JsV w' F (r.getD nullJ) (jAgg k n t A an ac B bn bc) := by
  obtain ⟨hb, h⟩ := h
  refine ⟨hb, ?_⟩
  cases r with
  | none => exact ⟨_, _, _, _, _, _, _, _, _, h, leaf_JsV w' F 0 0 []⟩
  | some j =>
    obtain ⟨v, he, hv⟩ := h
    obtain ⟨k, n, t, A, an, ac, B, bn, bc, rfl⟩ := hv.form
    exact ⟨_, _, _, _, _, _, _, _, _, he, hv⟩
set_option maxRecDepth 100000 in
set_option maxHeartbeats 40000000 in
theorem fields_calls {ja jb : Js} {w : World} {ka na : Int} {ta : Bs} {A : Option Addr} {an ac : Nat} {B : Option Addr} {bn bc : Nat} (ha : JsV w (fun b => b < w.heap.size) ja (jAgg ka na ta A an ac B bn bc)) (hfa : FitJ ja) {kb nb : Int} {tb : Bs} {A' : Option Addr} {an' ac' : Nat} {B' : Option Addr} {bn' bc' : Nat} (hb : JsV w (fun b => b < w.heap.size) jb (jAgg kb nb tb A' an' ac' B' bn' bc')) (hfb : FitJ jb) (s : Bs) (hT : TabW w) (hP : TabP w) :
    Calls Tryd.prog 6 #[jAgg ka na ta A an ac B bn bc, jAgg kb nb tb A' an' ac' B' bn' bc', vs s] w (BRet w true) := by
  obtain ⟨hc1, hc2, hb0⟩ := two_jboxes (w := w) (c1 := jcs ka na ta A an ac B bn bc) (c2 := jcs kb nb tb A' an' ac' B' bn' bc') (t := 25) (Below.refl _ _)
  have HAW := Lib.hid (awake_calls (hT.below hb0) (hP.below hb0))
  have HJA := Lib.hid ha
  have HJB := Lib.hid hb
  have HFA := Lib.hid hfa
  have HFB := Lib.hid hfb
  have HB0 := Lib.hid hb0
  have HAB0 := Lib.hid (And.intro hc1 hc2)
  clear ha hfa hb hfb hT hP hb0 hc1 hc2
  go_enter Tryd.func6, Tryd.ntmps6
  go_wp2_with fail
  generalize ((w.alloc (.cells (jcs ka na ta A an ac B bn bc) 25)).alloc (.cells (jcs kb nb tb A' an' ac' B' bn' bc') 25)) = V at *
  refine HAW.out.mono ?_
  rintro e w1 ⟨rfl, hb⟩
  have HB1 := Lib.hid (keepB HB0.out hb)
  have HAB1 := Lib.hid (And.intro ((hb.block _ (lt_of_heap HAB0.out.1)).trans HAB0.out.1) ((hb.block _ (lt_of_heap HAB0.out.2)).trans HAB0.out.2))
  clear hb HAW HAB0
  obtain ⟨pa0, pa1, pa2, pa3, pa4, -⟩ := five_of HAB1.out.1
  have HW := Lib.hid (Weight_calls ja w1 _ ka na ta A an ac B bn bc 600 (HJA.out.below HB1.out) HFA.out (by decide) (by decide))
  go_wp2_with fail
  refine HW.out.mono ?_
  rintro e w2 ⟨r, rfl, -, hb⟩
  have HB2 := Lib.hid (keepB HB1.out hb)
  have HAB2 := Lib.hid (And.intro ((hb.block _ (lt_of_heap HAB1.out.1)).trans HAB1.out.1) ((hb.block _ (lt_of_heap HAB1.out.2)).trans HAB1.out.2))
  clear hb HW HAB1 pa0 pa1 pa2 pa3 pa4
  by_cases hr : r = 0
  · subst hr
    go_wp2
    go_ret
    exact ⟨by first | rfl | simp [Array.getD], HB2.out⟩
  have hrb : (r == 0) = false := beq_eq_false_iff_ne.2 hr
  obtain ⟨pb0, pb1, pb2, pb3, pb4, -⟩ := five_of HAB2.out.2
  have HW := Lib.hid (Weight_calls jb w2 _ kb nb tb A' an' ac' B' bn' bc' 600 (HJB.out.below HB2.out) HFB.out (by decide) (by decide))
  go_wp2_with fail
  refine HW.out.mono ?_
  rintro e w3 ⟨q, rfl, -, hb⟩
  have HB3 := Lib.hid (keepB HB2.out hb)
  have HAB3 := Lib.hid (And.intro ((hb.block _ (lt_of_heap HAB2.out.1)).trans HAB2.out.1) ((hb.block _ (lt_of_heap HAB2.out.2)).trans HAB2.out.2))
  clear hb HW HAB2 pb0 pb1 pb2 pb3 pb4
  by_cases hq : q = 0
  · subst hq
    go_wp2
    go_ret
    exact ⟨by first | rfl | simp [Array.getD], HB3.out⟩
  have hqb : (q == 0) = false := beq_eq_false_iff_ne.2 hq
  clear hr hq
  obtain ⟨pa0, pa1, pa2, pa3, pa4, -⟩ := five_of HAB3.out.1
  have HFC := Lib.hid (fun W (hb : Below w.heap.size w W) => Field_calls (HJA.out.below hb) (fun b hbl => Nat.lt_of_lt_of_le hbl hb.size) s)
  have HDC := Lib.hid (fun W (hb : Below w.heap.size w W) => dfield_calls (HJA.out.below hb) (fun b hbl => Nat.lt_of_lt_of_le hbl hb.size) s)
  go_wp2_with fail
  refine (HFC.out _ HB3.out).mono ?_
  intro e w4 h4
  obtain ⟨hb, xk, xn, xt, xA, xan, xac, xB, xbn, xbc, rfl, hx⟩ := h4.any
  obtain ⟨b1, hb1⟩ : ∃ b1, (fieldJ s ja).isSome = b1 := ⟨_, rfl⟩
  rw [hb1]
  have hb4 : Below w4.heap.size w4 (w4.alloc (.cells (jcs xk xn xt xA xan xac xB xbn xbc) 25)) := (Below.refl _ w4).alloc (Nat.le_refl _) _
  have HB4 := Lib.hid (keepB (keepB HB3.out hb) hb4)
  have HAB4 := Lib.hid (And.intro ((hb4.block _ (Nat.lt_of_lt_of_le (lt_of_heap HAB3.out.1) hb.size)).trans ((hb.block _ (lt_of_heap HAB3.out.1)).trans HAB3.out.1)) ((hb4.block _ (Nat.lt_of_lt_of_le (lt_of_heap HAB3.out.2) hb.size)).trans ((hb.block _ (lt_of_heap HAB3.out.2)).trans HAB3.out.2)))
  have HX4 := Lib.hid (hx.below hb4)
  have HXC4 := Lib.hid (heap_alloc_new w4 (.cells (jcs xk xn xt xA xan xac xB xbn xbc) 25))
  have HBB := Lib.hid hb1
  clear h4 hb hb4 hx HAB3 pa0 pa1 pa2 pa3 pa4 hb1
  obtain ⟨pa0, pa1, pa2, pa3, pa4, -⟩ := five_of HAB4.out.1
  go_wp2_with fail
  generalize (w4.alloc (.cells (jcs xk xn xt xA xan xac xB xbn xbc) 25)) = V4 at *
  refine (HDC.out _ HB4.out).mono ?_
  intro e w5 h5
  obtain ⟨hb, yk, yn, yt, yA, yan, yac, yB, ybn, ybc, rfl, hy⟩ := h5.any
  rw [HBB.out]
  have hb5 : Below w5.heap.size w5 (w5.alloc (.cells (jcs yk yn yt yA yan yac yB ybn ybc) 25)) := (Below.refl _ w5).alloc (Nat.le_refl _) _
  have hb6 := keepB hb hb5
  have HB5 := Lib.hid (keepB HB4.out hb6)
  have HAB5 := Lib.hid (And.intro ((hb6.block _ (lt_of_heap HAB4.out.1)).trans HAB4.out.1) ((hb6.block _ (lt_of_heap HAB4.out.2)).trans HAB4.out.2))
  have HX5 := Lib.hid (HX4.out.below hb6)
  have HXC5 := Lib.hid ((hb6.block _ (lt_of_heap HXC4.out)).trans HXC4.out)
  have HY5 := Lib.hid (hy.below hb5)
  have HYC5 := Lib.hid (heap_alloc_new w5 (.cells (jcs yk yn yt yA yan yac yB ybn ybc) 25))
  have HDS := Lib.hid (dsame_calls _ _ _ _ _ _ _ _ _ _ _ _ _ _ _ _ _ _ _ _ _ _ _ HX5.out HY5.out)
  rw [same_refl] at HDS
  clear h5 hb hb5 hb6 hy HAB4 HX4 HXC4 pa0 pa1 pa2 pa3 pa4
  obtain ⟨qx0, qx1, qx2, qx3, qx4, -⟩ := five_of HXC5.out
  obtain ⟨qy0, qy1, qy2, qy3, qy4, -⟩ := five_of HYC5.out
  go_wp2_with fail
  generalize (w5.alloc (.cells (jcs yk yn yt yA yan yac yB ybn ybc) 25)) = V5 at *
  refine HDS.out.mono ?_
  rintro e w7 ⟨rfl, hb⟩
  have HB7 := Lib.hid (keepB HB5.out hb)
  have hA := (hb.block _ (lt_of_heap HAB5.out.1)).trans HAB5.out.1
  have hBx := (hb.block _ (lt_of_heap HAB5.out.2)).trans HAB5.out.2
  have HAB7 := Lib.hid (show w7.drew.heap[w.heap.size]? = some (.cells (jcs ka na ta A an ac B bn bc) 25 (0, 0)) ∧ w7.drew.heap[w.heap.size + 1]? = some (.cells (jcs kb nb tb A' an' ac' B' bn' bc') 25 (0, 0)) from ⟨hA, hBx⟩)
  obtain ⟨pa0, pa1, pa2, pa3, pa4, -⟩ := five_of hA
  obtain ⟨pb0, pb1, pb2, pb3, pb4, -⟩ := five_of hBx
  have HSA := Lib.hid (fun W (hb : Below w.heap.size w W) => Same_calls ja jb W _ _ _ _ _ _ _ _ _ _ _ _ _ _ _ _ _ _ _ _ (HJA.out.below hb) (HJB.out.below hb))
  have HDA := Lib.hid (fun W (hb : Below w.heap.size w W) => dsame_calls ja jb W _ _ _ _ _ _ _ _ _ _ _ _ _ _ _ _ _ _ _ _ (HJA.out.below hb) (HJB.out.below hb))
  have HSS := Lib.hid (fun W (hb : Below w.heap.size w W) => Same_calls ja ja W _ _ _ _ _ _ _ _ _ _ _ _ _ _ _ _ _ _ _ _ (HJA.out.below hb) (HJA.out.below hb))
  rw [same_refl] at HSS
  generalize sameJ ja jb = m at *
  have HBD := Lib.hid (show Below w.heap.size w w7.drew from below_drewN HB7.out 1)
  clear hb hA hBx HDS HAB7 HAB5 HX5 HXC5 HY5 HYC5 qx0 qx1 qx2 qx3 qx4 qy0 qy1 qy2 qy3 qy4 HFC HDC HBB
  go_wp2_with fail
  go_region_held3 (fun W => W.cell? ⟨w.heap.size, 0, none⟩ = some (.int .i64 ka) ∧ W.cell? ⟨w.heap.size, 1, none⟩ = some (.int .i64 na) ∧ W.cell? ⟨w.heap.size, 2, none⟩ = some (vs ta) ∧ W.cell? ⟨w.heap.size, 3, none⟩ = some (.slice A an ac) ∧ W.cell? ⟨w.heap.size, 4, none⟩ = some (.slice B bn bc) ∧ W.cell? ⟨w.heap.size + 1, 0, none⟩ = some (.int .i64 kb) ∧ W.cell? ⟨w.heap.size + 1, 1, none⟩ = some (.int .i64 nb) ∧ W.cell? ⟨w.heap.size + 1, 2, none⟩ = some (vs tb) ∧ W.cell? ⟨w.heap.size + 1, 3, none⟩ = some (.slice A' an' ac') ∧ W.cell? ⟨w.heap.size + 1, 4, none⟩ = some (.slice B' bn' bc')) (go_keep)
    (first
    | ((with_reducible refine (HSA.out _ HBD.out).mono ?_); rintro e w8 ⟨rfl, hb⟩
       have HB8 := Lib.hid (keepB HBD.out hb)
       have pa08 := keepC hb pa0
       have pa18 := keepC hb pa1
       have pa28 := keepC hb pa2
       have pa38 := keepC hb pa3
       have pa48 := keepC hb pa4
       have pb08 := keepC hb pb0
       have pb18 := keepC hb pb1
       have pb28 := keepC hb pb2
       have pb38 := keepC hb pb3
       have pb48 := keepC hb pb4
       clear hb)
    | ((with_reducible refine (HDA.out _ HBD.out).mono ?_); rintro e w9 ⟨rfl, hb⟩
       have HB9 := Lib.hid (keepB HBD.out hb)
       have pa09 := keepC hb pa0
       have pa19 := keepC hb pa1
       have pa29 := keepC hb pa2
       have pa39 := keepC hb pa3
       have pa49 := keepC hb pa4
       have pb09 := keepC hb pb0
       have pb19 := keepC hb pb1
       have pb29 := keepC hb pb2
       have pb39 := keepC hb pb3
       have pb49 := keepC hb pb4
       clear hb)
    | ((with_reducible refine (HDA.out _ HB8.out).mono ?_); rintro e w89 ⟨rfl, hb⟩
       have HB89 := Lib.hid (keepB HB8.out hb)
       have pa089 := keepC hb pa08
       have pa189 := keepC hb pa18
       have pa289 := keepC hb pa28
       have pa389 := keepC hb pa38
       have pa489 := keepC hb pa48
       have pb089 := keepC hb pb08
       have pb189 := keepC hb pb18
       have pb289 := keepC hb pb28
       have pb389 := keepC hb pb38
       have pb489 := keepC hb pb48
       clear hb)
    | ((with_reducible refine (HSA.out _ HB9.out).mono ?_); rintro e w98 ⟨rfl, hb⟩
       have HB98 := Lib.hid (keepB HB9.out hb)
       have pa098 := keepC hb pa09
       have pa198 := keepC hb pa19
       have pa298 := keepC hb pa29
       have pa398 := keepC hb pa39
       have pa498 := keepC hb pa49
       have pb098 := keepC hb pb09
       have pb198 := keepC hb pb19
       have pb298 := keepC hb pb29
       have pb398 := keepC hb pb39
       have pb498 := keepC hb pb49
       clear hb)
    | ((with_reducible refine (HSS.out _ HB89.out).mono ?_); rintro e wz1 ⟨rfl, hb⟩
       have HBF := Lib.hid (keepB HB89.out hb)
       have pa0z1 := keepC hb pa089
       have pa1z1 := keepC hb pa189
       have pa2z1 := keepC hb pa289
       have pa3z1 := keepC hb pa389
       have pa4z1 := keepC hb pa489
       have pb0z1 := keepC hb pb089
       have pb1z1 := keepC hb pb189
       have pb2z1 := keepC hb pb289
       have pb3z1 := keepC hb pb389
       have pb4z1 := keepC hb pb489
       clear hb)
    | ((with_reducible refine (HSS.out _ HB98.out).mono ?_); rintro e wz2 ⟨rfl, hb⟩
       have HBF := Lib.hid (keepB HB98.out hb)
       have pa0z2 := keepC hb pa098
       have pa1z2 := keepC hb pa198
       have pa2z2 := keepC hb pa298
       have pa3z2 := keepC hb pa398
       have pa4z2 := keepC hb pa498
       have pb0z2 := keepC hb pb098
       have pb1z2 := keepC hb pb198
       have pb2z2 := keepC hb pb298
       have pb3z2 := keepC hb pb398
       have pb4z2 := keepC hb pb498
       clear hb))
  all_goals
    go_wp2
    go_ret
    exact ⟨by first | rfl | simp [Array.getD], HBF.out⟩
end Go.Proofs.YtminegmjklehnaaDoor.J

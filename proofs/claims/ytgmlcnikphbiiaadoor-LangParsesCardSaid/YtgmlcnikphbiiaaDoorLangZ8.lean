/-
  The document's reader in any state: rel, the walk.
-/
import Derived.Test.YtgmlcnikphbiiaaDoorLangZ7
namespace Go.Proofs.YtgmlcnikphbiiaaDoor.L
open Go.RowKit Go.Proofs.YtgmlcnikphbiiaaDoor.B Go.Proofs.YtgmlcnikphbiiaaDoor.S10 Go.Proofs.YtgmlcnikphbiiaaDoor.Nm
open Go.Proofs.YtgmlcnikphbiiaaDoor.C (QRow Turn wpList_append_q)
set_option linter.unusedVariables false
set_option linter.unusedSimpArgs false

theorem exit48R {w V : World} {rb : Nat} {r' : Except Dg (List Tk)} {o : Option Rl} {y : Bool} {x0 x1 x2 x3 x4 x5 z0 z1 z2 z3 z4 z5 : Value} (hpb : rb < w.heap.size) (hA : At rb w V) (hP : St V rb 0 r')
    (hrb : V.heap[w.heap.size]? = some (.cells #[z0, z1, z2, z3, z4, z5] 48 (0, 0)))
    (hV : ∀ W : World, (∀ F : Nat → Prop, (∀ b, F b → w.heap.size < b) → ∀ (x : Rl) cs, RelR V F x cs → RelR W F x cs) → RelRet w W o (.returned (.tuple #[.agg #[x0, x1, x2, x3, x4, x5], .bool y]))) :
    (RelRet w ((((((V.setCell ⟨w.heap.size, 0, none⟩ x0).setCell ⟨w.heap.size, 1, none⟩ x1).setCell ⟨w.heap.size, 2, none⟩ x2).setCell ⟨w.heap.size, 3, none⟩ x3).setCell ⟨w.heap.size, 4, none⟩ x4).setCell ⟨w.heap.size, 5, none⟩ x5) o (.returned (.tuple #[.agg #[x0, x1, x2, x3, x4, x5], .bool y])) ∧
     At rb w ((((((V.setCell ⟨w.heap.size, 0, none⟩ x0).setCell ⟨w.heap.size, 1, none⟩ x1).setCell ⟨w.heap.size, 2, none⟩ x2).setCell ⟨w.heap.size, 3, none⟩ x3).setCell ⟨w.heap.size, 4, none⟩ x4).setCell ⟨w.heap.size, 5, none⟩ x5) ∧
     St ((((((V.setCell ⟨w.heap.size, 0, none⟩ x0).setCell ⟨w.heap.size, 1, none⟩ x1).setCell ⟨w.heap.size, 2, none⟩ x2).setCell ⟨w.heap.size, 3, none⟩ x3).setCell ⟨w.heap.size, 4, none⟩ x4).setCell ⟨w.heap.size, 5, none⟩ x5) rb 0 r') ∧
    ((((((V.setCell ⟨w.heap.size, 0, none⟩ x0).setCell ⟨w.heap.size, 1, none⟩ x1).setCell ⟨w.heap.size, 2, none⟩ x2).setCell ⟨w.heap.size, 3, none⟩ x3).setCell ⟨w.heap.size, 4, none⟩ x4).setCell ⟨w.heap.size, 5, none⟩ x5).heap[w.heap.size]? = some (.cells #[x0, x1, x2, x3, x4, x5] 48 (0, 0)) := by
  refine ⟨⟨hV _ (fun F hF x cs h => ?_), (((((hA.set_new (Nat.le_refl _) 0 _).set_new (Nat.le_refl _) 1 _).set_new (Nat.le_refl _) 2 _).set_new (Nat.le_refl _) 3 _).set_new (Nat.le_refl _) 4 _).set_new (Nat.le_refl _) 5 _, hP.turn (turn_set6 _ _ _ _ _ _ _ _) (fun b hb e => by omega)⟩, set6 hrb _ _ _ _ _ _⟩
  have hne : ∀ b, F b → b ≠ w.heap.size := fun b hb => Nat.ne_of_gt (hF b hb)
  exact (((((h.set hne 0 _).set hne 1 _).set hne 2 _).set hne 3 _).set hne 4 _).set hne 5 _
theorem resR {w : World} {g : Nat} {s : Bs} {A : Option Addr} {n c : Nat} {k : Int} {a b : Bs} {A' : Option Addr} {n' c' : Nat} (h : w.heap[g]? = some (.cells #[vs s, .slice A n c, .int .i64 k, vs a, vs b, .slice A' n' c'] 48 (0, 0)))
    (tmps : Array Value) (y : Bool) (h2 : tmps.getD 2 undef = .pointer (some ⟨g, 0, none⟩)) (h3 : tmps.getD 3 undef = .bool y) :
    (results Tryd.f28 tmps).run Tryd.prog w = .ok (.tuple #[.agg #[vs s, .slice A n c, .int .i64 k, vs a, vs b, .slice A' n' c'], .bool y]) w := by
  obtain ⟨c0, c1, c2, c3, c4, c5, -⟩ := six_of h
  rw [results_cell_tmp rfl, h2, h3]
  go_simp
def RelAny (rb : Nat) (w : World) (r : Except Dg (List Tk)) (e : Ending) (w' : World) : Prop :=
  ∃ o, RelRet w w' o e ∧ At rb w w' ∧ St w' rb 0 (stp relS r) ∧ (∀ L a' l, r = .ok L → relS L = .ok (a', l) → o = a') ∧ (∀ d, r = .error d → o = none)
set_option maxRecDepth 100000 in
set_option maxHeartbeats 4000000 in
theorem rrel_any {w : World} {rb : Nat} (r : Except Dg (List Tk)) (h : St w rb 0 r) : Calls Tryd.prog 28 #[.pointer (some ⟨rb, 0, none⟩)] w (RelAny rb w r) := by
  have hlt := h.lt
  have hz1 := heap_alloc_new w (.cells Z48 48)
  have hz2 := heap_alloc_new (w.alloc (.cells Z48 48)) (.cells Z48 48)
  have hzs : (w.alloc (.cells Z48 48)).heap.size = w.heap.size + 1 := by simp
  rw [hzs] at hz2
  have hz1' := (alloc_old (.cells Z48 48) (by omega : w.heap.size < (w.alloc (.cells Z48 48)).heap.size)).trans hz1
  have H0 := Lib.hid ((h.alloc (.cells Z48 48)).alloc (.cells Z48 48))
  have HZ1 := Lib.hid hz1'
  have HZ2 := Lib.hid hz2
  obtain ⟨i0, hi, hz0, hz1, hz2⟩ := info_parts info81
  have HI := Lib.hid hi
  have HZ0 := Lib.hid hz0
  have HY1 := Lib.hid hz1
  have HY2 := Lib.hid hz2
  clear h hz1 hz2 hz1' hzs hi hz0
  have HZ1x := HZ1
  go_enter Tryd.func28, Tryd.ntmps28
  go_wp2_with fail
  refine (is_any r H0.out _ sRelation rfl (by simp) (by simp)).mono ?_
  rintro e w1 ⟨rfl, hS1, hA1⟩
  have hA01 := (((At.refl rb w).alloc_new (.cells Z48 48)).alloc_new (.cells Z48 48)).trans hA1
  have HA1 := Lib.hid hA01
  have HS1 := Lib.hid hS1
  have hrs1 := hA1.kept HZ1.out (by omega)
  have hrv1 := hA1.kept HZ2.out (by omega)
  have HRS1 := Lib.hid hrs1
  have HRV1 := Lib.hid hrv1
  clear hS1 hA1 hA01 H0 HZ1 HZ2 HZ1x
  cases hb1 : (isR sRelation r).1 with
  | true =>
    obtain ⟨L, hrL, hbL, hr2⟩ := isR_true hb1
    subst hrL
    rw [hr2] at HS1
    have HBL := Lib.hid hbL
    clear hb1 hr2 hbL hrs1 hrv1
    go_wp2_with fail
    refine (name_any _ HS1.out).mono ?_
    rintro e w2 ⟨s, rfl, hA2, hS2, hv2⟩
    have hrs2 := hA2.kept HRS1.out (by omega)
    have hrv2 := hA2.kept HRV1.out (by omega)
    have HV2 := Lib.hid hv2
    have hA02 := (HA1.out.trans hA2).set_new (b := w.heap.size + 1) (by omega) 0 (vs s)
    have hS02 : St (w2.setCell ⟨w.heap.size + 1, 0, none⟩ (vs s)) rb 0 _ := hS2.turn (Turn.setCell (fp := fun b => b = w.heap.size + 1) w2 ⟨w.heap.size + 1, 0, none⟩ (vs s) rfl) (fun b hb e => by omega)
    have hrs02 := (heap_setCell_other w2 ⟨w.heap.size + 1, 0, none⟩ w.heap.size (vs s) (by show w.heap.size ≠ w.heap.size + 1; omega)).trans hrs2
    have hrv02 := heap_setCell_same w2 (w.heap.size + 1) 0 _ _ (vs s) hrv2
    have HA2 := Lib.hid hA02
    have HS2 := Lib.hid hS02
    have HRS2 := Lib.hid hrs02
    have HRV2 := Lib.hid hrv02
    obtain ⟨x0, -, -, -, -, -, f0, -⟩ := six_of hrv2
    clear hA2 hS2 hv2 hA02 hS02 hrs02 hrv02 hrs2 hrv2
    go_wp2_with fail
    refine (must_any _ HS2.out _ [58] rfl (by simp) (by simp)).mono ?_
    rintro e w3 ⟨u3, rfl, hA3, hS3, -⟩
    have hrx3 : RX rb w s [] none 0 (stp (mustS [58]) (stp nameS (.ok (hasS sRelation L).2))) w3 := ⟨HA2.out.trans hA3, hS3, hA3.kept HRV2.out (by omega), hA3.kept HRS2.out (by omega), OwnL.nil _ _ _ _, (fun g hg => by cases hg), hlt⟩
    have HFIN := Lib.hid (fun acc rF hf => rel_true (L := L) (acc := acc) (rF := rF) HBL.out HV2.out hf)
    generalize stp (mustS [58]) (stp nameS (.ok (hasS sRelation L).2)) = r3 at *
    have hinv : (∀ d, r3 = .error d → totR r3 = .error d) ∧ (∀ L, r3 = .ok L → totR r3 = refsGo (L.length + 1) [] L) := ⟨fun d h => by rw [h]; rfl, fun L h => by rw [h]; rfl⟩
    have hlen3 : ∀ L, r3 = .ok L → ([] : List Rf).length + L.length ≤ 5000 := fun L h => by
      rw [h] at hS3
      have := RO.len (show RO w3 rb 0 L from hS3)
      simp; omega
    have HINV := Lib.hid (And.intro hinv.1 (And.intro hinv.2 hlen3))
    have HRX0 := Lib.hid hrx3
    have htt : ∃ tt, totR r3 = tt := ⟨_, rfl⟩
    obtain ⟨tt, htt⟩ := htt
    have HTT := Lib.hid htt
    obtain ⟨k0, k1, k2, k3, k4, k5, j0, j1, j2, j3, j4, j5⟩ := six_of hrx3.rv
    clear hA3 hS3 hrx3 hinv hlen3 x0 f0 htt
    obtain ⟨acc, hacc⟩ : ∃ acc : List Rf, acc = [] := ⟨_, rfl⟩
    obtain ⟨A, hA⟩ : ∃ A : Option Addr, A = none := ⟨_, rfl⟩
    obtain ⟨c, hc⟩ : ∃ c : Nat, c = 0 := ⟨_, rfl⟩
    have HEQ := Lib.hid (And.intro hacc (And.intro hA hc))
    have HRX : Hid (RX rb w s acc A c r3 w3) := Lib.hid (by rw [hacc, hA, hc]; exact HRX0.out)
    have hk1 : w3.cell? ⟨w.heap.size + 1, 1, none⟩ = some (.slice A acc.length c) := by rw [hacc, hA, hc]; exact k1
    have hacc5 : acc.length ≤ 5000 := by rw [hacc]; simp
    have HX : Hid (∀ x : Rf, (∀ L a' l, r3 = .ok L → refS L = .ok (a', l) → x = a') → RInv (acc ++ [x]) (stp refS r3) tt) := Lib.hid (fun x hx => by
      rw [hacc, ← HTT.out]
      exact RInv.push HINV.out.1 HINV.out.2.1 HINV.out.2.2 (by simp) hx)
    clear hacc hA hc HEQ HRX0 k1 HINV
    go_wp2_with fail
    go_region_law (first
      | (refine step_append_q rfl _ _ 46 rfl 81 i0 (.agg #[.string ByteArray.empty, .string ByteArray.empty]) 2 32 Tryd.underlying46 HI.out HZ0.out HY1.out HY2.out rfl (by decide) (.slice A acc.length c) acc.length css.flatten rfl HQ5.out ⟨w5.heap.size, 0, none⟩ 1 1 [vs x.ty, vs x.rel] rfl rfl (cell_two_new _ _ _ _) (by intro u hu; simp at hu; rcases hu with rfl | rfl <;> rfl) (by unfold maxLen; omega) (by omega) ?_
         intro v' w6 hq6 hg6 hb6
         obtain ⟨A', c', rfl⟩ := QRow.form hq6
         have H6 := Lib.hid (And.intro hq6 (And.intro hg6 hb6))
         obtain ⟨m0', m1', m2', m3', m4', m5', n0', n1', n2', n3', n4', n5'⟩ := six_of (HG5.out A' c' w6 hq6 hg6 hb6)
         clear hq6 hg6 hb6)
      | (go_simp; refine (ref_any _ (HRX.out.drew).st).mono ?_; rintro e5 w5 ⟨x, rfl, hA5, hS5, hv5⟩
         have hrx5 := (HRX.out.drew).call hA5 hS5
         obtain ⟨css, hc1, hc2, hc3⟩ := hrx5.own
         have HQ5 := Lib.hid (hc2.kept (w' := w5.alloc (.cells #[vs x.ty, vs x.rel] 81)) (fun g hg => alloc_old _ (hc2.block_lt hg)))
         have HG5 := Lib.hid (fun A' c' w6 hq6 hg6 hb6 => (hrx5.push (A' := A') (c' := c') (w6 := w6) (x := x) hc1 hc3 hq6 hg6 hb6).1)
         have HV5 := Lib.hid hv5
         have hvl := lt_of_heap hrx5.rv
         obtain ⟨m0, m1, m2, m3, m4, m5, n0, n1, n2, n3, n4, n5⟩ := six_of hrx5.rv
         have H5 := Lib.hid (And.intro hrx5 (And.intro hc1 hc3))
         clear hA5 hS5 hv5 hrx5 hc1 hc2 hc3))
    all_goals
      obtain ⟨hrx5, hc1, hc3⟩ := H5.out
      obtain ⟨hq6, hg6, hb6⟩ := H6.out
      obtain ⟨-, hrxW⟩ := hrx5.push hc1 hc3 hq6 hg6 hb6
      have HRXW := Lib.hid hrxW
      clear H5 H6 HQ5 HG5 hrx5 hc1 hc3 hq6 hg6 hb6 hrxW m0 m1 m2 m3 m4 m5 n0 n1 n2 n3 n4 n5 m0' m1' m2' m3' m4' m5' n0' n1' n2' n3' n4' n5' hvl
      have hinvW := HX.out x HV5.out
      have HIW := Lib.hid hinvW
      clear hinvW
      go_wp2_with fail
      go_loopg [] (match stp refS r3 with
        | .error _ => 0
        | .ok L => L.length + 1) (fun k wr => ∃ (acc : List Rf) (A : Option Addr) (c : Nat) (rr : Except Dg (List Tk)), RX rb w s acc A c rr wr ∧ Hid (RInv acc rr tt) ∧ k = (match rr with
          | .error _ => 0
          | .ok L => L.length + 1))
      case atStart => exact ⟨acc ++ [x], A', c', _, HRXW.out, HIW, rfl⟩
      case round =>
        clear HRXW HIW HX HRX k0 k2 k3 k4 k5 j0 j1 j2 j3 j4 j5 hk1 hacc5
        obtain ⟨acc, A, c, rr, hrx, HI3, hgk⟩ := hrel
        have HRX := Lib.hid hrx
        have HGK := Lib.hid hgk
        clear hrx hgk
        go_wp2_with fail
        refine (is_any rr HRX.out.st _ [124] rfl (by simp) (by simp)).mono ?_
        rintro e8 w8 ⟨rfl, hS8, hA8⟩
        have hrx8 := HRX.out.call hA8 hS8
        have HRX8 := Lib.hid hrx8
        obtain ⟨k0, k1, k2, k3, k4, k5, j0, j1, j2, j3, j4, j5⟩ := six_of hrx8.rv
        obtain ⟨q0, q1, q2, q3, q4, q5, i0', i1, i2, i3, i4, i5⟩ := six_of hrx8.rs
        clear hS8 hA8 hrx8
        cases hb8 : (isR [124] rr).1 with
        | false =>
          have hfin : match (isR [124] rr).2 with | .error d => totR r3 = .error d | .ok l => totR r3 = .ok (acc, l) := by
            rw [HTT.out]
            cases rr with
            | error d => exact HI3.out.1 d rfl
            | ok L' =>
              have := HI3.out.2.1 L' rfl
              rw [if_neg (by have h9 : (hasS [124] L').1 = false := hb8; rw [h9]; simp)] at this
              exact this
          obtain ⟨hst, hval⟩ := HFIN.out acc _ hfin
          have HST := Lib.hid hst
          have HVAL := Lib.hid hval
          have hE := exit48R (o := some ⟨s, acc, leaf 0 [] []⟩) (y := true) (x0 := vs s) (x1 := .slice A acc.length c) (x2 := .int .i64 0) (x3 := vs []) (x4 := vs []) (x5 := .slice none 0 0) hlt HRX8.out.at0 HRX8.out.st HRX8.out.rs
            (fun W hW => ⟨[vs s, .slice A acc.length c, .int .i64 0, vs [], vs [], .slice none 0 0], rfl, (hW (fun c => w.heap.size < c) (fun _ h => h) ⟨s, acc, leaf 0 [] []⟩ _ ⟨A, acc.length, c, 0, [], [], none, 0, 0, rfl, HRX8.out.own.read (by decide) (fun g hg => by have := HRX8.out.blk g hg; omega), leaf_V _ _ _ _ _⟩).mono (fun c hc _ => Nat.le_of_lt hc)⟩)
          have HE := Lib.hid hE
          clear hfin hst hval hE hb8
          go_wp2
          obtain ⟨⟨hE1, hE2, hE3⟩, hH⟩ := HE.out
          refine bodyPost_ret (resR hH _ true rfl rfl) rfl ?_
          exact ⟨_, hE1, hE2, by rw [HST.out]; exact hE3, HVAL.out, fun d h => by cases h⟩
        | true =>
          obtain ⟨L8, hr8, hb9, hr9⟩ := isR_true hb8
          have HRY : Hid (RX rb w s acc A c (.ok (hasS [124] L8).2) w8) := Lib.hid (by rw [← hr9]; exact HRX8.out)
          have hless := hasS_less hb9
          have hacc5 : acc.length ≤ 5000 := by have := HI3.out.2.2.1 L8 hr8; omega
          have HX : Hid (∀ x : Rf, (∀ L a' l, (Except.ok (hasS [124] L8).2 : Except Dg (List Tk)) = .ok L → refS L = .ok (a', l) → x = a') → RInv (acc ++ [x]) (stp refS (.ok (hasS [124] L8).2)) tt) := Lib.hid (fun x hx => by
            refine RInv.push (fun d h => by cases h) (fun L h => ?_) (fun L h => ?_) hacc5 hx
            · cases h
              have := HI3.out.2.1 L8 hr8
              rw [if_pos hb9] at this
              exact this
            · cases h
              have := HI3.out.2.2.1 L8 hr8
              omega)
          have HK8 : Hid (gk = L8.length + 1 ∧ (hasS [124] L8).2.length < L8.length) := Lib.hid ⟨by rw [HGK.out, hr8], hless⟩
          generalize hLL : (hasS [124] L8).2 = L9 at *
          clear hb8 hr8 hb9 hr9 hless hLL HRX8 HRX q0 q1 q2 q3 q4 q5 i0' i1 i2 i3 i4 i5 HGK
          have HRX := HRY
          clear HRY
          go_wp2_with fail
          go_region_law (first
            | (refine step_append_q rfl _ _ 46 rfl 81 i0 (.agg #[.string ByteArray.empty, .string ByteArray.empty]) 2 32 Tryd.underlying46 HI.out HZ0.out HY1.out HY2.out rfl (by decide) (.slice A acc.length c) acc.length css.flatten rfl HQ5.out ⟨w5.heap.size, 0, none⟩ 1 1 [vs x.ty, vs x.rel] rfl rfl (cell_two_new _ _ _ _) (by intro u hu; simp at hu; rcases hu with rfl | rfl <;> rfl) (by unfold maxLen; omega) (by omega) ?_
               intro v' w6 hq6 hg6 hb6
               obtain ⟨A', c', rfl⟩ := QRow.form hq6
               have H6 := Lib.hid (And.intro hq6 (And.intro hg6 hb6))
               obtain ⟨m0', m1', m2', m3', m4', m5', n0', n1', n2', n3', n4', n5'⟩ := six_of (HG5.out A' c' w6 hq6 hg6 hb6)
               clear hq6 hg6 hb6)
            | (go_simp; refine (ref_any _ (HRX.out.drew).st).mono ?_; rintro e5 w5 ⟨x, rfl, hA5, hS5, hv5⟩
               have hrx5 := (HRX.out.drew).call hA5 hS5
               obtain ⟨css, hc1, hc2, hc3⟩ := hrx5.own
               have HQ5 := Lib.hid (hc2.kept (w' := w5.alloc (.cells #[vs x.ty, vs x.rel] 81)) (fun g hg => alloc_old _ (hc2.block_lt hg)))
               have HG5 := Lib.hid (fun A' c' w6 hq6 hg6 hb6 => (hrx5.push (A' := A') (c' := c') (w6 := w6) (x := x) hc1 hc3 hq6 hg6 hb6).1)
               have HV5 := Lib.hid hv5
               have hvl := lt_of_heap hrx5.rv
               obtain ⟨m0, m1, m2, m3, m4, m5, n0, n1, n2, n3, n4, n5⟩ := six_of hrx5.rv
               have H5 := Lib.hid (And.intro hrx5 (And.intro hc1 hc3))
               clear hA5 hS5 hv5 hrx5 hc1 hc2 hc3))
          all_goals
            obtain ⟨hrx5, hc1, hc3⟩ := H5.out
            obtain ⟨hq6, hg6, hb6⟩ := H6.out
            obtain ⟨-, hrxW⟩ := hrx5.push hc1 hc3 hq6 hg6 hb6
            have HRXW := Lib.hid hrxW
            clear H5 H6 HQ5 HG5 hrx5 hc1 hc3 hq6 hg6 hb6 hrxW m0 m1 m2 m3 m4 m5 n0 n1 n2 n3 n4 n5 m0' m1' m2' m3' m4' m5' n0' n1' n2' n3' n4' n5' hvl
            have hinvW := HX.out x HV5.out
            have HIW := Lib.hid hinvW
            have hkk : (match stp refS (.ok L9) with | .error _ => 0 | .ok L => L.length + 1) < gk := by
              have := HK8.out
              cases hq : refS L9 with
              | error d => rw [stp_err hq]; show 0 < gk; omega
              | ok p =>
                obtain ⟨a, l⟩ := p
                have := less1_ref hq
                rw [stp_ok hq]; show l.length + 1 < gk; omega
            have HKK := Lib.hid hkk
            clear hinvW hkk
            go_wp2
            go_roundg (match stp refS (.ok L9) with | .error _ => 0 | .ok L => L.length + 1)
            case measure => exact HKK.out
            case rel => exact ⟨acc ++ [x], A', c', _, HRXW.out, HIW, rfl⟩
  | false =>
    go_wp2_with fail
    refine (is_any _ HS1.out _ sDefine rfl (by simp) (by simp)).mono ?_
    rintro e w2 ⟨rfl, hS2, hA2⟩
    have hrs2 := hA2.kept HRS1.out (by omega)
    have hrv2 := hA2.kept HRV1.out (by omega)
    have HA2 := Lib.hid (HA1.out.trans hA2)
    have HRS2 := Lib.hid hrs2
    have HRV2 := Lib.hid hrv2
    have HS2 := Lib.hid hS2
    clear hS2 hA2 hrs1 hrv1
    cases hb2 : (isR sDefine (isR sRelation r).2).1 with
    | false =>
      obtain ⟨hst, hval⟩ := rel_no hb1 hb2
      have HST := Lib.hid hst
      have HVAL := Lib.hid hval
      have hE := exit48R (o := none) (y := false) (x0 := vs []) (x1 := .slice none 0 0) (x2 := .int .i64 0) (x3 := vs []) (x4 := vs []) (x5 := .slice none 0 0) hlt HA2.out HS2.out HRS2.out (fun W hW => rfl)
      have HE := Lib.hid hE
      obtain ⟨k0, k1, k2, k3, k4, k5, j0, j1, j2, j3, j4, j5⟩ := six_of hrv2
      obtain ⟨q0, q1, q2, q3, q4, q5, i0', i1, i2, i3, i4, i5⟩ := six_of hrs2
      clear hst hval hE hb1 hb2 hrs2 hrv2
      go_wp2
      obtain ⟨⟨hE1, hE2, hE3⟩, hH⟩ := HE.out
      refine bodyPost_ret (resR (s := []) (a := []) (b := []) hH _ false rfl rfl) rfl ?_
      exact ⟨_, hE1, hE2, by rw [HST.out]; exact hE3, HVAL.out, fun d h => rfl⟩
    | true =>
      obtain ⟨L2, hr2, hb3, hr3⟩ := isR_true hb2
      cases r with
      | error d => cases hb2
      | ok L =>
      have hL1 : (hasS sRelation L).1 = false := hb1
      have hL2 : L2 = L := by
        have h9 : (Except.ok (hasS sRelation L).2 : Except Dg (List Tk)) = .ok L2 := hr2
        cases h9
        exact hasS_no hL1
      subst hL2
      have HRD : Hid (∀ s x, _ → _ → _) := Lib.hid (fun s x => rel_def (s := s) (x := x) hL1 hb3)
      have HS3 : Hid (St w2 rb 0 (.ok (hasS sDefine L2).2)) := Lib.hid (by rw [← hr3]; exact HS2.out)
      clear hr2 hb3 hr3 hb1 hb2 hL1 HS2 hrs2 hrv2
      go_wp2_with fail
      refine (name_any _ HS3.out).mono ?_
      rintro e w3 ⟨s, rfl, hA3, hS3, hv3⟩
      have hrs3 := hA3.kept HRS2.out (by omega)
      have hrv3 := hA3.kept HRV2.out (by omega)
      have HV3 := Lib.hid hv3
      have hA03 := (HA2.out.trans hA3).set_new (b := w.heap.size + 1) (by omega) 0 (vs s)
      have hS03 : St (w3.setCell ⟨w.heap.size + 1, 0, none⟩ (vs s)) rb 0 _ := hS3.turn (Turn.setCell (fp := fun b => b = w.heap.size + 1) w3 ⟨w.heap.size + 1, 0, none⟩ (vs s) rfl) (fun b hb e => by omega)
      have hrs03 := (heap_setCell_other w3 ⟨w.heap.size + 1, 0, none⟩ w.heap.size (vs s) (by show w.heap.size ≠ w.heap.size + 1; omega)).trans hrs3
      have hrv03 := heap_setCell_same w3 (w.heap.size + 1) 0 _ _ (vs s) hrv3
      have HA3 := Lib.hid hA03
      have HS4 := Lib.hid hS03
      have HRS3 := Lib.hid hrs03
      have HRV3 := Lib.hid hrv03
      obtain ⟨x0, -, -, -, -, -, f0, -⟩ := six_of hrv3
      clear hA3 hS3 hv3 hA03 hS03 hrs03 hrv03 hrs3 hrv3
      go_wp2_with fail
      refine (must_any _ HS4.out _ [58] rfl (by simp) (by simp)).mono ?_
      rintro e w4 ⟨u4, rfl, hA4, hS4, -⟩
      have HA4 := Lib.hid (HA3.out.trans hA4)
      have HS5 := Lib.hid hS4
      have HRS4 := Lib.hid (hA4.kept HRS3.out (by omega))
      have HRV4 := Lib.hid (hA4.kept HRV3.out (by omega))
      clear hA4 hS4 x0 f0
      go_wp2_with fail
      refine (expr_any _ HS5.out).mono ?_
      rintro e w5 ⟨x, ⟨v, rfl, hV5⟩, hA5, hS5, hv5⟩
      obtain ⟨kx, ax, bx, Ax, nx, cx, rfl⟩ := hV5.form
      have hrs5 := hA5.kept HRS4.out (by omega)
      have hrv5 := hA5.kept HRV4.out (by omega)
      have hwl : w.heap.size + 1 < w4.heap.size := lt_of_heap HRV4.out
      obtain ⟨hst, hval⟩ := HRD.out s x HV3.out hv5
      have HST := Lib.hid hst
      have HVAL := Lib.hid hval
      have hn4 : ∀ c, w4.heap.size ≤ c → c ≠ w.heap.size + 1 := fun c hc => by omega
      have hV6 := ((((hV5.set hn4 2 (.int .i64 kx)).set hn4 3 (vs ax)).set hn4 4 (vs bx)).set hn4 5 (.slice Ax nx cx)).mono (F' := fun c => w.heap.size < c) (fun c hc _ => by omega)
      have hT6 : Turn (fun b => b = w.heap.size + 1) w5 ((((w5.setCell ⟨w.heap.size + 1, 2, none⟩ (.int .i64 kx)).setCell ⟨w.heap.size + 1, 3, none⟩ (vs ax)).setCell ⟨w.heap.size + 1, 4, none⟩ (vs bx)).setCell ⟨w.heap.size + 1, 5, none⟩ (.slice Ax nx cx)) :=
        turn_then (turn_then (turn_then (Turn.setCell _ _ _ rfl) (Turn.setCell _ _ _ rfl)) (Turn.setCell _ _ _ rfl)) (Turn.setCell _ _ _ rfl)
      have hA6 := Turn.trans (HA4.out.trans hA5) hT6 (fun k hk hlt => by omega)
      have hE := exit48R (o := some ⟨s, [], x⟩) (y := true) (x0 := vs s) (x1 := .slice none 0 0) (x2 := .int .i64 kx) (x3 := vs ax) (x4 := vs bx) (x5 := .slice Ax nx cx) hlt hA6 (hS5.turn hT6 (fun b hb e => by omega)) ((hT6.block _ (lt_of_heap hrs5) (by omega)).trans hrs5)
        (fun W hW => ⟨[vs s, .slice none 0 0, .int .i64 kx, vs ax, vs bx, .slice Ax nx cx], rfl, (hW (fun c => w.heap.size < c) (fun _ h => h) ⟨s, [], x⟩ _ ⟨none, 0, 0, kx, ax, bx, Ax, nx, cx, rfl, ⟨rfl, by omega, fun k x hx => by simp at hx⟩, hV6⟩).mono (fun c hc _ => Nat.le_of_lt hc)⟩)
      have HE := Lib.hid hE
      have hne1 : w.heap.size ≠ w.heap.size + 1 := by omega
      obtain ⟨k0, k1, k2, k3, k4, k5, j0, j1, j2, j3, j4, j5⟩ := six_of hrv5
      obtain ⟨q0, q1, q2, q3, q4, q5, i0', i1, i2, i3, i4, i5⟩ := six_of hrs5
      clear hA5 hS5 hV5 hv5 hst hval hV6 hT6 hA6 hE hrs5 hrv5 hn4
      go_wp2
      obtain ⟨⟨hE1, hE2, hE3⟩, hH⟩ := HE.out
      refine bodyPost_ret (resR hH _ true rfl rfl) rfl ?_
      exact ⟨_, hE1, hE2, by rw [HST.out]; exact hE3, HVAL.out, fun d h => by cases h⟩
end Go.Proofs.YtgmlcnikphbiiaaDoor.L

/-
  The reader of JSON: one name and its value (object's closure).
-/
import Derived.Test.YtminegmjklehnaaGreatDoorJsonI
namespace Go.Proofs.YtminegmjklehnaaGreatDoor.J
open Go.RowKit Go.Proofs.YtminegmjklehnaaGreatDoor.B
open Go.Proofs.YtminegmjklehnaaGreatDoor.M hiding Bs
open Go.Proofs.YtminegmjklehnaaGreatDoor.C (QRow Turn)
set_option linter.unusedVariables false
set_option linter.unusedSimpArgs false

theorem infoStr : (Tryz.prog.info? 9).map (fun i => (i.zero, i.size, i.bytes)) = some (some (.string ⟨#[]⟩), 1, 16) := by kernel_rfl
set_option maxRecDepth 100000 in
set_option maxHeartbeats 8000000 in
theorem objOne_calls {p : P Js} {deep : Int} (hv : VSpec p deep) {B0 rb pb jb : Nat} {names : List Bs} {kids : List Js} {A : Option Addr} {ac : Nat} {B : Option Addr} {bc : Nat} {w : World} {L : Bs} (h : OS B0 rb pb jb names kids A ac B bc w) (hR : RB w rb L deep) (hT : Tabs rb w) (hl : names.length ≤ 1000000000) :
    Calls Tryz.prog 73 #[.pointer (some ⟨pb, 0, none⟩), .pointer (some ⟨jb, 0, none⟩)] w (OneEnds B0 rb deep w (OSt B0 rb pb jb) (oneO p (names, kids) L)) := by
  obtain ⟨i0, hi, hz0, hz1, hz2⟩ := info_parts infoJson
  have HI := Lib.hid hi; clear hi
  have HZ0 := Lib.hid hz0; clear hz0
  have HZ1 := Lib.hid hz1; clear hz1
  have HZ2 := Lib.hid hz2; clear hz2
  obtain ⟨s0, hi, hz0, hz1, hz2⟩ := info_parts infoStr
  have HSI := Lib.hid hi; clear hi
  have HSZ0 := Lib.hid hz0; clear hz0
  have HSZ1 := Lib.hid hz1; clear hz1
  have HSZ2 := Lib.hid hz2; clear hz2
  have HV := Lib.hid hv
  have H0 := Lib.hid h
  have HT := Lib.hid hT
  have HTX := Lib.hid (text_calls hR hT)
  have b0 := cells_of h.box 0 _ rfl
  clear hv h hR hT
  go_enter Tryz.func73, Tryz.ntmps73
  go_wp2_with fail
  refine HTX.out.mono ?_
  rintro e w1 ⟨hA1, hM⟩
  have HE0 := Lib.hid (show oneO p (names, kids) L = match textP L with
    | .error e => .error e
    | .ok (s, M) => if names.contains s then .error 7 else pairTail p s (names, kids) M from rfl)
  cases ht : textP L with
  | error d =>
    rw [ht] at hM
    have hM : e = .panicked (erChain d) := hM
    subst hM
    refine ⟨rfl, turn_at hA1, ?_⟩
    rw [HE0.out, ht]
  | ok q =>
    obtain ⟨s, M⟩ := q
    rw [ht] at hM HE0
    have hM : e = .returned (vs s) ∧ RB w1 rb M deep := hM
    obtain ⟨rfl, hR1⟩ := hM
    have h1 := H0.out.at hA1
    have H1 := Lib.hid h1
    have HR1 := Lib.hid hR1
    have HA1 := Lib.hid hA1
    obtain ⟨j0, j1, j2, j3, j4, f0, f1, f2, f3, f4⟩ := five_of h1.jc
    have c0 := cells_of h1.box 0 _ rfl
    dsimp only at HE0
    clear h1 hR1 hA1 ht b0 HTX
    go_wp2_with fail
    refine (contains_calls H1.out.rowA s).mono ?_
    rintro e w1' ⟨rfl, rfl⟩
    cases hc : names.contains s with
    | true =>
      go_wp2_with fail
      refine (fails_calls 7 _).mono ?_
      rintro e w2 ⟨rfl, rfl⟩
      refine ⟨rfl, turn_at HA1.out, ?_⟩
      rw [HE0.out, hc]
      rfl
    | false =>
      have HE1 := Lib.hid (show oneO p (names, kids) L = pairTail p s (names, kids) M by rw [HE0.out, hc]; rfl)
      clear HE0
      have HC := Lib.hid hc
      clear hc
      go_wp2_with fail
      refine (space_calls HR1.out).mono ?_
      rintro e w2 ⟨rfl, hR2, hA2⟩
      have HR2 := Lib.hid hR2
      have HA2 := Lib.hid (At.trans HA1.out hA2)
      have c2 := cells_of (H0.out.at HA2.out).box 0 _ rfl
      clear hR2 hA2 j0 j1 j2 j3 j4 f0 f1 f2 f3 f4 c0 HR1
      go_wp2_with fail
      refine (take_calls HR2.out ⟨#[58]⟩ [58] rfl).mono ?_
      rintro e w3 ⟨rfl, hR3, hA3⟩
      cases ht : (takeB [58] (sp M)).1 with
      | false =>
        have HA3 := Lib.hid (At.trans HA2.out hA3)
        go_wp2_with fail
        refine (must_false _).mono ?_
        rintro e w4 ⟨rfl, rfl⟩
        refine ⟨rfl, turn_at HA3.out, ?_⟩
        rw [HE1.out, pair_err ht]
      | true =>
        obtain ⟨K, hK1, hK2⟩ := takeB_true ht
        rw [hK2] at hR3
        have HR3 := Lib.hid hR3
        have HA3 := Lib.hid (At.trans HA2.out hA3)
        have HE3 := Lib.hid (HE1.out.trans (pair_ok (p := p) (s := s) (acc := (names, kids)) hK1))
        have c3 := cells_of (H0.out.at HA3.out).box 0 _ rfl
        clear hR3 hA3 ht hK1 hK2 c2 HE1 HR2
        go_wp2_with fail
        refine (must_true _).mono ?_
        rintro e w4 ⟨rfl, rfl⟩
        go_wp2_with fail
        refine (space_calls HR3.out).mono ?_
        rintro e w5 ⟨rfl, hR5, hA5⟩
        have HR5 := Lib.hid hR5
        have HA5 := Lib.hid (At.trans HA3.out hA5)
        have c5 := cells_of (H0.out.at HA5.out).box 0 _ rfl
        clear hR5 hA5 c3 HR3
        go_wp2_with fail
        refine (HV.out _ _ _ HR5.out (HT.out.at HA5.out)).mono ?_
        intro e6 w6 h6
        rcases ends_val h6 with ⟨d, hp, rfl, hA6⟩ | ⟨x, K2, xk, xn, xt, xA, xan, xac, xB, xbn, xbc, hp, rfl, hA6, hx6, hR6⟩
        · refine ⟨rfl, turn_at (At.trans HA5.out hA6), ?_⟩
          rw [HE3.out, hp]
        have HA6 := Lib.hid (At.trans HA5.out hA6)
        have HE6 := Lib.hid (show oneO p (names, kids) L = .ok ((names ++ [s], kids ++ [x]), K2) by rw [HE3.out, hp])
        have hsz := HA5.out.size
        have hsz6 := hA6.size
        have c6 := cells_of (H0.out.at HA6.out).box 0 _ rfl
        clear h6 hp hA6 c5
        go_wp2_with fail
        have HB := Lib.hid (heap_alloc_new w6 (.cells #[.int .i64 xk, .int .i64 xn, vs xt, .slice xA xan xac, .slice xB xbn xbc] 27))
        have HAV := Lib.hid (At.trans HA6.out (Turn.alloc w6 (.cells #[.int .i64 xk, .int .i64 xn, vs xt, .slice xA xan xac, .slice xB xbn xbc] 27)))
        have HXV := Lib.hid (hx6.turn (Turn.alloc (fp := fun _ => False) w6 (.cells #[.int .i64 xk, .int .i64 xn, vs xt, .slice xA xan xac, .slice xB xbn xbc] 27)) (F' := fun b => w5.heap.size ≤ b) (fun b hb _ => ⟨fun h => h, hb⟩))
        have HRV := Lib.hid (hR6.kept (w' := w6.alloc (.cells #[.int .i64 xk, .int .i64 xn, vs xt, .slice xA xan xac, .slice xB xbn xbc] 27)) (alloc_old _ hR6.lt))
        have hsv : w.heap.size ≤ w6.heap.size := Nat.le_trans hsz hsz6
        have hvl : w6.heap.size < (w6.alloc (.cells #[.int .i64 xk, .int .i64 xn, vs xt, .slice xA xan xac, .slice xB xbn xbc] 27)).heap.size := lt_of_heap HB.out
        clear hx6 hR6 HA6 c6 HR5 HA5 HA2 HE3 HC
        generalize (w6.alloc (.cells #[.int .i64 xk, .int .i64 xn, vs xt, .slice xA xan xac, .slice xB xbn xbc] 27)) = V at *
        generalize w6.heap.size = vb at *
        have hosv := H0.out.at HAV.out
        have hlen := hosv.len
        have hjc := hosv.jc
        rw [hlen] at hjc
        have HJC := Lib.hid hjc
        obtain ⟨css, hc1, hc2, hc3⟩ := hosv.rowA
        obtain ⟨dss, hd1, hd2, hd3⟩ := hosv.rowB
        have hgA : ∀ g, own A names.length ac = some g → g < w.heap.size ∧ g ≠ jb := fun g hg => ⟨H0.out.rowA.block_lt hg, (hosv.gA g hg).2.2⟩
        have hgB : ∀ g, own B names.length bc = some g → g < w.heap.size ∧ g ≠ jb := fun g hg => ⟨by rw [← hlen] at hg; exact H0.out.rowB.block_lt hg, by rw [← hlen] at hg; exact (hosv.gB g hg).2.2⟩
        have hgAB : ∀ g, own A names.length ac = some g → own B names.length bc ≠ some g := fun g hg hb => hosv.gAB g hg (by rw [hlen]; exact hb)
        have hd2' := hd2
        rw [hlen] at hd2'
        have HP := Lib.hid (Pair.mk HE6.out HAV.out hsz H0.out hosv HXV.out HRV.out hc1 hc3 hd1 hd3)
        have HQN := Lib.hid (fun X (hT : Turn (fun _ => False) V X) => qturned hc2 hT (fun _ _ h => h))
        have HQK := Lib.hid (fun X (hT : Turn (fun k => some k = own A names.length ac) V X) => qturned hd2' hT (fun g hg e => hgAB g e.symm hg))
        have hvw : w.heap.size ≤ V.heap.size := Nat.le_trans hsv (Nat.le_of_lt hvl)
        have HNW := Lib.hid (fun (cs : List Value) (t : TypeId) (Y X : World) (S : Nat) (hS : Y.heap.size = S) (hy : V.heap.size ≤ Y.heap.size) (hT : Turn (fun k => some k = own A names.length ac) (Y.alloc (.cells cs.toArray t)) X) => news_kept (w := V) (fun g hg => by have := hgA g hg; omega) hS hy hT)
        have HC7 := Lib.hid (fun W (hT : Turn (fun k => some k = own A names.length ac) V W) => show W.cell? ⟨jb, 4, none⟩ = some (.slice B names.length bc) ∧ W.cell? ⟨vb, 0, none⟩ = some (.int .i64 xk) ∧ W.cell? ⟨vb, 1, none⟩ = some (.int .i64 xn) ∧ W.cell? ⟨vb, 2, none⟩ = some (vs xt) ∧ W.cell? ⟨vb, 3, none⟩ = some (.slice xA xan xac) ∧ W.cell? ⟨vb, 4, none⟩ = some (.slice xB xbn xbc) by
          have h1 := (hT.block jb (lt_of_heap hjc) (fun e => (hgA _ e.symm).2 rfl)).trans hjc
          have h2 := (hT.block vb hvl (fun e => by have := (hgA _ e.symm).1; omega)).trans HB.out
          exact ⟨cells_of h1 4 _ rfl, cells_of h2 0 _ rfl, cells_of h2 1 _ rfl, cells_of h2 2 _ rfl, cells_of h2 3 _ rfl, cells_of h2 4 _ rfl⟩)
        have HC8 := Lib.hid (fun X W (h1 : Turn (fun k => some k = own A names.length ac) V X) (h2 : Turn (fun k => some k = own B names.length bc) X W) => show W.heap[jb]? = _ from
          (h2.block jb (Nat.lt_of_lt_of_le (lt_of_heap hjc) h1.size) (fun e => (hgB _ e.symm).2 rfl)).trans ((h1.block jb (lt_of_heap hjc) (fun e => (hgA _ e.symm).2 rfl)).trans hjc))
        have HS1 : Hid (∀ u ∈ [vs s], u.oneCell' = true) := Lib.hid (fun u hu => by rw [List.mem_singleton.1 hu]; rfl)
        have HS5 : Hid (∀ u ∈ [Value.int .i64 xk, .int .i64 xn, vs xt, .slice xA xan xac, .slice xB xbn xbc], u.oneCell' = true) := Lib.hid (fun u hu => by
          simp at hu
          rcases hu with rfl | rfl | rfl | rfl | rfl <;> rfl)
        obtain ⟨-, -, -, j3, j4, -⟩ := five_of hjc
        have v0 := cells_of HB.out 0 _ rfl
        have v1 := cells_of HB.out 1 _ rfl
        have v2 := cells_of HB.out 2 _ rfl
        have v3 := cells_of HB.out 3 _ rfl
        have v4 := cells_of HB.out 4 _ rfl
        have HGA0 := Lib.hid (show (∀ g, own A names.length ac = some g → g < V.heap.size) ∧ (∀ g, own B names.length bc = some g → g < V.heap.size) from ⟨fun g hg => by have := hgA g hg; omega, fun g hg => by have := hgB g hg; omega⟩)
        have HGAB := Lib.hid hgAB
        clear hosv hjc hc1 hc2 hc3 hd1 hd2 hd2' hd3 hgA hgB hgAB hsz hsz6 hsv hvl hvw
        have k3 := cellAlloc j3 (.cells #[.int .i64 xk, .int .i64 xn, vs xt, .slice xA xan xac, .slice xB xbn xbc] 27)
        have k4 := cellAlloc j4 (.cells #[.int .i64 xk, .int .i64 xn, vs xt, .slice xA xan xac, .slice xB xbn xbc] 27)
        have n3 := cellAlloc j3 (.cells #[vs s] 9)
        have n3' := cellAlloc n3 (.cells #[.int .i64 xk, .int .i64 xn, vs xt, .slice xA xan xac, .slice xB xbn xbc] 27)
        have k3' := cellAlloc k3 (.cells #[vs s] 9)
        have n4 := cellAlloc j4 (.cells #[vs s] 9)
        have n4' := cellAlloc n4 (.cells #[.int .i64 xk, .int .i64 xn, vs xt, .slice xA xan xac, .slice xB xbn xbc] 27)
        have k4' := cellAlloc k4 (.cells #[vs s] 9)
        have x0 := cellAlloc v0 (.cells #[vs s] 9)
        have x1 := cellAlloc v1 (.cells #[vs s] 9)
        have x2 := cellAlloc v2 (.cells #[vs s] 9)
        have x3 := cellAlloc v3 (.cells #[vs s] 9)
        have x4 := cellAlloc v4 (.cells #[vs s] 9)
        go_region_law (first
    | (refine step_append_q rfl _ _ 24 rfl 9 s0 (.string ⟨#[]⟩) 1 16 Tryz.underlying24 HSI.out HSZ0.out HSZ1.out HSZ2.out rfl (by decide) (.slice A names.length ac) names.length css.flatten rfl (HQN.out _ (tdrew (Turn.alloc _ _))) ⟨V.heap.size, 0, none⟩ 1 1 [vs s] rfl rfl (HNW.out _ _ V _ _ rfl (Nat.le_refl _) (tdrew (Turn.refl _ _))) HS1.out (by unfold maxLen; omega) (by omega) ?_
       intro v' w7 hq7 hg7 hb7
       have HGA := Lib.hid (GA.mk (grown_turn hg7) hq7 hb7)
       have hf7 := QRow.form hq7
       obtain ⟨A', ac', rfl⟩ := hf7
       have HT7 := Lib.hid (turn_then (tdrew (Turn.alloc _ _)) HGA.out.turn)
       have hc7 := HC7.out _ HT7.out
       obtain ⟨y4, u0, u1, u2, u3, u4⟩ := hc7
       have y4' := cellAlloc y4 (.cells #[.int .i64 xk, .int .i64 xn, vs xt, .slice xA xan xac, .slice xB xbn xbc] 27)
       clear hq7 hg7 hb7)
    | (refine step_append_q rfl _ _ 24 rfl 9 s0 (.string ⟨#[]⟩) 1 16 Tryz.underlying24 HSI.out HSZ0.out HSZ1.out HSZ2.out rfl (by decide) (.slice A names.length ac) names.length css.flatten rfl (HQN.out _ (tdrew (turn_then (Turn.alloc _ _) (Turn.alloc _ _)))) ⟨V.heap.size, 0, none⟩ 1 1 [vs s] rfl rfl (HNW.out _ _ V _ _ rfl (Nat.le_refl _) (tdrew (Turn.alloc _ _))) HS1.out (by unfold maxLen; omega) (by omega) ?_
       intro v' w7 hq7 hg7 hb7
       have HGA := Lib.hid (GA.mk (grown_turn hg7) hq7 hb7)
       have hf7 := QRow.form hq7
       obtain ⟨A', ac', rfl⟩ := hf7
       have HT7 := Lib.hid (turn_then (tdrew (turn_then (Turn.alloc _ _) (Turn.alloc _ _))) HGA.out.turn)
       have hc7 := HC7.out _ HT7.out
       obtain ⟨y4, u0, u1, u2, u3, u4⟩ := hc7
       have y4' := cellAlloc y4 (.cells #[.int .i64 xk, .int .i64 xn, vs xt, .slice xA xan xac, .slice xB xbn xbc] 27)
       clear hq7 hg7 hb7)
    | (refine step_append_q rfl _ _ 24 rfl 9 s0 (.string ⟨#[]⟩) 1 16 Tryz.underlying24 HSI.out HSZ0.out HSZ1.out HSZ2.out rfl (by decide) (.slice A names.length ac) names.length css.flatten rfl (HQN.out _ (tdrew (turn_then (Turn.alloc _ _) (Turn.alloc _ _)))) ⟨V.heap.size + 1, 0, none⟩ 1 1 [vs s] rfl rfl (HNW.out _ _ (V.alloc (.cells #[.int .i64 xk, .int .i64 xn, vs xt, .slice xA xan xac, .slice xB xbn xbc] 27)) _ _ (asz _ _) (le_alloc _ _) (tdrew (Turn.refl _ _))) HS1.out (by unfold maxLen; omega) (by omega) ?_
       intro v' w7 hq7 hg7 hb7
       have HGA := Lib.hid (GA.mk (grown_turn hg7) hq7 hb7)
       have hf7 := QRow.form hq7
       obtain ⟨A', ac', rfl⟩ := hf7
       have HT7 := Lib.hid (turn_then (tdrew (turn_then (Turn.alloc _ _) (Turn.alloc _ _))) HGA.out.turn)
       have hc7 := HC7.out _ HT7.out
       obtain ⟨y4, u0, u1, u2, u3, u4⟩ := hc7
       have y4' := cellAlloc y4 (.cells #[.int .i64 xk, .int .i64 xn, vs xt, .slice xA xan xac, .slice xB xbn xbc] 27)
       clear hq7 hg7 hb7)
    | (refine step_append_q rfl _ _ 25 rfl 27 i0 (.agg #[.int .i64 0, .int .i64 0, .string ⟨#[]⟩, .slice none 0 0, .slice none 0 0]) 5 80 Tryz.underlying25 HI.out HZ0.out HZ1.out HZ2.out rfl (by decide) (.slice B names.length bc) names.length dss.flatten rfl (HQK.out _ (turn_then HT7.out (Turn.alloc _ _))) ⟨w7.heap.size, 0, none⟩ 1 1 [.int .i64 xk, .int .i64 xn, vs xt, .slice xA xan xac, .slice xB xbn xbc] rfl rfl (HNW.out _ _ w7 _ _ rfl HT7.out.size (Turn.refl _ _)) HS5.out (by unfold maxLen; omega) (by omega) ?_
       intro v' w8 hq8 hg8 hb8
       have HGB := Lib.hid (GA.mk (grown_turn hg8) hq8 hb8)
       have hf8 := QRow.form hq8
       obtain ⟨B', bc', rfl⟩ := hf8
       have H8 := Lib.hid (HC8.out _ _ (turn_then HT7.out (Turn.alloc _ _)) HGB.out.turn)
       obtain ⟨m0, m1, m2, m3, m4, q0, q1, q2, q3, q4⟩ := five_of H8.out
       clear hq8 hg8 hb8)
    | (refine step_append_q rfl _ _ 25 rfl 27 i0 (.agg #[.int .i64 0, .int .i64 0, .string ⟨#[]⟩, .slice none 0 0, .slice none 0 0]) 5 80 Tryz.underlying25 HI.out HZ0.out HZ1.out HZ2.out rfl (by decide) (.slice B names.length bc) names.length dss.flatten rfl (HQK.out _ HT7.out) ⟨V.heap.size + 1, 0, none⟩ 1 1 [.int .i64 xk, .int .i64 xn, vs xt, .slice xA xan xac, .slice xB xbn xbc] rfl rfl (HNW.out _ _ (V.alloc (.cells #[vs s] 9)) _ _ (asz _ _) (le_alloc _ _) (turn_then (tdrew (Turn.refl _ _)) HGA.out.turn)) HS5.out (by unfold maxLen; omega) (by omega) ?_
       intro v' w8 hq8 hg8 hb8
       have HGB := Lib.hid (GA.mk (grown_turn hg8) hq8 hb8)
       have hf8 := QRow.form hq8
       obtain ⟨B', bc', rfl⟩ := hf8
       have H8 := Lib.hid (HC8.out _ _ HT7.out HGB.out.turn)
       obtain ⟨m0, m1, m2, m3, m4, q0, q1, q2, q3, q4⟩ := five_of H8.out
       clear hq8 hg8 hb8)
    | (refine step_append_q rfl _ _ 25 rfl 27 i0 (.agg #[.int .i64 0, .int .i64 0, .string ⟨#[]⟩, .slice none 0 0, .slice none 0 0]) 5 80 Tryz.underlying25 HI.out HZ0.out HZ1.out HZ2.out rfl (by decide) (.slice B names.length bc) names.length dss.flatten rfl (HQK.out _ HT7.out) ⟨V.heap.size, 0, none⟩ 1 1 [.int .i64 xk, .int .i64 xn, vs xt, .slice xA xan xac, .slice xB xbn xbc] rfl rfl (HNW.out _ _ V _ _ rfl (Nat.le_refl _) (turn_then (tdrew (Turn.alloc _ _)) HGA.out.turn)) HS5.out (by unfold maxLen; omega) (by omega) ?_
       intro v' w8 hq8 hg8 hb8
       have HGB := Lib.hid (GA.mk (grown_turn hg8) hq8 hb8)
       have hf8 := QRow.form hq8
       obtain ⟨B', bc', rfl⟩ := hf8
       have H8 := Lib.hid (HC8.out _ _ HT7.out HGB.out.turn)
       obtain ⟨m0, m1, m2, m3, m4, q0, q1, q2, q3, q4⟩ := five_of H8.out
       clear hq8 hg8 hb8))
        all_goals
          refine bodyPost_end (results_none rfl _ _ _) rfl ?_
          first
            | with_reducible exact OS.fin HP.out rfl rfl (two_AB HGA0.out.1 HGA0.out.2 HGAB.out (tdrew (Turn.alloc _ _)) HGA.out (Turn.alloc _ _) HGB.out) (turn_then (Turn.setCell _ _ _ rfl) (Turn.setCell _ _ _ rfl)) (ink_NK H8.out)
            | with_reducible exact OS.fin HP.out rfl rfl (two_AB HGA0.out.1 HGA0.out.2 HGAB.out (tdrew (turn_then (Turn.alloc _ _) (Turn.alloc _ _))) HGA.out (Turn.refl _ _) HGB.out) (turn_then (Turn.setCell _ _ _ rfl) (Turn.setCell _ _ _ rfl)) (ink_NK H8.out)
end Go.Proofs.YtminegmjklehnaaGreatDoor.J

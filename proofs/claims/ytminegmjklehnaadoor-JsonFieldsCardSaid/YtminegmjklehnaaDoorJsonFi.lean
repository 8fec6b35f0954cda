/-
  Field: Index, and what an object has under a name.
-/
import Derived.Test.YtminegmjklehnaaDoorJsonSa
namespace Go.Proofs.YtminegmjklehnaaDoor.J
open Go.RowKit Go.Proofs.YtminegmjklehnaaDoor.B
open Go.Proofs.YtminegmjklehnaaDoor.M hiding Bs
open Go.Proofs.YtminegmjklehnaaDoor.C (QRow Turn)
set_option linter.unusedVariables false
set_option linter.unusedSimpArgs false

/-- where a name stands first; so many as there are: nowhere. -/
def at1 (s : Bs) : List Bs → Nat
  | [] => 0
  | x :: l => if s == x then 0 else at1 s l + 1
theorem at1_le (s : Bs) : ∀ l : List Bs, at1 s l ≤ l.length
  | [] => Nat.le_refl _
  | x :: l => by
    have := at1_le s l
    rw [at1, List.length_cons]
    split <;> omega
theorem at1_has {s : Bs} : ∀ {l : List Bs} {j : Nat} {x : Bs}, l[j]? = some x → (l.take j).contains s = false → (s == x) = true → at1 s l = j
  | [], j, x, h, _, _ => by simp at h
  | y :: l, 0, x, h, _, he => by
    simp at h
    subst h
    rw [at1, if_pos he]
  | y :: l, j + 1, x, h, hc, he => by
    rw [List.take_succ_cons] at hc
    have h1 : (s == y) = false := by
      cases hb : s == y
      · rfl
      · rw [eq_of_beq hb] at hc; simp at hc
    rw [at1, h1]
    simp only [Bool.false_eq_true, if_false]
    rw [at1_has (l := l) (j := j) (by simpa using h) (by simp at hc ⊢; exact hc.2) he]
theorem at1_none {s : Bs} : ∀ {l : List Bs}, l.contains s = false → at1 s l = l.length
  | [], _ => rfl
  | y :: l, h => by
    have h1 : (s == y) = false := by
      cases hb : s == y
      · rfl
      · rw [eq_of_beq hb] at h; simp at h
    rw [at1, h1]
    simp only [Bool.false_eq_true, if_false]
    rw [at1_none (l := l) (by simp at h ⊢; exact h.2), List.length_cons]
def atI (s : Bs) (l : List Bs) : Int := if at1 s l < l.length then (at1 s l : Int) else -1
def IxIs (w : World) (r : Int) (e : Ending) (w' : World) : Prop := e = .returned (.int .i64 r) ∧ Below w.heap.size w w'
set_option maxRecDepth 100000 in
set_option maxHeartbeats 4000000 in
theorem indexN_calls {w : World} {F : Nat → Prop} {names : List Bs} {A : Option Addr} {n c : Nat} (h : SlV w F 1 StrR names A n) (s : Bs) :
    Calls Tryd.prog 27 #[.slice A n c, vs s] w (IxIs w (atI s names)) := by
  have hnl := h.2.1
  have S := Lib.hid h
  have HL := Lib.hid h.1
  clear h
  go_enter Tryd.func27, Tryd.ntmps27
  go_wp2_with fail
  go_loopw [5, 8] (fun v5 v8 wr => ∃ j : Nat, j ≤ n ∧ v8 = .int .i64 j ∧ Hid ((names.take j).contains s = false) ∧ Hid (Below w.heap.size w wr)) (fun _ v8 _ => n - (intOf v8).toNat)
  case atStart => exact ⟨0, Nat.zero_le _, rfl, Lib.hid rfl, Lib.hid (Below.refl _ _)⟩
  case round =>
    obtain ⟨j, hjn, rfl, HALL, HB⟩ := hrel
    by_cases hj : j < n
    · obtain ⟨x, hx⟩ : ∃ x, names[j]? = some x := ⟨names[j]'(by rw [HL.out]; exact hj), List.getElem?_eq_getElem _⟩
      obtain ⟨ad, p, rfl, hp, -, d0⟩ := str_cell (S.out.below (by decide) HB.out (fun _ _ h => h)) hx
      have HX := Lib.hid hx
      clear hx
      cases he : (s == x) with
      | true =>
        have HM := Lib.hid (show atI s names = (j : Int) by
          unfold atI
          rw [at1_has HX.out HALL.out he, if_pos (by rw [HL.out]; exact hj)])
        go_wp2
        go_ret
        exact ⟨by rw [HM.out]; rfl, HB.out⟩
      | false =>
        have HST := Lib.hid (contains_step HX.out HALL.out he)
        go_wp2
        exact ⟨⟨j + 1, by omega, by go_num, HST, HB⟩, by simp [intOf]; omega⟩
    · have hjn' : j = n := by omega
      subst hjn'
      have HM := Lib.hid (show atI s names = -1 by
        have := HALL.out
        rw [List.take_of_length_le (by rw [HL.out]; exact Nat.le_refl _)] at this
        unfold atI
        rw [at1_none this, if_neg (by omega)])
      go_wp2
      go_ret
      exact ⟨by rw [HM.out]; rfl, HB.out⟩
/-- what an object has under a name. -/
def fieldJ (s : Bs) : Js → Option Js
  | .mk k n t names nk kid => if h : k = 5 ∧ names.length = nk ∧ at1 s names < nk then some (kid ⟨at1 s names, h.2.2⟩) else none
def FRet (w : World) (F : Nat → Prop) (r : Option Js) (e : Ending) (w' : World) : Prop := Below w.heap.size w w' ∧ match r with
  | none => e = .returned (.tuple #[jAgg 0 0 [] none 0 0 none 0 0, .bool false])
  | some j => ∃ v, e = .returned (.tuple #[v, .bool true]) ∧ JsV w' F j v
theorem resF {w : World} {p : Nat} {k n : Int} {t : Bs} {A : Option Addr} {an ac : Nat} {B : Option Addr} {bn bc : Nat} {d : Value} (hp : w.heap[p]? = some (.cells (jcs k n t A an ac B bn bc) 25 (0, 0))) (tmps : Array Value) (h2 : tmps.getD 4 undef = .pointer (some ⟨p, 0, none⟩)) (h3 : tmps.getD 5 undef = d) :
    (results Tryd.f13 tmps).run Tryd.prog w = .ok (.tuple #[jAgg k n t A an ac B bn bc, d]) w := by
  obtain ⟨p0, p1, p2, p3, p4, -⟩ := five_of hp
  have h2' : tmps[4]?.getD undef = .pointer (some ⟨p, 0, none⟩) := by simpa using h2
  have h3' : tmps[5]?.getD undef = d := by simpa using h3
  simp [results, Tryd.results13, go_sem, h2', h3', p0, p1, p2, p3, p4]
set_option maxRecDepth 100000 in
set_option maxHeartbeats 8000000 in
theorem Field_calls {j : Js} {w : World} {F : Nat → Prop} {k n : Int} {t : Bs} {A : Option Addr} {an ac : Nat} {B : Option Addr} {bn bc : Nat} (h : JsV w F j (jAgg k n t A an ac B bn bc)) (hFB : ∀ b, F b → b < w.heap.size) (s : Bs) :
    Calls Tryd.prog 13 #[jAgg k n t A an ac B bn bc, vs s] w (FRet w F (fieldJ s j)) := by
  obtain ⟨ka, na, ta, names, nk, kid⟩ := j
  obtain ⟨rfl, rfl, rfl, rfl, rfl, hns, hnk, hac⟩ := h.shape
  have hnl := hns.2.1
  obtain ⟨hc1, hc2, hb⟩ := two_jboxes (w := w) (c1 := jcs k n t A names.length ac B bn bc) (c2 := jcs 0 0 [] none 0 0 none 0 0) (t := 25) (Below.refl _ _)
  obtain ⟨i0, i1, i2, i3, i4, -⟩ := five_of hc1
  have HB := Lib.hid hb
  have HC2 := Lib.hid hc2
  have HX := Lib.hid (fun W (hb : Below w.heap.size w W) => indexN_calls (c := ac) (SlV.below (R' := StrR) (by decide) hns hb (fun _ _ h => h)) s)
  have HJ := Lib.hid h
  have HFB := Lib.hid (show ∀ b, F b → b ≠ w.heap.size + 1 from fun b hb e => by have := hFB b hb; omega)
  have HF := Lib.hid (show fieldJ s (.mk k n t names bn kid) = if h : k = 5 ∧ names.length = bn ∧ at1 s names < bn then some (kid ⟨at1 s names, h.2.2⟩) else none from rfl)
  clear h hns hb hc1 hc2 hFB
  go_enter Tryd.func13, Tryd.ntmps13
  go_wp2_with fail
  refine (HX.out _ HB.out).mono ?_
  rintro e w1 ⟨rfl, hb⟩
  have l0 := keepC hb i0
  have l3 := keepC hb i3
  have l4 := keepC hb i4
  have HB1 := Lib.hid (keepB HB.out hb)
  have hC2 := (hb.block _ (lt_of_heap HC2.out)).trans HC2.out
  have hJ1 := HJ.out.below HB1.out
  clear hb
  obtain ⟨r0, r1, r2, r3, r4, q0, q1, q2, q3, q4⟩ := five_of hC2
  have hst := fun k n t A an ac B bn bc => set5 hC2 (.int .i64 k) (.int .i64 n) (vs t) (.slice A an ac) (.slice B bn bc)
  have hT := fun k n t A an ac B bn bc => set5_turn (fp := fun b => b = w.heap.size + 1) w1 (w.heap.size + 1) rfl (.int .i64 k) (.int .i64 n) (vs t) (.slice A an ac) (.slice B bn bc)
  have HBX := Lib.hid (fun W (hT : Turn (fun b => b = w.heap.size + 1) w1 W) => (HB1.out.trans (Turn.below hT HB1.out.size (fun k hk e => by omega)) : Below w.heap.size w W))
  have HNO := Lib.hid (show fieldJ s (.mk k n t names bn kid) = none → ∀ W, W = (((((w1.setCell ⟨w.heap.size + 1, 0, none⟩ (.int .i64 0)).setCell ⟨w.heap.size + 1, 1, none⟩ (.int .i64 0)).setCell ⟨w.heap.size + 1, 2, none⟩ (vs [])).setCell ⟨w.heap.size + 1, 3, none⟩ (.slice none 0 0)).setCell ⟨w.heap.size + 1, 4, none⟩ (.slice none 0 0)) →
      W.heap[w.heap.size + 1]? = some (.cells (jcs 0 0 [] none 0 0 none 0 0) 25 (0, 0)) ∧ FRet w F (fieldJ s (.mk k n t names bn kid)) (.returned (.tuple #[jAgg 0 0 [] none 0 0 none 0 0, .bool false])) W by
    rintro hf W rfl
    refine ⟨hst .., HBX.out _ (hT ..), ?_⟩
    rw [hf])
  have HST := Lib.hid hst
  have HTT := Lib.hid hT
  clear hst hT hC2
  by_cases hat : at1 s names < names.length
  rotate_left
  · have hr : atI s names = -1 := if_neg hat
    rw [hr]
    have HN := Lib.hid (HNO.out (HF.out.trans (dif_neg (fun h => hat (by have := h.2.1; have := h.2.2; omega)))))
    clear hr hat hJ1
    go_wp2
    obtain ⟨f1, f2⟩ := HN.out _ rfl
    exact bodyPost_ret (resF f1 _ rfl rfl) rfl f2
  have hr : atI s names = (at1 s names : Int) := if_pos hat
  rw [hr]
  by_cases k5 : k = 5
  rotate_left
  · have HN := Lib.hid (HNO.out (HF.out.trans (dif_neg (fun h => k5 h.1))))
    clear hr hJ1
    go_wp2
    obtain ⟨f1, f2⟩ := HN.out _ rfl
    exact bodyPost_ret (resF f1 _ rfl rfl) rfl f2
  by_cases hle : names.length = bn
  rotate_left
  · have HN := Lib.hid (HNO.out (HF.out.trans (dif_neg (fun h => hle h.2.1))))
    have hlei : ((names.length : Int) != (bn : Int)) = true := bne_iff_ne.2 (by omega)
    clear hr hJ1 hle
    go_wp2
    obtain ⟨f1, f2⟩ := HN.out _ rfl
    exact bodyPost_ret (resF f1 _ rfl rfl) rfl f2
  have hatb : at1 s names < bn := by omega
  obtain ⟨ad, p, k0, n0, t0, A0, an0, ac0, B0, bn0, bc0, rfl, hp, -, d0, d1, d2, d3, d4, hk⟩ := hJ1.kid (at1 s names) hatb
  have HN := Lib.hid (show ∀ W, W = (((((w1.setCell ⟨w.heap.size + 1, 0, none⟩ (.int .i64 k0)).setCell ⟨w.heap.size + 1, 1, none⟩ (.int .i64 n0)).setCell ⟨w.heap.size + 1, 2, none⟩ (vs t0)).setCell ⟨w.heap.size + 1, 3, none⟩ (.slice A0 an0 ac0)).setCell ⟨w.heap.size + 1, 4, none⟩ (.slice B0 bn0 bc0)) →
      W.heap[w.heap.size + 1]? = some (.cells (jcs k0 n0 t0 A0 an0 ac0 B0 bn0 bc0) 25 (0, 0)) ∧ FRet w F (fieldJ s (.mk k n t names bn kid)) (.returned (.tuple #[jAgg k0 n0 t0 A0 an0 ac0 B0 bn0 bc0, .bool true])) W by
    rintro W rfl
    refine ⟨HST.out .., HBX.out _ (HTT.out ..), ?_⟩
    rw [HF.out, dif_pos ⟨k5, hle, hatb⟩]
    exact ⟨_, rfl, hk.turn (HTT.out ..) (fun b hb hl => ⟨fun e => HFB.out b hb e, hb⟩)⟩)
  have hlei : ((names.length : Int) != (bn : Int)) = false := by rw [show (names.length : Int) = (bn : Int) by omega]; simp
  have HLE := Lib.hid hle
  have hati : (at1 s names : Int) < (bn : Int) := by omega
  clear hr hJ1 hk hle HNO HST HTT HBX
  go_wp2
  obtain ⟨f1, f2⟩ := HN.out _ rfl
  exact bodyPost_ret (resF f1 _ rfl rfl) rfl f2
end Go.Proofs.YtminegmjklehnaaDoor.J

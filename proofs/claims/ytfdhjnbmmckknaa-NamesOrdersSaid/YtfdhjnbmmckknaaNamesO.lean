/-
  The order of tuples: Less of package names and of its reference, and the walk of NamesOrders.
-/
import Derived.Test.YtfdhjnbmmckknaaNamesG
import Derived.Test.YtfdhjnbmmckknaaPlain10
namespace Go.Proofs.Ytfdhjnbmmckknaa.Nm
open Go.RowKit Go.Proofs.Ytfdhjnbmmckknaa.B Go.Proofs.Ytfdhjnbmmckknaa.S10
set_option linter.unusedVariables false
set_option linter.unusedSimpArgs false

/-- The first that is not 0. -/
def orF : List Int → Int
  | [] => 0
  | x :: l => if x = 0 then orF l else x
theorem orF_zero : ∀ (l : List Int) (k : Nat), (∀ j : Nat, j < k → l.getD j 0 = 0) → orF l = orF (l.drop k)
  | [], k, _ => by simp
  | x :: l, 0, _ => rfl
  | x :: l, k + 1, h => by
    have h0 := h 0 (by omega)
    simp at h0
    subst h0
    show orF l = orF (l.drop k)
    exact orF_zero l k (fun j hj => by have := h (j + 1) (by omega); simpa using this)
theorem orF_at (l : List Int) (k : Nat) (hk : k < l.length) (h : ∀ j : Nat, j < k → l.getD j 0 = 0) (hne : l.getD k 0 ≠ 0) : orF l = l.getD k 0 := by
  rw [orF_zero l k h, List.drop_eq_getElem_cons hk]
  have e : l.getD k 0 = l[k] := by simp [List.getD_eq_getElem?_getD, hk]
  rw [e] at hne ⊢
  show (if l[k] = 0 then _ else _) = _
  rw [if_neg hne]
theorem orF_none (l : List Int) (k : Nat) (hk : ¬ k < l.length) (h : ∀ j : Nat, j < k → l.getD j 0 = 0) : orF l = 0 := by
  rw [orF_zero l k h, List.drop_eq_nil_of_le (by omega)]; rfl

set_option maxHeartbeats 1000000 in
theorem Or_calls (b n c : Nat) (l : List Int) (w : World) (hn : l.length = n) (hm : n ≤ 100) (hl : ∀ k : Nat, k < n → w.cell? ⟨b, k, none⟩ = some (.int .i64 (l.getD k 0))) :
    Calls Try.prog 52 #[.slice (some ⟨b, 0, none⟩) n c] w fun e w' => e = .returned (.int .i64 (orF l)) ∧ w = w' := by
  have HL := Lib.hid hl; clear hl
  have HN := Lib.hid hn; clear hn
  go_enter Try.func52, Try.ntmps52
  go_wp2
  go_loop [8] (fun v8 => ∃ k : Nat, k ≤ n ∧ v8 = .int .i64 k ∧ Asd (∀ j : Nat, j < k → l.getD j 0 = 0)) (fun v8 => n - (intOf v8).toNat)
  case atStart => exact ⟨0, Nat.zero_le _, rfl, ⟨fun j hj => by omega⟩⟩
  case round =>
    obtain ⟨k, hk, rfl, ha⟩ := hrel
    by_cases hlt : k < n
    · have hcell := HL.out k hlt
      obtain ⟨z, hz⟩ : ∃ z, l.getD k 0 = z := ⟨_, rfl⟩
      rw [hz] at hcell
      have HZ := Lib.hid hz; clear hz
      cases hne : (z != 0) with
      | false =>
        have hz' := Lib.hid (show l.getD k 0 = 0 by rw [HZ.out]; simpa using hne)
        go_wp2
        go_round
        case rel => exact ⟨k + 1, by omega, by go_num, ⟨fun j hj => (by
          by_cases e : j = k
          · subst e; exact hz'.out
          · exact ha.out j (by omega))⟩⟩
        case measure => simp [intOf]; omega
      | true =>
        have hz' := Lib.hid (orF_at l k (by rw [HN.out]; exact hlt) ha.out (by rw [HZ.out]; simpa using hne))
        go_wp2
        go_ret
        exact ⟨by rw [hz'.out, HZ.out]; rfl, rfl⟩
    · have hz' := Lib.hid (orF_none l k (by rw [HN.out]; exact hlt) ha.out)
      go_wp2
      go_ret
      exact ⟨by rw [hz'.out]; rfl, rfl⟩

def cmpS (a b : ByteArray) : Int := Lib.compareBytes a.data.toList b.data.toList
def cmpO (t i u j : ByteArray) : Int := orF [cmpS t u, cmpS i j]
def cmpT (x y : Tup) : Int := orF [cmpO x.t x.i y.t y.i, cmpS x.r y.r, cmpO x.st x.si y.st y.si, cmpS x.sr y.sr]

set_option maxHeartbeats 2000000 in
theorem objects_calls (t i u j : ByteArray) (w : World) :
    Calls Try.prog 53 #[.agg #[.string t, .string i], .agg #[.string u, .string j]] w fun e w' => e = .returned (.int .i64 (cmpO t i u j)) ∧ Below w.heap.size w w' := by
  go_enter Try.func53, Try.ntmps53
  go_wp2_with fail
  go_region_held3 (fun W => W.cell? ⟨w.heap.size, 0, none⟩ = some (.string t) ∧ W.cell? ⟨w.heap.size, 1, none⟩ = some (.string i) ∧ W.cell? ⟨w.heap.size + 1, 0, none⟩ = some (.string u) ∧ W.cell? ⟨w.heap.size + 1, 1, none⟩ = some (.string j)) (go_keep)
    (first | (go_at_call 54; refine (Try.strings_Compare _ _ _).mono ?_; rintro e w1 ⟨rfl, rfl⟩) | (go_at_call 52; refine (Or_calls _ 2 _ [cmpS t u, cmpS i j] _ rfl (by omega) ?_).mono ?_; (intro k hk; (match k, hk with | 0, _ => simp [go_sem, cmpS] | 1, _ => simp [go_sem, cmpS])); rintro e w1 ⟨rfl, rfl⟩))
  go_wp2
  go_ret
  exact ⟨rfl, ((((Below.refl _ _).alloc (Nat.le_refl _) _).alloc (by simp) _).alloc (by simp; omega) _).drew⟩

set_option maxHeartbeats 4000000 in
theorem Less_calls (x y : Tup) (w : World) :
    Calls Try.prog 39 #[.agg #[.string x.t, .string x.i, .string x.r, .string x.st, .string x.si, .string x.sr], .agg #[.string y.t, .string y.i, .string y.r, .string y.st, .string y.si, .string y.sr]] w fun e w' => e = .returned (.bool (decide (cmpT x y < 0))) ∧ Below w.heap.size w w' := by
  go_enter Try.func39, Try.ntmps39
  go_wp2_with fail
  go_region_held3 (fun W => W.cell? ⟨w.heap.size, 0, none⟩ = some (.string x.t) ∧ W.cell? ⟨w.heap.size, 1, none⟩ = some (.string x.i) ∧ W.cell? ⟨w.heap.size, 2, none⟩ = some (.string x.r) ∧ W.cell? ⟨w.heap.size, 3, none⟩ = some (.string x.st) ∧ W.cell? ⟨w.heap.size, 4, none⟩ = some (.string x.si) ∧ W.cell? ⟨w.heap.size, 5, none⟩ = some (.string x.sr) ∧ W.cell? ⟨w.heap.size + 1, 0, none⟩ = some (.string y.t) ∧ W.cell? ⟨w.heap.size + 1, 1, none⟩ = some (.string y.i) ∧ W.cell? ⟨w.heap.size + 1, 2, none⟩ = some (.string y.r) ∧ W.cell? ⟨w.heap.size + 1, 3, none⟩ = some (.string y.st) ∧ W.cell? ⟨w.heap.size + 1, 4, none⟩ = some (.string y.si) ∧ W.cell? ⟨w.heap.size + 1, 5, none⟩ = some (.string y.sr) ∧ Below w.heap.size w W) (first | (go_split_ands; exact ⟨keepC hb1 (by assumption), keepC hb1 (by assumption), keepC hb1 (by assumption), keepC hb1 (by assumption), keepC hb1 (by assumption), keepC hb1 (by assumption), keepC hb1 (by assumption), keepC hb1 (by assumption), keepC hb1 (by assumption), keepC hb1 (by assumption), keepC hb1 (by assumption), keepC hb1 (by assumption), keepB (by assumption) hb1⟩) | (go_split_ands; exact ⟨cellAlloc (by assumption) _, cellAlloc (by assumption) _, cellAlloc (by assumption) _, cellAlloc (by assumption) _, cellAlloc (by assumption) _, cellAlloc (by assumption) _, cellAlloc (by assumption) _, cellAlloc (by assumption) _, cellAlloc (by assumption) _, cellAlloc (by assumption) _, cellAlloc (by assumption) _, cellAlloc (by assumption) _, belAlloc (by assumption) _⟩) | (refine ⟨by simp [go_sem], by simp [go_sem], by simp [go_sem], by simp [go_sem], by simp [go_sem], by simp [go_sem], by simp [go_sem], by simp [go_sem], by simp [go_sem], by simp [go_sem], by simp [go_sem], by simp [go_sem], ?_⟩; exact ((((Below.refl _ _).alloc (Nat.le_refl _) _)).alloc (by simp) _)) | (refine ⟨by simp [go_sem], by simp [go_sem], by simp [go_sem], by simp [go_sem], by simp [go_sem], by simp [go_sem], by simp [go_sem], by simp [go_sem], by simp [go_sem], by simp [go_sem], by simp [go_sem], by simp [go_sem], ?_⟩; exact ((((Below.refl _ _).alloc (Nat.le_refl _) _)).alloc (by simp) _).drew) | go_keep)
    (first | (go_at_call 53; refine (objects_calls _ _ _ _ _).mono ?_; rintro e w1 ⟨rfl, hb1⟩) | (go_at_call 54; refine (Try.strings_Compare _ _ _).mono ?_; rintro e w1 ⟨rfl, rfl⟩) | (go_at_call 52; refine (Or_calls _ 4 _ [cmpO x.t x.i y.t y.i, cmpS x.r y.r, cmpO x.st x.si y.st y.si, cmpS x.sr y.sr] _ rfl (by omega) ?_).mono ?_; (intro k hk; (match k, hk with | 0, _ => simp [go_sem, cmpS] | 1, _ => simp [go_sem, cmpS] | 2, _ => simp [go_sem, cmpS] | 3, _ => simp [go_sem, cmpS])); rintro e w1 ⟨rfl, rfl⟩))
  go_wp2
  go_split_ands
  go_ret
  exact ⟨rfl, by assumption⟩

/-- The first pair of texts that differs decides. -/
def lexB : List (ByteArray × ByteArray) → Bool
  | [] => false
  | p :: l => if (p.1.toList == p.2.toList) = true then lexB l else Op.bytesLess p.1.toList p.2.toList
def pairs (x y : Tup) : List (ByteArray × ByteArray) := [(x.t, y.t), (x.i, y.i), (x.r, y.r), (x.st, y.st), (x.si, y.si), (x.sr, y.sr)]
def eqAt (x y : Tup) : Nat → Bool
  | 0 => x.t.toList == y.t.toList
  | 1 => x.i.toList == y.i.toList
  | 2 => x.r.toList == y.r.toList
  | 3 => x.st.toList == y.st.toList
  | 4 => x.si.toList == y.si.toList
  | _ => x.sr.toList == y.sr.toList
set_option maxHeartbeats 8000000 in
theorem refLess_calls (x y : Tup) (w : World) :
    Calls Try.prog 40 #[.agg #[.string x.t, .string x.i, .string x.r, .string x.st, .string x.si, .string x.sr], .agg #[.string y.t, .string y.i, .string y.r, .string y.st, .string y.si, .string y.sr]] w fun e w' => e = .returned (.bool (lexB (pairs x y))) ∧ Below w.heap.size w w' := by
  go_enter Try.func40, Try.ntmps40
  go_wp2
  go_loopw [7] (fun v7 wr => ∃ k : Nat, k ≤ 6 ∧ v7 = .int .i64 k ∧ Asd (∀ j : Nat, j < k → eqAt x y j = true) ∧ ∃ n, wr = ((((w.alloc (Obj.cells #[Value.string x.t, Value.string x.i, Value.string x.r, Value.string x.st, Value.string x.si, Value.string x.sr] 50)).alloc (Obj.cells #[Value.string y.t, Value.string y.i, Value.string y.r, Value.string y.st, Value.string y.si, Value.string y.sr] 50)).alloc (Obj.cells #[Value.string x.t, Value.string x.i, Value.string x.r, Value.string x.st, Value.string x.si, Value.string x.sr] 9)).alloc (Obj.cells #[Value.string y.t, Value.string y.i, Value.string y.r, Value.string y.st, Value.string y.si, Value.string y.sr] 9)).drewN n) (fun v7 _ => 6 - (intOf v7).toNat)
  case atStart => exact ⟨0, Nat.zero_le _, rfl, ⟨fun j hj => by omega⟩, 0, rfl⟩
  case round =>
    obtain ⟨k, hk, rfl, ha, n, rfl⟩ := hrel
    match k, hk, ha with
    | 0, _, ha =>
      cases h : (x.t.toList == y.t.toList) with
      | true =>
        have hne : (x.t.toList != y.t.toList) = false := by simpa using h
        go_wp2
        go_quiet (fail)
        go_wp2
        exact ⟨⟨1, by omega, by go_num, ⟨fun j hj => (by
          by_cases e : j = 0
          · subst e; exact h
          · exact ha.out j (by omega))⟩, _, rfl⟩, by simp [intOf]⟩
      | false =>
        have hne : (x.t.toList != y.t.toList) = true := by simpa using h
        have hv : lexB (pairs x y) = Op.bytesLess x.t.toList y.t.toList := by
          simp only [pairs, lexB, h, if_true, Bool.false_eq_true, if_false]
        have HV := Lib.hid hv; clear hv
        go_wp2
        go_quiet (fail)
        go_wp2
        go_quiet (fail)
        go_wp2
        go_ret
        exact ⟨by rw [HV.out]; rfl, by repeat (first | (with_reducible exact Below.refl _ _) | (with_reducible refine below_drewN ?_ _) | (with_reducible refine Below.drew ?_) | (with_reducible refine Below.alloc ?_ (by simp; try omega) _))⟩
    | 1, _, ha =>
      have g0 := Lib.hid (show (x.t.toList == y.t.toList) = true from ha.out 0 (by omega))
      cases h : (x.i.toList == y.i.toList) with
      | true =>
        have hne : (x.i.toList != y.i.toList) = false := by simpa using h
        go_wp2
        go_quiet (fail)
        go_wp2
        exact ⟨⟨2, by omega, by go_num, ⟨fun j hj => (by
          by_cases e : j = 1
          · subst e; exact h
          · exact ha.out j (by omega))⟩, _, rfl⟩, by simp [intOf]⟩
      | false =>
        have hne : (x.i.toList != y.i.toList) = true := by simpa using h
        have hv : lexB (pairs x y) = Op.bytesLess x.i.toList y.i.toList := by
          simp only [pairs, lexB, g0.out, h, if_true, Bool.false_eq_true, if_false]
        have HV := Lib.hid hv; clear hv
        go_wp2
        go_quiet (fail)
        go_wp2
        go_quiet (fail)
        go_wp2
        go_ret
        exact ⟨by rw [HV.out]; rfl, by repeat (first | (with_reducible exact Below.refl _ _) | (with_reducible refine below_drewN ?_ _) | (with_reducible refine Below.drew ?_) | (with_reducible refine Below.alloc ?_ (by simp; try omega) _))⟩
    | 2, _, ha =>
      have g0 := Lib.hid (show (x.t.toList == y.t.toList) = true from ha.out 0 (by omega))
      have g1 := Lib.hid (show (x.i.toList == y.i.toList) = true from ha.out 1 (by omega))
      cases h : (x.r.toList == y.r.toList) with
      | true =>
        have hne : (x.r.toList != y.r.toList) = false := by simpa using h
        go_wp2
        go_quiet (fail)
        go_wp2
        exact ⟨⟨3, by omega, by go_num, ⟨fun j hj => (by
          by_cases e : j = 2
          · subst e; exact h
          · exact ha.out j (by omega))⟩, _, rfl⟩, by simp [intOf]⟩
      | false =>
        have hne : (x.r.toList != y.r.toList) = true := by simpa using h
        have hv : lexB (pairs x y) = Op.bytesLess x.r.toList y.r.toList := by
          simp only [pairs, lexB, g0.out, g1.out, h, if_true, Bool.false_eq_true, if_false]
        have HV := Lib.hid hv; clear hv
        go_wp2
        go_quiet (fail)
        go_wp2
        go_quiet (fail)
        go_wp2
        go_ret
        exact ⟨by rw [HV.out]; rfl, by repeat (first | (with_reducible exact Below.refl _ _) | (with_reducible refine below_drewN ?_ _) | (with_reducible refine Below.drew ?_) | (with_reducible refine Below.alloc ?_ (by simp; try omega) _))⟩
    | 3, _, ha =>
      have g0 := Lib.hid (show (x.t.toList == y.t.toList) = true from ha.out 0 (by omega))
      have g1 := Lib.hid (show (x.i.toList == y.i.toList) = true from ha.out 1 (by omega))
      have g2 := Lib.hid (show (x.r.toList == y.r.toList) = true from ha.out 2 (by omega))
      cases h : (x.st.toList == y.st.toList) with
      | true =>
        have hne : (x.st.toList != y.st.toList) = false := by simpa using h
        go_wp2
        go_quiet (fail)
        go_wp2
        exact ⟨⟨4, by omega, by go_num, ⟨fun j hj => (by
          by_cases e : j = 3
          · subst e; exact h
          · exact ha.out j (by omega))⟩, _, rfl⟩, by simp [intOf]⟩
      | false =>
        have hne : (x.st.toList != y.st.toList) = true := by simpa using h
        have hv : lexB (pairs x y) = Op.bytesLess x.st.toList y.st.toList := by
          simp only [pairs, lexB, g0.out, g1.out, g2.out, h, if_true, Bool.false_eq_true, if_false]
        have HV := Lib.hid hv; clear hv
        go_wp2
        go_quiet (fail)
        go_wp2
        go_quiet (fail)
        go_wp2
        go_ret
        exact ⟨by rw [HV.out]; rfl, by repeat (first | (with_reducible exact Below.refl _ _) | (with_reducible refine below_drewN ?_ _) | (with_reducible refine Below.drew ?_) | (with_reducible refine Below.alloc ?_ (by simp; try omega) _))⟩
    | 4, _, ha =>
      have g0 := Lib.hid (show (x.t.toList == y.t.toList) = true from ha.out 0 (by omega))
      have g1 := Lib.hid (show (x.i.toList == y.i.toList) = true from ha.out 1 (by omega))
      have g2 := Lib.hid (show (x.r.toList == y.r.toList) = true from ha.out 2 (by omega))
      have g3 := Lib.hid (show (x.st.toList == y.st.toList) = true from ha.out 3 (by omega))
      cases h : (x.si.toList == y.si.toList) with
      | true =>
        have hne : (x.si.toList != y.si.toList) = false := by simpa using h
        go_wp2
        go_quiet (fail)
        go_wp2
        exact ⟨⟨5, by omega, by go_num, ⟨fun j hj => (by
          by_cases e : j = 4
          · subst e; exact h
          · exact ha.out j (by omega))⟩, _, rfl⟩, by simp [intOf]⟩
      | false =>
        have hne : (x.si.toList != y.si.toList) = true := by simpa using h
        have hv : lexB (pairs x y) = Op.bytesLess x.si.toList y.si.toList := by
          simp only [pairs, lexB, g0.out, g1.out, g2.out, g3.out, h, if_true, Bool.false_eq_true, if_false]
        have HV := Lib.hid hv; clear hv
        go_wp2
        go_quiet (fail)
        go_wp2
        go_quiet (fail)
        go_wp2
        go_ret
        exact ⟨by rw [HV.out]; rfl, by repeat (first | (with_reducible exact Below.refl _ _) | (with_reducible refine below_drewN ?_ _) | (with_reducible refine Below.drew ?_) | (with_reducible refine Below.alloc ?_ (by simp; try omega) _))⟩
    | 5, _, ha =>
      have g0 := Lib.hid (show (x.t.toList == y.t.toList) = true from ha.out 0 (by omega))
      have g1 := Lib.hid (show (x.i.toList == y.i.toList) = true from ha.out 1 (by omega))
      have g2 := Lib.hid (show (x.r.toList == y.r.toList) = true from ha.out 2 (by omega))
      have g3 := Lib.hid (show (x.st.toList == y.st.toList) = true from ha.out 3 (by omega))
      have g4 := Lib.hid (show (x.si.toList == y.si.toList) = true from ha.out 4 (by omega))
      cases h : (x.sr.toList == y.sr.toList) with
      | true =>
        have hne : (x.sr.toList != y.sr.toList) = false := by simpa using h
        go_wp2
        go_quiet (fail)
        go_wp2
        exact ⟨⟨6, by omega, by go_num, ⟨fun j hj => (by
          by_cases e : j = 5
          · subst e; exact h
          · exact ha.out j (by omega))⟩, _, rfl⟩, by simp [intOf]⟩
      | false =>
        have hne : (x.sr.toList != y.sr.toList) = true := by simpa using h
        have hv : lexB (pairs x y) = Op.bytesLess x.sr.toList y.sr.toList := by
          simp only [pairs, lexB, g0.out, g1.out, g2.out, g3.out, g4.out, h, if_true, Bool.false_eq_true, if_false]
        have HV := Lib.hid hv; clear hv
        go_wp2
        go_quiet (fail)
        go_wp2
        go_quiet (fail)
        go_wp2
        go_ret
        exact ⟨by rw [HV.out]; rfl, by repeat (first | (with_reducible exact Below.refl _ _) | (with_reducible refine below_drewN ?_ _) | (with_reducible refine Below.drew ?_) | (with_reducible refine Below.alloc ?_ (by simp; try omega) _))⟩
    | 6, _, ha =>
      have g0 := Lib.hid (show (x.t.toList == y.t.toList) = true from ha.out 0 (by omega))
      have g1 := Lib.hid (show (x.i.toList == y.i.toList) = true from ha.out 1 (by omega))
      have g2 := Lib.hid (show (x.r.toList == y.r.toList) = true from ha.out 2 (by omega))
      have g3 := Lib.hid (show (x.st.toList == y.st.toList) = true from ha.out 3 (by omega))
      have g4 := Lib.hid (show (x.si.toList == y.si.toList) = true from ha.out 4 (by omega))
      have g5 := Lib.hid (show (x.sr.toList == y.sr.toList) = true from ha.out 5 (by omega))
      have HV : Hid (lexB (pairs x y) = false) := Lib.hid (by simp only [pairs, lexB, g0.out, g1.out, g2.out, g3.out, g4.out, g5.out, if_true])
      go_wp2
      go_ret
      exact ⟨by rw [HV.out]; rfl, by repeat (first | (with_reducible exact Below.refl _ _) | (with_reducible refine below_drewN ?_ _) | (with_reducible refine Below.drew ?_) | (with_reducible refine Below.alloc ?_ (by simp; try omega) _))⟩

/-! ### the order -/
theorem cb_refl (a : List UInt8) : Lib.compareBytes a a = 0 := by
  induction a with
  | nil => rfl
  | cons x a ih => unfold Lib.compareBytes; simp [ih]
theorem cb_eq : ∀ (a b : List UInt8), Lib.compareBytes a b = 0 → a = b
  | [], [], _ => rfl
  | [], _ :: _, h => by simp [Lib.compareBytes] at h
  | _ :: _, [], h => by simp [Lib.compareBytes] at h
  | x :: a, y :: b, h => by
    unfold Lib.compareBytes at h
    split at h
    · simp at h
    · split at h
      · simp at h
      · rename_i h1 h2
        have : x = y := by rw [UInt8.lt_iff_toNat_lt] at h1 h2; exact UInt8.toNat_inj.1 (by omega)
        rw [this, cb_eq a b h]
theorem cb_anti : ∀ (a b : List UInt8), Lib.compareBytes b a = - Lib.compareBytes a b
  | [], [] => rfl
  | [], _ :: _ => rfl
  | _ :: _, [] => rfl
  | x :: a, y :: b => by
    unfold Lib.compareBytes
    have := cb_anti a b
    by_cases h1 : x < y
    · have h2 : ¬ y < x := by rw [UInt8.lt_iff_toNat_lt] at *; omega
      simp [h1, h2]
    · by_cases h2 : y < x
      · simp [h1, h2]
      · simp [h1, h2, this]
theorem cb_trans : ∀ (a b c : List UInt8), Lib.compareBytes a b < 0 → Lib.compareBytes b c < 0 → Lib.compareBytes a c < 0
  | [], [], c, h, _ => by simp [Lib.compareBytes] at h
  | [], _ :: _, [], _, h => by simp [Lib.compareBytes] at h
  | [], _ :: _, _ :: _, _, _ => by simp [Lib.compareBytes]
  | _ :: _, [], c, h, _ => by simp [Lib.compareBytes] at h
  | _ :: _, _ :: _, [], _, h => by simp [Lib.compareBytes] at h
  | x :: a, y :: b, z :: c, h, k => by
    have ih := cb_trans a b c
    unfold Lib.compareBytes at h k ⊢
    simp only [UInt8.lt_iff_toNat_lt] at h k ⊢
    split at h
    · split at k
      · rw [if_pos (by omega)]; omega
      · split at k
        · omega
        · rw [if_pos (by omega)]; omega
    · split at h
      · omega
      · split at k
        · rw [if_pos (by omega)]; omega
        · split at k
          · omega
          · rw [if_neg (by omega), if_neg (by omega)]; exact ih h k
theorem less_cb : ∀ (a b : List UInt8), Op.bytesLess a b = decide (Lib.compareBytes a b < 0)
  | [], [] => rfl
  | _ :: _, [] => rfl
  | [], _ :: _ => rfl
  | x :: a, y :: b => by
    have ih := less_cb a b
    unfold Op.bytesLess Lib.compareBytes
    by_cases h1 : x < y
    · simp [h1]
    · by_cases h2 : y < x
      · have : (x == y) = false := by rw [UInt8.lt_iff_toNat_lt] at h1 h2; simp; intro e; subst e; omega
        simp [h1, h2, this]
      · have : x = y := by rw [UInt8.lt_iff_toNat_lt] at h1 h2; exact UInt8.toNat_inj.1 (by omega)
        subst this
        simp [h1, ih]
def tl (x : Tup) : List (List UInt8) := [L x.t, L x.i, L x.r, L x.st, L x.si, L x.sr]
def cmpL : List (List UInt8) → List (List UInt8) → Int
  | a :: x, b :: y => if Lib.compareBytes a b = 0 then cmpL x y else Lib.compareBytes a b
  | _, _ => 0
theorem cmpL_anti : ∀ (x y : List (List UInt8)), cmpL y x = - cmpL x y
  | [], [] => rfl
  | [], _ :: _ => rfl
  | _ :: _, [] => rfl
  | a :: x, b :: y => by
    unfold cmpL
    rw [cb_anti a b, cmpL_anti x y]
    by_cases h : Lib.compareBytes a b = 0
    · simp [h]
    · rw [if_neg h, if_neg (by omega)]
theorem cmpL_eq : ∀ (x y : List (List UInt8)), x.length = y.length → cmpL x y = 0 → x = y
  | [], [], _, _ => rfl
  | [], _ :: _, h, _ => by simp at h
  | _ :: _, [], h, _ => by simp at h
  | a :: x, b :: y, h, k => by
    unfold cmpL at k
    split at k
    · rename_i e; rw [cb_eq _ _ e, cmpL_eq x y (by simpa using h) k]
    · contradiction
theorem cmpL_refl : ∀ (x : List (List UInt8)), cmpL x x = 0
  | [] => rfl
  | a :: x => by unfold cmpL; rw [if_pos (cb_refl a)]; exact cmpL_refl x
theorem cmpL_trans : ∀ (x y z : List (List UInt8)), cmpL x y < 0 → cmpL y z < 0 → cmpL x z < 0
  | [], [], _, h, _ => by simp [cmpL] at h
  | [], _ :: _, _, h, _ => by simp [cmpL] at h
  | _ :: _, [], _, h, _ => by simp [cmpL] at h
  | _ :: _, _ :: _, [], _, h => by simp [cmpL] at h
  | a :: x, b :: y, c :: z, h, k => by
    unfold cmpL at h k ⊢
    split at h
    · rename_i e1
      have e1' := cb_eq _ _ e1
      subst e1'
      split at k
      · rename_i e2; rw [if_pos e2]; exact cmpL_trans x y z h k
      · rename_i e2; rw [if_neg e2]; exact k
    · rename_i e1
      split at k
      · rename_i e2
        have e2' := cb_eq _ _ e2
        subst e2'
        rw [if_neg e1]; exact h
      · have := cb_trans a b c h k
        rw [if_neg (by omega)]; exact this
theorem cmpT_L (x y : Tup) : cmpT x y = cmpL (tl x) (tl y) := by
  simp only [cmpT, cmpO, cmpS, orF, cmpL, tl, L]
  by_cases h1 : Lib.compareBytes x.t.data.toList y.t.data.toList = 0 <;> by_cases h2 : Lib.compareBytes x.i.data.toList y.i.data.toList = 0 <;> by_cases h3 : Lib.compareBytes x.st.data.toList y.st.data.toList = 0 <;> by_cases h4 : Lib.compareBytes x.si.data.toList y.si.data.toList = 0 <;> by_cases h5 : Lib.compareBytes x.r.data.toList y.r.data.toList = 0 <;> by_cases h6 : Lib.compareBytes x.sr.data.toList y.sr.data.toList = 0 <;> simp [h1, h2, h3, h4, h5, h6]
theorem eqL (a b : ByteArray) : (a.toList == b.toList) = decide (Lib.compareBytes (L a) (L b) = 0) := by
  rw [toList_L, toList_L, Bool.eq_iff_iff]
  simp only [beq_iff_eq, decide_eq_true_eq]
  exact ⟨fun h => by rw [h]; exact cb_refl _, cb_eq _ _⟩
theorem lex_L (x y : Tup) : lexB (pairs x y) = decide (cmpL (tl x) (tl y) < 0) := by
  simp only [pairs, lexB, tl, cmpL, eqL, decide_eq_true_eq]
  simp only [toList_L, less_cb]
  by_cases h1 : Lib.compareBytes (L x.t) (L y.t) = 0 <;> by_cases h2 : Lib.compareBytes (L x.i) (L y.i) = 0 <;> by_cases h3 : Lib.compareBytes (L x.r) (L y.r) = 0 <;> by_cases h4 : Lib.compareBytes (L x.st) (L y.st) = 0 <;> by_cases h5 : Lib.compareBytes (L x.si) (L y.si) = 0 <;> by_cases h6 : Lib.compareBytes (L x.sr) (L y.sr) = 0 <;> simp [h1, h2, h3, h4, h5, h6]
theorem less_ref (x y : Tup) : lexB (pairs x y) = decide (cmpT x y < 0) := by rw [lex_L, cmpT_L]
def tEq (x y : Tup) : Bool := (x.t.toList == y.t.toList && (x.i.toList == y.i.toList && (x.r.toList == y.r.toList && (x.st.toList == y.st.toList && (x.si.toList == y.si.toList && x.sr.toList == y.sr.toList)))))
theorem tEq_iff (x y : Tup) : tEq x y = decide (cmpT x y = 0) := by
  rw [cmpT_L, Bool.eq_iff_iff]
  simp only [tEq, eqL, Bool.and_eq_true, decide_eq_true_eq]
  constructor
  · rintro ⟨h1, h2, h3, h4, h5, h6⟩
    simp [tl, cmpL, h1, h2, h3, h4, h5, h6]
  · intro h
    have := cmpL_eq _ _ (by rfl) h
    simp only [tl, List.cons.injEq] at this
    obtain ⟨h1, h2, h3, h4, h5, h6, _⟩ := this
    exact ⟨by rw [h1]; exact cb_refl _, by rw [h2]; exact cb_refl _, by rw [h3]; exact cb_refl _, by rw [h4]; exact cb_refl _, by rw [h5]; exact cb_refl _, by rw [h6]; exact cb_refl _⟩
end Go.Proofs.Ytfdhjnbmmckknaa.Nm

/-
  What may be encoded: Contains over any slice of texts; names.
-/
import Derived.Test.YtminegmjklehnaaGreatDoorJsonVs
import Derived.Test.YtminegmjklehnaaGreatDoorJsonK
namespace Go.Proofs.YtminegmjklehnaaGreatDoor.J
open Go.RowKit Go.Proofs.YtminegmjklehnaaGreatDoor.B
open Go.Proofs.YtminegmjklehnaaGreatDoor.M hiding Bs
open Go.Proofs.YtminegmjklehnaaGreatDoor.C (QRow Turn)
set_option linter.unusedVariables false
set_option linter.unusedSimpArgs false

theorem str_cell {w : World} {F : Nat → Prop} {names : List Bs} {A : Option Addr} {n : Nat} (h : SlV w F 1 StrR names A n) {j : Nat} {x : Bs} (hx : names[j]? = some x) : ∃ a p, A = some a ∧ a.add j = p ∧ F p.block ∧ w.cell? p = some (vs x) := by
  obtain ⟨a, b, cs, h1, h2, h3, h4, h5, h6⟩ := h.2.2 j x hx
  have h6 : cs = [vs x] := h6
  subst h6
  have := h5 0 _ rfl
  rw [add_zero] at this
  rw [Nat.mul_one] at h2
  exact ⟨a, b, h1, h2, h3, this⟩
theorem sl_take {α : Type} {w : World} {F : Nat → Prop} {size : Nat} {R : α → List Value → Prop} {xs : List α} {A : Option Addr} {n : Nat} (h : SlV w F size R xs A n) {j : Nat} (hj : j ≤ n) : SlV w F size R (xs.take j) A j := by
  refine ⟨by rw [List.length_take, h.1]; omega, Nat.le_trans hj h.2.1, fun k x hx => h.2.2 k x ?_⟩
  rw [List.getElem?_take] at hx
  split at hx
  · exact hx
  · cases hx
theorem contains_step {names : List Bs} {s x : Bs} {j : Nat} (hx : names[j]? = some x) (h0 : (names.take j).contains s = false) (h1 : (s == x) = false) : (names.take (j + 1)).contains s = false := by
  have hj := (List.getElem?_eq_some_iff.1 hx).1
  rw [List.take_add_one, hx]
  simp only [Option.toList_some]
  cases h : ((names.take j ++ [x]).contains s) with
  | false => rfl
  | true =>
    rw [List.contains_iff_mem] at h
    rcases List.mem_append.1 h with h | h
    · rw [List.contains_iff_mem.2 h] at h0; cases h0
    · rw [List.mem_singleton.1 h] at h1; simp at h1
def IxRet (w : World) (n : Nat) (b : Bool) (e : Ending) (w' : World) : Prop := ∃ r : Int, e = .returned (.int .i64 r) ∧ -1 ≤ r ∧ r ≤ n ∧ decide (0 ≤ r) = b ∧ Below w.heap.size w w'
set_option maxRecDepth 100000 in
set_option maxHeartbeats 4000000 in
theorem index_calls {w : World} {F : Nat → Prop} {names : List Bs} {A : Option Addr} {n c : Nat} (h : SlV w F 1 StrR names A n) (s : Bs) :
    Calls Tryz.prog 96 #[.slice A n c, vs s] w (IxRet w n (names.contains s)) := by
  have hnl := h.2.1
  have S := Lib.hid h
  have HL := Lib.hid h.1
  clear h
  go_enter Tryz.func96, Tryz.ntmps96
  go_wp2_with fail
  go_loopw [5, 8] (fun v5 v8 wr => ∃ j : Nat, j ≤ n ∧ v8 = .int .i64 j ∧ Hid ((names.take j).contains s = false) ∧ Hid (Below w.heap.size w wr)) (fun _ v8 _ => n - (intOf v8).toNat)
  case atStart => exact ⟨0, Nat.zero_le _, rfl, Lib.hid rfl, Lib.hid (Below.refl _ _)⟩
  case round =>
    obtain ⟨j, hjn, rfl, HALL, HB⟩ := hrel
    by_cases hj : j < n
    · obtain ⟨x, hx⟩ : ∃ x, names[j]? = some x := ⟨names[j]'(by rw [HL.out]; exact hj), List.getElem?_eq_getElem _⟩
      obtain ⟨ad, p, rfl, hp, -, d0⟩ := str_cell (S.out.below (by decide) HB.out (fun _ _ h => h)) hx
      have HX := Lib.hid hx
      clear hx
      cases he : (s == x) with
      | true =>
        have HM := Lib.hid (show names.contains s = true by
          rw [List.contains_iff_mem, eq_of_beq he]
          exact List.mem_of_getElem? HX.out)
        go_wp2
        go_ret
        exact ⟨j, rfl, by omega, by omega, by rw [HM.out]; simp, HB.out⟩
      | false =>
        have HST := Lib.hid (contains_step HX.out HALL.out he)
        go_wp2
        exact ⟨⟨j + 1, by omega, by go_num, HST, HB⟩, by simp [intOf]; omega⟩
    · have hjn' : j = n := by omega
      subst hjn'
      have HM := Lib.hid (show names.contains s = false by
        have := HALL.out
        rw [List.take_of_length_le (by rw [HL.out]; exact Nat.le_refl _)] at this
        exact this)
      go_wp2
      go_ret
      exact ⟨-1, rfl, by omega, by omega, by rw [HM.out]; rfl, HB.out⟩
set_option maxRecDepth 100000 in
set_option maxHeartbeats 1000000 in
theorem contains_any {w : World} {F : Nat → Prop} {names : List Bs} {A : Option Addr} {n c : Nat} (h : SlV w F 1 StrR names A n) (s : Bs) :
    Calls Tryz.prog 74 #[.slice A n c, vs s] w (BRet w (names.contains s)) := by
  have HI := Lib.hid (index_calls (c := c) h s)
  clear h
  go_enter Tryz.func74, Tryz.ntmps74
  go_wp2_with fail
  refine HI.out.mono ?_
  rintro e w1 ⟨r, rfl, h1, h2, h3, hb⟩
  have HB := Lib.hid hb
  have H3 := Lib.hid h3
  clear hb h3
  go_wp2
  go_ret
  refine ⟨?_, HB.out⟩
  rw [← H3.out]
  rfl
theorem names_cons (seen : List Bs) (x : Bs) (l : List Bs) : namesGo seen (x :: l) = (validT x && !seen.contains x && namesGo (seen ++ [x]) l) := rfl
def TabW (w : World) : Prop := Lib.Utf8Tabs 0 1 w
theorem TabW.below {w w' : World} (h : TabW w) (hb : Below w.heap.size w w') : TabW w' := by
  obtain ⟨h1, h2⟩ := h
  exact ⟨fun c hc => keepC hb (h1 c hc), fun i hi => ⟨keepC hb (h2 i hi).1, keepC hb (h2 i hi).2⟩⟩
set_option maxRecDepth 100000 in
set_option maxHeartbeats 4000000 in
theorem names_calls {w : World} {F : Nat → Prop} {names : List Bs} {A : Option Addr} {n c : Nat} (h : SlV w F 1 StrR names A n) (hc : n ≤ c) (hT : TabW w) (hl : ∀ x ∈ names, x.length ≤ 9223372036854775807) :
    Calls Tryz.prog 57 #[.slice A n c] w (BRet w (namesGo [] names)) := by
  have hnl := h.2.1
  have S := Lib.hid h
  have HL := Lib.hid h.1
  have HT := Lib.hid hT
  have HLL := Lib.hid hl
  clear h hT hl
  go_enter Tryz.func57, Tryz.ntmps57
  go_wp2_with fail
  go_loopw [3, 4, 7] (fun v3 v4 v7 wr => ∃ j : Nat, j ≤ n ∧ v7 = .int .i64 j ∧ Hid (namesGo [] names = namesGo (names.take j) (names.drop j)) ∧ Hid (Below w.heap.size w wr)) (fun _ _ v7 _ => n - (intOf v7).toNat)
  case atStart => exact ⟨0, Nat.zero_le _, rfl, Lib.hid rfl, Lib.hid (Below.refl _ _)⟩
  case round =>
    obtain ⟨j, hjn, rfl, HALL, HB⟩ := hrel
    by_cases hj : j < n
    · obtain ⟨x, hx⟩ : ∃ x, names[j]? = some x := ⟨names[j]'(by rw [HL.out]; exact hj), List.getElem?_eq_getElem _⟩
      have HC := Lib.hid (fun W (hb : Below w.heap.size w W) => contains_any (c := c) (sl_take (S.out.below (F := F) (by decide) hb (fun _ _ h => h)) (Nat.le_of_lt hj)) x)
      obtain ⟨ad, p, rfl, hp, -, d0⟩ := str_cell (S.out.below (by decide) HB.out (fun _ _ h => h)) hx
      have HG := Lib.hid (show namesGo [] names = (validT x && !(names.take j).contains x && namesGo (names.take (j + 1)) (names.drop (j + 1))) by
        have hlt := (List.getElem?_eq_some_iff.1 hx).1
        have he := (List.getElem?_eq_some_iff.1 hx).2
        rw [HALL.out, List.drop_eq_getElem_cons hlt, he, names_cons, List.take_add_one, hx]
        rfl)
      have HX := Lib.hid (HLL.out x (List.mem_of_getElem? hx))
      have hjc : j ≤ c := by omega
      clear hx
      go_wp2_with fail
      refine (valid_calls x _ HX.out (HT.out.below HB.out)).mono ?_
      rintro e w1 ⟨rfl, hb⟩
      have HB1 := Lib.hid (keepB HB.out hb)
      clear hb
      cases hv : validT x with
      | false =>
        rw [hv] at HG
        go_wp2
        go_ret
        exact ⟨by rw [HG.out]; rfl, HB1.out⟩
      | true =>
        rw [hv] at HG
        go_wp2_with fail
        refine (HC.out _ HB1.out).mono ?_
        rintro e w2 ⟨rfl, hb⟩
        have HB2 := Lib.hid (keepB HB1.out hb)
        clear hb
        cases hk : (names.take j).contains x with
        | true =>
          rw [hk] at HG
          go_wp2
          go_ret
          exact ⟨by rw [HG.out]; rfl, HB2.out⟩
        | false =>
          rw [hk] at HG
          have HG2 := Lib.hid (show namesGo [] names = namesGo (names.take (j + 1)) (names.drop (j + 1)) by rw [HG.out]; rfl)
          go_wp2
          exact ⟨⟨j + 1, by omega, by go_num, HG2, HB2⟩, by simp [intOf]; omega⟩
    · have hjn' : j = n := by omega
      subst hjn'
      have HM := Lib.hid (show namesGo [] names = true by rw [HALL.out, List.drop_of_length_le (by rw [HL.out]; exact Nat.le_refl _)]; rfl)
      go_wp2
      go_ret
      exact ⟨by rw [HM.out]; rfl, HB.out⟩
end Go.Proofs.YtminegmjklehnaaGreatDoor.J

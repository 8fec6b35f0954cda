/-
  JsonMakes: the walk. Printed by wip/tools/gen_jd_mk.py.
-/
import Derived.Test.YtminegmjklehnaaGreatDoorJsonSr
import Derived.Test.YtminegmjklehnaaGreatDoorJsonAw
import Derived.Test.YtminegmjklehnaaGreatDoorJsonNr
import Derived.Test.YtminegmjklehnaaGreatDoorJsonWt
import Derived.Test.YtminegmjklehnaaGreatDoorJsonOp
namespace Go.Proofs.YtminegmjklehnaaGreatDoor.J
open Go.RowKit Go.Proofs.YtminegmjklehnaaGreatDoor.B
open Go.Proofs.YtminegmjklehnaaGreatDoor.M hiding Bs
open Go.Proofs.YtminegmjklehnaaGreatDoor.C (QRow Turn)
set_option linter.unusedVariables false
set_option linter.unusedSimpArgs false

set_option maxRecDepth 100000 in
set_option maxHeartbeats 1000000 in
theorem dNumber_calls (n : Int) (w : World) : Calls Tryz.prog 18 #[.int .i64 n] w (VRet w (jAgg 2 n [] none 0 0 none 0 0)) := by
  have HG := Lib.hid (heap_alloc_new w (.cells (jcs 2 n [] none 0 0 none 0 0) 27))
  go_enter Tryz.func18, Tryz.ntmps18
  go_wp2
  refine bodyPost_ret (results_cell_row rfl _ _ w.heap.size 27 (jcs 2 n [] none 0 0 none 0 0) (0, 0) _ rfl HG.out Tryz.underlying27 rfl (by kernel_rfl)) rfl ?_
  exact ⟨rfl, (Below.refl _ w).alloc (Nat.le_refl _) _⟩
set_option maxRecDepth 100000 in
set_option maxHeartbeats 1000000 in
theorem dText_calls (t : Bs) (w : World) : Calls Tryz.prog 16 #[vs t] w (VRet w (jAgg 3 0 t none 0 0 none 0 0)) := by
  have HG := Lib.hid (heap_alloc_new w (.cells (jcs 3 0 t none 0 0 none 0 0) 27))
  go_enter Tryz.func16, Tryz.ntmps16
  go_wp2
  refine bodyPost_ret (results_cell_row rfl _ _ w.heap.size 27 (jcs 3 0 t none 0 0 none 0 0) (0, 0) _ rfl HG.out Tryz.underlying27 rfl (by kernel_rfl)) rfl ?_
  exact ⟨rfl, (Below.refl _ w).alloc (Nat.le_refl _) _⟩
set_option maxRecDepth 100000 in
set_option maxHeartbeats 1000000 in
theorem dList_calls (B : Option Addr) (n c : Nat) (w : World) : Calls Tryz.prog 22 #[.slice B n c] w (VRet w (jAgg 4 0 [] none 0 0 B n c)) := by
  have HG := Lib.hid (heap_alloc_new w (.cells (jcs 4 0 [] none 0 0 B n c) 27))
  go_enter Tryz.func22, Tryz.ntmps22
  go_wp2
  refine bodyPost_ret (results_cell_row rfl _ _ w.heap.size 27 (jcs 4 0 [] none 0 0 B n c) (0, 0) _ rfl HG.out Tryz.underlying27 rfl (by kernel_rfl)) rfl ?_
  exact ⟨rfl, (Below.refl _ w).alloc (Nat.le_refl _) _⟩
set_option maxRecDepth 100000 in
set_option maxHeartbeats 1000000 in
theorem dObject_calls (A : Option Addr) (n c : Nat) (B : Option Addr) (m d : Nat) (w : World) : Calls Tryz.prog 24 #[.slice A n c, .slice B m d] w (VRet w (jAgg 5 0 [] A n c B m d)) := by
  have HG := Lib.hid (heap_alloc_new w (.cells (jcs 5 0 [] A n c B m d) 27))
  go_enter Tryz.func24, Tryz.ntmps24
  go_wp2
  refine bodyPost_ret (results_cell_row rfl _ _ w.heap.size 27 (jcs 5 0 [] A n c B m d) (0, 0) _ rfl HG.out Tryz.underlying27 rfl (by kernel_rfl)) rfl ?_
  exact ⟨rfl, (Below.refl _ w).alloc (Nat.le_refl _) _⟩
set_option maxRecDepth 100000 in
set_option maxHeartbeats 1000000 in
theorem dBool_calls (b : Bool) (w : World) : Calls Tryz.prog 20 #[.bool b] w (VRet w (jAgg 1 (if b then 1 else 0) [] none 0 0 none 0 0)) := by
  have HG := Lib.hid (fun q => heap_alloc_new w (.cells (jcs 1 q [] none 0 0 none 0 0) 27))
  cases b
  · go_enter Tryz.func20, Tryz.ntmps20
    go_wp2
    refine bodyPost_ret (results_cell_row rfl _ _ w.heap.size 27 (jcs 1 0 [] none 0 0 none 0 0) (0, 0) _ rfl (HG.out 0) Tryz.underlying27 rfl (by kernel_rfl)) rfl ?_
    exact ⟨rfl, (Below.refl _ w).alloc (Nat.le_refl _) _⟩
  · go_enter Tryz.func20, Tryz.ntmps20
    go_wp2
    refine bodyPost_ret (results_cell_row rfl _ _ w.heap.size 27 (jcs 1 1 [] none 0 0 none 0 0) (0, 0) _ rfl (HG.out 1) Tryz.underlying27 rfl (by kernel_rfl)) rfl ?_
    exact ⟨rfl, (Below.refl _ w).alloc (Nat.le_refl _) _⟩
set_option maxRecDepth 100000 in
set_option maxHeartbeats 16000000 in
theorem makes_calls {s : Bs} {n : Int} {bb : Bool} {names : List Bs} {kids : List Js} {w : World} {A : Option Addr} {an ac : Nat} {B : Option Addr} {bn bc : Nat} (hA : SlV w (fun b => b < w.heap.size) 1 StrR names A an) (hac : an ≤ ac) (hB : SlV w (fun b => b < w.heap.size) 5 (JsR w (fun b => b < w.heap.size)) kids B bn)
    (hfit : ∀ x ∈ kids, FitJ x) (hT : TabW w) (hP : TabP w) : Calls Tryz.prog 5 #[vs s, .int .i64 n, .bool bb, .slice A an ac, .slice B bn bc] w (BRet w true) := by
  have hsq := sz s
  have hba := hA.2.1
  have hbb := hB.2.1
  obtain ⟨e1, -⟩ := id hA
  subst e1
  obtain ⟨e2, -⟩ := id hB
  subst e2
  have HAW := Lib.hid (awake_calls hT hP)
  have HJ0 := Lib.hid (many_JsV (k := 0) (bc := bc) (names_nil w _) hB (by simp) : JsV w (fun b => b < w.heap.size) (manyJ 0 [] kids) (jAgg 0 0 [] none 0 0 B kids.length bc))
  have HF0 := Lib.hid (show FitJ (manyJ 0 [] kids) by
    unfold manyJ FitJ
    exact ⟨by simp, by simp, fun i => hfit _ (List.getElem_mem i.2)⟩)
  have HJ4 := Lib.hid (many_JsV (k := 4) (bc := bc) (names_nil w _) hB (by simp) : JsV w (fun b => b < w.heap.size) (manyJ 4 [] kids) (jAgg 4 0 [] none 0 0 B kids.length bc))
  have HJ5 := Lib.hid (many_JsV (k := 5) (bc := bc) hA hB hac : JsV w (fun b => b < w.heap.size) (manyJ 5 names kids) (jAgg 5 0 [] A names.length ac B kids.length bc))
  clear hT hP hA hB hfit
  go_enter Tryz.func5, Tryz.ntmps5
  go_wp2_with fail
  refine HAW.out.mono ?_
  rintro e w1 ⟨rfl, hb⟩
  have HB1 := Lib.hid hb
  have HW := Lib.hid (Weight_calls (manyJ 0 [] kids) w1 (fun b => b < w.heap.size) 0 0 [] none 0 0 B kids.length bc 600 (HJ0.out.below hb) HF0.out (by decide) (by decide))
  clear hb HAW
  by_cases c1 : 1000 < s.length
  · have c1' : (1000 : Int) < (s.length : Int) := by omega
    go_wp2
    go_ret
    exact ⟨rfl, HB1.out⟩
  have c1' : ¬ (1000 : Int) < (s.length : Int) := by omega
  by_cases c2 : 100 < names.length
  · have c2' : (100 : Int) < (names.length : Int) := by omega
    go_wp2
    go_ret
    exact ⟨rfl, HB1.out⟩
  have c2' : ¬ (100 : Int) < (names.length : Int) := by omega
  by_cases c3 : 100 < kids.length
  · have c3' : (100 : Int) < (kids.length : Int) := by omega
    go_wp2
    go_ret
    exact ⟨rfl, HB1.out⟩
  have c3' : ¬ (100 : Int) < (kids.length : Int) := by omega
  go_wp2_with fail
  refine HW.out.mono ?_
  rintro e w2 ⟨r, rfl, -, hb⟩
  have HB2 := Lib.hid (keepB HB1.out hb)
  clear hb HW HB1
  by_cases hr : r = 0
  · subst hr
    go_wp2
    go_ret
    exact ⟨rfl, HB2.out⟩
  have hr0 : (r == 0) = false := beq_eq_false_iff_ne.2 hr
  have HNV := Lib.hid (fun W => leaf_JsV W (fun _ => True) 2 n [])
  have HTV := Lib.hid (fun W => leaf_JsV W (fun _ => True) 3 0 s)
  obtain ⟨qb, hqb⟩ : ∃ q : Int, (if bb then 1 else 0) = q := ⟨_, rfl⟩
  have HPB := Lib.hid (fun W => Bool_calls bb W)
  have HDB := Lib.hid (fun W => dBool_calls bb W)
  rw [hqb] at HPB HDB
  clear hqb
  have HBV := Lib.hid (fun W => leaf_JsV W (fun _ => True) 1 qb [])
  go_wp2_with fail
  refine (Text_calls s _).mono ?_
  rintro e v2 ⟨rfl, hb⟩
  have HBa2 := Lib.hid (keepB HB2.out hb)
  clear hb HB2
  go_wp2_with fail
  refine (dText_calls s _).mono ?_
  rintro e u2 ⟨rfl, hb⟩
  have HBb2 := Lib.hid (keepB HBa2.out hb)
  have HS := Lib.hid (dsame_calls (leafJ 3 0 s) (leafJ 3 0 s) u2 _ _ _ _ _ _ _ _ _ _ _ _ _ _ _ _ _ _ _ _ (HTV.out u2) (HTV.out u2))
  rw [same_refl] at HS
  clear hb HBa2
  go_wp2_with fail
  refine HS.out.mono ?_
  rintro e w3 ⟨rfl, hb⟩
  have HB3 := Lib.hid (keepB HBb2.out hb)
  clear hb HBb2 HS
  go_wp2_with fail
  refine (Number_calls n _).mono ?_
  rintro e v3 ⟨rfl, hb⟩
  have HBa3 := Lib.hid (keepB HB3.out hb)
  clear hb HB3
  go_wp2_with fail
  refine (dNumber_calls n _).mono ?_
  rintro e u3 ⟨rfl, hb⟩
  have HBb3 := Lib.hid (keepB HBa3.out hb)
  have HS := Lib.hid (dsame_calls (leafJ 2 n []) (leafJ 2 n []) u3 _ _ _ _ _ _ _ _ _ _ _ _ _ _ _ _ _ _ _ _ (HNV.out u3) (HNV.out u3))
  rw [same_refl] at HS
  clear hb HBa3
  go_wp2_with fail
  refine HS.out.mono ?_
  rintro e w4 ⟨rfl, hb⟩
  have HB4 := Lib.hid (keepB HBb3.out hb)
  clear hb HBb3 HS
  go_wp2_with fail
  refine (HPB.out _).mono ?_
  rintro e v4 ⟨rfl, hb⟩
  have HBa4 := Lib.hid (keepB HB4.out hb)
  clear hb HB4
  go_wp2_with fail
  refine (HDB.out _).mono ?_
  rintro e u4 ⟨rfl, hb⟩
  have HBb4 := Lib.hid (keepB HBa4.out hb)
  have HS := Lib.hid (dsame_calls (leafJ 1 qb []) (leafJ 1 qb []) u4 _ _ _ _ _ _ _ _ _ _ _ _ _ _ _ _ _ _ _ _ (HBV.out u4) (HBV.out u4))
  rw [same_refl] at HS
  clear hb HBa4
  go_wp2_with fail
  refine HS.out.mono ?_
  rintro e w5 ⟨rfl, hb⟩
  have HB5 := Lib.hid (keepB HBb4.out hb)
  clear hb HBb4 HS
  go_wp2_with fail
  refine (List_calls B kids.length bc _).mono ?_
  rintro e v5 ⟨rfl, hb⟩
  have HBa5 := Lib.hid (keepB HB5.out hb)
  clear hb HB5
  go_wp2_with fail
  refine (dList_calls B kids.length bc _).mono ?_
  rintro e u5 ⟨rfl, hb⟩
  have HBb5 := Lib.hid (keepB HBa5.out hb)
  have HS := Lib.hid (dsame_calls (manyJ 4 [] kids) (manyJ 4 [] kids) u5 _ _ _ _ _ _ _ _ _ _ _ _ _ _ _ _ _ _ _ _ (HJ4.out.below HBb5.out) (HJ4.out.below HBb5.out))
  rw [same_refl] at HS
  clear hb HBa5
  go_wp2_with fail
  refine HS.out.mono ?_
  rintro e w6 ⟨rfl, hb⟩
  have HB6 := Lib.hid (keepB HBb5.out hb)
  clear hb HBb5 HS
  go_wp2_with fail
  refine (Object_calls A names.length ac B kids.length bc _).mono ?_
  rintro e v6 ⟨rfl, hb⟩
  have HBa6 := Lib.hid (keepB HB6.out hb)
  clear hb HB6
  go_wp2_with fail
  refine (dObject_calls A names.length ac B kids.length bc _).mono ?_
  rintro e u6 ⟨rfl, hb⟩
  have HBb6 := Lib.hid (keepB HBa6.out hb)
  have HS := Lib.hid (dsame_calls (manyJ 5 names kids) (manyJ 5 names kids) u6 _ _ _ _ _ _ _ _ _ _ _ _ _ _ _ _ _ _ _ _ (HJ5.out.below HBb6.out) (HJ5.out.below HBb6.out))
  rw [same_refl] at HS
  clear hb HBa6
  go_wp2_with fail
  refine HS.out.mono ?_
  rintro e w7 ⟨rfl, hb⟩
  have HB7 := Lib.hid (keepB HBb6.out hb)
  clear hb HBb6 HS
  go_wp2
  go_ret
  exact ⟨by simp [Array.getD], HB7.out⟩
section
open Go.ChangeShapes Go.WideShapes
variable {H : Type} {enc : TypeId × Value → H} {w : World} {base : Nat} {spare : Nat → Bool} {held : Bool}
/-- values that came in. -/
theorem open_kids {v : Value} {d : DataW H} {p : List MemPlace} (h : DataW.Trod enc Tryz.prog w base spare held 25 v d p) (hv : ∃ a n c, v = .slice a n c) :
    ∃ (A : Option Addr) (n c : Nat) (l : List Js), v = .slice A n c ∧ SlV w (fun b => b < w.heap.size) 5 (JsR w (fun b => b < w.heap.size)) l A n ∧ n ≤ c ∧ ∀ x ∈ l, FitJ x := by
  obtain ⟨a, n, c, rfl⟩ := hv
  obtain ⟨fuel, hf⟩ := h
  cases fuel with
  | zero => simp [DataW.trod] at hf
  | succ m =>
    obtain ⟨A, an, ac, kids, h3, hns, hac, hnf⟩ := open_sl (R := fun j cs => JsR w Ev j cs) (Q := FitJ) Tryz.underlying25 cOf_JSON hf (fun cs y hy => open_js _ _ _ hy)
    have h3 : Value.slice a n c = .slice A an ac := by simpa [Value.cells] using h3
    exact ⟨A, an, ac, kids, h3, SlV.keep (by decide) (fun b _ hl => hl) (fun a v _ h => h) (fun _ _ h => ⟨h.1, JsV.keep (fun b _ hl => hl) (fun a v _ h => h) _ _ h.2⟩) hns, hac, hnf⟩
end
end Go.Proofs.YtminegmjklehnaaGreatDoor.J

/-
  HTTP: the chapter's examples (awake).
-/
import Derived.Test.YtomancadpdccaaaGreatDoorHtR
namespace Go.Proofs.YtomancadpdccaaaGreatDoor.Ht
open Go.RowKit Go.Proofs.YtomancadpdccaaaGreatDoor.B
open Go.Proofs.YtomancadpdccaaaGreatDoor.M hiding Bs
open Go.Proofs.YtomancadpdccaaaGreatDoor.C (QRow Turn OwnF Elem upd)
set_option linter.unusedVariables false
set_option linter.unusedSimpArgs false

def req0 : Bs := [80, 79, 83, 84, 32, 47, 99, 104, 101, 99, 107, 32, 72, 84, 84, 80, 47, 49, 46, 49, 13, 10, 99, 111, 110, 116, 101, 110, 116, 45, 108, 101, 110, 103, 116, 104, 58, 32, 50, 13, 10, 13, 10, 123, 125]
def req1 : Bs := [71, 69, 84, 32, 47, 32, 72, 84, 84, 80, 47, 49, 46, 49, 13, 10, 13, 10]
theorem parse0 : parseB Nu.parseF req0 = (⟨[47, 99, 104, 101, 99, 107], [], [123, 125]⟩, 0) := by decide +kernel
theorem parse1 : (parseB Nu.parseF req1).2 = 405 := by decide +kernel
theorem lit_b (w : World) (l : Bs) (arr : Array Value) (ha : arr = (l.map Nu.vb).toArray) (n : Nat) (hn : l.length = n) (hm : n ≤ 1000000) : ∃ W, (convert 22 22 (.slice (some ⟨w.heap.size, 0, none⟩) n n)).run Tryz.prog (w.alloc (.cells arr 5)) = .ok (.slice (some ⟨w.heap.size, 0, none⟩) n n) W ∧ Nu.BRead W (some ⟨w.heap.size, 0, none⟩) n l ∧ Below w.heap.size w W := by
  refine ⟨_, Lib.run_convert_bytes_const (P := Tryz.prog) w 22 5 arr n n Tryz.underlying22 Tryz.underlying5, ⟨hn, by omega, fun _ => ⟨_, rfl, fun i hi => ?_⟩⟩, (Below.refl _ w).alloc (Nat.le_refl _) _⟩
  have h := heap_alloc_new w (.cells arr 5 (arr.size, arr.size + 1))
  rw [Addr.add_mid, cell_of_row _ _ _ _ _ _ h, ha, List.getElem?_toArray, List.getElem?_map, Nat.zero_add, List.getElem?_eq_getElem (by omega)]
  show some (Nu.vb l[i]) = some (Value.int .u8 ((l.getD i 0).toNat : Int))
  rw [List.getD_eq_getElem?_getD, List.getElem?_eq_getElem (by omega)]
  rfl
theorem bread_nil (w : World) : Nu.BRead w none 0 [] := ⟨rfl, by simp, fun h => by omega⟩
theorem rsp200 : 20 < (rspF 200 []).length ∧ (rspF 200 []).length ≤ 2000 := by
  have h : reaF 200 ≠ [] := by decide
  have h2 := head_len h 0 (by omega)
  rw [rsp_is h]
  refine ⟨?_, by rw [List.length_append]; simp; omega⟩
  show 20 < (headR 200 0 ++ []).length
  unfold headR
  simp only [List.length_append, List.length_cons]
  have : version.length = 8 := rfl
  have : ctype.length = 30 := rfl
  omega
set_option maxRecDepth 100000 in
set_option maxHeartbeats 8000000 in
theorem awake_calls (w : World) (hm : Mx w) (ht : Nu.Tab w) (he : Nu.Errs w) : Calls Tryz.prog 10 #[] w (BRet w true) := by
  have HMX := Lib.hid (fun V (hb : Below w.heap.size w V) => Mx.below hm hb)
  have HT := Lib.hid (fun V (hb : Below w.heap.size w V) => Nu.Tab.below ht hb)
  have HE := Lib.hid (fun V (hb : Below w.heap.size w V) => Nu.Errs.below he hb)
  clear hm ht he
  obtain ⟨w1, hcv1, hr1, hb1⟩ := lit_b w req0 #[.int .u8 80, .int .u8 79, .int .u8 83, .int .u8 84, .int .u8 32, .int .u8 47, .int .u8 99, .int .u8 104, .int .u8 101, .int .u8 99, .int .u8 107, .int .u8 32, .int .u8 72, .int .u8 84, .int .u8 84, .int .u8 80, .int .u8 47, .int .u8 49, .int .u8 46, .int .u8 49, .int .u8 13, .int .u8 10, .int .u8 99, .int .u8 111, .int .u8 110, .int .u8 116, .int .u8 101, .int .u8 110, .int .u8 116, .int .u8 45, .int .u8 108, .int .u8 101, .int .u8 110, .int .u8 103, .int .u8 116, .int .u8 104, .int .u8 58, .int .u8 32, .int .u8 50, .int .u8 13, .int .u8 10, .int .u8 13, .int .u8 10, .int .u8 123, .int .u8 125] (by kernel_rfl) 45 rfl (by omega)
  have HP1 := Lib.hid (Parse_calls req0 _ 45 45 w1 hr1 (by omega) (HMX.out w1 hb1) (HT.out w1 hb1) (HE.out w1 hb1))
  rw [parse0] at HP1
  have HB1 := Lib.hid hb1
  clear hr1 hb1
  go_enter Tryz.func10, Tryz.ntmps10
  go_wp2_with fail
  refine HP1.out.mono ?_
  intro e w2 hret
  obtain ⟨hb2, hres⟩ := hret.cases
  rcases hres with ⟨-, A, c, rfl, hc, hrd⟩ | ⟨h0, -⟩
  · have HB2 := Lib.hid (keepB HB1.out hb2)
    have HRD := Lib.hid (show Nu.BRead w2 A 2 [123, 125] from hrd)
    clear hb2 hc hrd HP1
    rw [show (⟨[47, 99, 104, 101, 99, 107], [], [123, 125]⟩ : Rq).path = [47, 99, 104, 101, 99, 107] from rfl, show (⟨[47, 99, 104, 101, 99, 107], [], [123, 125]⟩ : Rq).token = [] from rfl, show (⟨[47, 99, 104, 101, 99, 107], [], [123, 125]⟩ : Rq).body.length = 2 from rfl]
    obtain ⟨w3, hw3⟩ : ∃ w3, w2.alloc (.cells #[vs [47, 99, 104, 101, 99, 107], vs [], .slice A 2 c] 25) = w3 := ⟨_, rfl⟩
    have hl3 : w2.heap.size < w3.heap.size := by rw [← hw3]; simp
    have hb23 : Below w2.heap.size w2 w3 := by rw [← hw3]; exact (Below.refl _ w2).alloc (Nat.le_refl _) _
    have HB3 := Lib.hid (keepB HB2.out hb23)
    have HRD3 := Lib.hid (bread_below HRD.out hb23)
    have hn3 : w3.heap[w2.heap.size]? = some (.cells #[vs [47, 99, 104, 101, 99, 107], vs [], .slice A 2 c] 25 (0, 0)) := by rw [← hw3]; exact heap_alloc_new w2 _
    have HC3 := Lib.hid (fun V (hb : Below w3.heap.size w3 V) => three_of ((hb.block w2.heap.size hl3).trans hn3))
    obtain ⟨w4, hcv4, hr4, hb4⟩ := lit_b w3 req1 #[.int .u8 71, .int .u8 69, .int .u8 84, .int .u8 32, .int .u8 47, .int .u8 32, .int .u8 72, .int .u8 84, .int .u8 84, .int .u8 80, .int .u8 47, .int .u8 49, .int .u8 46, .int .u8 49, .int .u8 13, .int .u8 10, .int .u8 13, .int .u8 10] (by kernel_rfl) 18 rfl (by omega)
    have HB4 := Lib.hid (keepB HB3.out hb4)
    have HB34 := Lib.hid hb4
    have HP4 := Lib.hid (Parse_calls req1 _ 18 18 w4 hr4 (by omega) (HMX.out w4 HB4.out) (HT.out w4 HB4.out) (HE.out w4 HB4.out))
    have HPQ := Lib.hid parse1
    obtain ⟨r1, hr1⟩ : ∃ r, parseB Nu.parseF req1 = r := ⟨_, rfl⟩
    rw [hr1] at HP4 HPQ
    clear hr4 hb4 hn3 hb23 hr1
    go_wp2_with fail
    refine HP4.out.mono ?_
    intro e w5 hret
    obtain ⟨hb5, hres⟩ := hret.cases
    rcases hres with ⟨h0, -⟩ | ⟨h0, rfl⟩
    · rw [HPQ.out] at h0; cases h0
    · rw [HPQ.out]
      have HB5 := Lib.hid (keepB HB4.out hb5)
      have HB35 := Lib.hid (keepB HB34.out hb5)
      clear h0 hb5 HP4
      have hb56 : Below w5.heap.size w5 (w5.alloc (.cells #[.string ⟨#[]⟩, .string ⟨#[]⟩, .slice none 0 0] 25)) := (Below.refl _ w5).alloc (Nat.le_refl _) _
      have HB6 := Lib.hid (keepB HB5.out hb56)
      have HB36 := Lib.hid (keepB HB35.out hb56)
      obtain ⟨p0, p1, p2⟩ := HC3.out (w5.alloc (.cells #[.string ⟨#[]⟩, .string ⟨#[]⟩, .slice none 0 0] 25)) HB36.out
      have hcv6 := conv_rd (c := c) (bread_below HRD3.out HB36.out)
      have HRC := Lib.hid (Reason_calls 404 (w5.alloc (.cells #[.string ⟨#[]⟩, .string ⟨#[]⟩, .slice none 0 0] 25)))
      rw [show reaF 404 = [78, 111, 116, 32, 70, 111, 117, 110, 100] from by decide] at HRC
      have HRS := Lib.hid (Respond_calls 200 (by omega) (by omega) [] none 0 0 (w5.alloc (.cells #[.string ⟨#[]⟩, .string ⟨#[]⟩, .slice none 0 0] 25)) (bread_nil _) (by omega) (HT.out (w5.alloc (.cells #[.string ⟨#[]⟩, .string ⟨#[]⟩, .slice none 0 0] 25)) HB6.out))
      obtain ⟨hl20, hl2⟩ := rsp200
      generalize rspF 200 [] = R at *
      clear hb56
      go_wp2_with fail
      refine HRC.out.mono ?_
      rintro e w7 ⟨rfl, rfl⟩
      go_wp2_with fail
      refine HRS.out.mono ?_
      rintro e w8 ⟨A8, c8, rfl, hc8, -, hb8⟩
      have HB8 := Lib.hid (keepB HB6.out hb8)
      have hl20' : (20 : Int) < (R.length : Int) := by omega
      clear hb8
      go_wp2
      go_ret
      exact ⟨rfl, HB8.out⟩
  · exact absurd rfl h0
end Go.Proofs.YtomancadpdccaaaGreatDoor.Ht

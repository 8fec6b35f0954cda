/-
  HTTP: a response (the program's).
-/
import Derived.Test.YtomancadpdccaaaGreatDoorHtO
import Derived.Test.YtomancadpdccaaaGreatDoorTokA
namespace Go.Proofs.YtomancadpdccaaaGreatDoor.Ht
open Go.RowKit Go.Proofs.YtomancadpdccaaaGreatDoor.B
open Go.Proofs.YtomancadpdccaaaGreatDoor.M hiding Bs
open Go.Proofs.YtomancadpdccaaaGreatDoor.C (QRow Turn OwnF Elem upd)
set_option linter.unusedVariables false
set_option linter.unusedSimpArgs false

theorem ba_app (a b : Bs) : ba a ++ ba b = ba (a ++ b) := by
  apply ByteArray.ext
  apply Array.ext'
  simp
def line1 (n : Int) : Bs := [72, 84, 84, 80, 47, 49, 46, 49, 32] ++ Lib.itoa n ++ [32] ++ reaF n
def line3 (m : Nat) : Bs := clen ++ Lib.itoa m
theorem join_is (n : Int) (m : Nat) : Lib.join [line1 n, ctype, line3 m, [], []] crlf = headR n m := by
  unfold headR line1 line3 crlf2 crlf version
  simp [Lib.join, List.intercalate]
def cells5 (a b c : Bs) : Array Value := #[vs a, vs b, vs c, vs [], vs []]
theorem conv_b (w : World) (q : Bs) (hl : q.length ≤ 1000000) : ∃ c w', (convert 9 22 (vs q)).run Tryz.prog w = .ok (.slice (some ⟨w.heap.size, 0, none⟩) q.length c) w' ∧ q.length ≤ c ∧ Nu.BRead w' (some ⟨w.heap.size, 0, none⟩) q.length q ∧ Below w.heap.size w w' := by
  obtain ⟨c, w', h1, h2, h3, h4⟩ := conv_row w q
  exact ⟨c, w', h1, h2, h3.bread (by omega), h4⟩
def RsRet (w : World) (r : Bs) (e : Ending) (w' : World) : Prop := ∃ A c, e = .returned (.slice A r.length c) ∧ r.length ≤ c ∧ Nu.BRead w' A r.length r ∧ Below w.heap.size w w'
theorem rsp_no {n : Int} {b : Bs} (h : reaF n = []) : rspF n b = [] := by unfold rspF; rw [if_pos h]
theorem rsp_is {n : Int} {b : Bs} (h : reaF n ≠ []) : rspF n b = headR n b.length ++ b := by unfold rspF; rw [if_neg h]
theorem head_len {n : Int} (h : reaF n ≠ []) (m : Nat) (hm : m ≤ 1000000) : 4 ≤ (headR n m).length ∧ (headR n m).length ≤ 1000 := by
  refine ⟨(head_idx h m []).2, ?_⟩
  obtain ⟨k, rfl, h1, h2, h3⟩ := rea_cases h
  have h4 := Lib.itoa_length_le (k : Int) (by omega) (by omega)
  have h5 := Lib.itoa_length_le (m : Int) (by omega) (by omega)
  have h6 : (reaF k).length ≤ 40 := by
    unfold reaF
    cases hf : reas.find? (fun p => p.1 == (k : Int)) with
    | none => simp
    | some p =>
      have hm := List.mem_of_find?_eq_some hf
      have : (reas.all fun q => decide (q.2.length ≤ 40)) = true := by decide
      simpa using List.all_eq_true.1 this p hm
  unfold headR
  simp only [List.length_append, List.length_cons]
  have : version.length = 8 := rfl
  have : crlf.length = 2 := rfl
  have : ctype.length = 30 := rfl
  have : clen.length = 16 := rfl
  have : crlf2.length = 4 := rfl
  omega
set_option maxRecDepth 100000 in
set_option maxHeartbeats 8000000 in
theorem Respond_calls (n : Int) (h0 : -9223372036854775808 ≤ n) (h1 : n ≤ 9223372036854775807) (body : Bs) (A : Option Addr) (m c : Nat) (w : World) (hr : Nu.BRead w A m body) (hm : m ≤ 1000000) (ht : Nu.Tab w) :
    Calls Tryz.prog 14 #[.int .i64 n, .slice A m c] w (RsRet w (rspF n body)) := by
  have HT := Lib.hid ht
  have HR := Lib.hid hr
  have hbl : body.length = m := hr.1
  have HBL := Lib.hid hbl
  have HRC := Lib.hid (fun W => Reason_calls n W)
  have HS1 := Lib.hid (fun W (h : Nu.Tab W) => Nu.Show_calls n h0 h1 W h)
  have HS2 := Lib.hid (fun W (h : Nu.Tab W) => Nu.Show_calls (m : Int) (by omega) (by omega) W h)
  have hl1 := Lib.itoa_length_le n h0 h1
  have hl2 := Lib.itoa_length_le (m : Int) (by omega) (by omega)
  have HJ := Lib.hid (join_is n m)
  have HNO := Lib.hid (fun h => rsp_no (n := n) (b := body) h)
  have HIS := Lib.hid (fun h => rsp_is (n := n) (b := body) h)
  have HHL := Lib.hid (fun h => head_len (n := n) h m hm)
  have HL1 := Lib.hid (show line1 n = [72, 84, 84, 80, 47, 49, 46, 49, 32] ++ Lib.itoa n ++ [32] ++ reaF n from rfl)
  have HL3 := Lib.hid (show line3 m = clen ++ Lib.itoa m from rfl)
  have hrl : (reaF n).length ≤ 40 := by
    by_cases h : reaF n = []
    · rw [h]; simp
    · have := (head_len h 0 (by omega)).2
      unfold reaF
      cases hf : reas.find? (fun p => p.1 == n) with
      | none => simp
      | some p =>
        have hm := List.mem_of_find?_eq_some hf
        have : (reas.all fun q => decide (q.2.length ≤ 40)) = true := by decide
        simpa using List.all_eq_true.1 this p hm
  obtain ⟨R, hR⟩ : ∃ R, rspF n body = R := ⟨_, rfl⟩
  rw [hR] at HNO HIS ⊢
  clear hR hr ht h0 h1 hbl
  obtain ⟨q, hq⟩ : ∃ q, reaF n = q := ⟨_, rfl⟩
  rw [hq] at HRC HNO HIS HHL HL1 hrl
  obtain ⟨a, ha⟩ : ∃ x, Lib.itoa n = x := ⟨_, rfl⟩
  rw [ha] at HS1 HL1 hl1
  obtain ⟨b, hb⟩ : ∃ x, Lib.itoa (m : Int) = x := ⟨_, rfl⟩
  rw [hb] at HS2 HL3 hl2
  have hqs := sz q
  have has := sz a
  have hbs := sz b
  clear hq ha hb
  go_enter Tryz.func14, Tryz.ntmps14
  go_wp2_with fail
  refine (HRC.out _).mono ?_
  rintro e w1 ⟨rfl, rfl⟩
  cases hqe : q.isEmpty with
  | true =>
    have HE := Lib.hid (HNO.out (by simpa using hqe))
    go_wp2
    go_ret
    exact ⟨none, 0, by rw [HE.out]; rfl, by rw [HE.out]; exact Nat.le_refl _, by rw [HE.out]; exact ⟨rfl, by simp, fun h => by simp at h⟩, Below.refl _ _⟩
  | false =>
    have hqn : q ≠ [] := by simpa using hqe
    have HE := Lib.hid (HIS.out hqn)
    have hhl := HHL.out hqn
    clear hqn HHL HNO HIS
    have n1 : ¬ 9223372036854775807 < 9 + a.length := by omega
    have n2 : ¬ 9223372036854775807 < 9 + a.length + 1 := by omega
    have n3 : ¬ 9223372036854775807 < 9 + a.length + 1 + q.length := by omega
    have n4 : ¬ 9223372036854775807 < 16 + b.length := by omega
    go_wp2_with fail
    refine (HS1.out _ HT.out).mono ?_
    rintro e w2 ⟨rfl, hb2⟩
    have HB2 := Lib.hid hb2
    clear hb2
    go_wp2_with fail
    refine (HS2.out _ (Nu.Tab.below HT.out HB2.out)).mono ?_
    rintro e w3 ⟨rfl, hb3⟩
    have HB3 := Lib.hid (keepB HB2.out hb3)
    clear hb3
    have e1 : (({ data := #[72, 84, 84, 80, 47, 49, 46, 49, 32] } : ByteArray) ++ ⟨a.toArray⟩ ++ ⟨#[32]⟩ ++ ⟨q.toArray⟩) = ba (line1 n) := by
      rw [HL1.out]
      show ba [72, 84, 84, 80, 47, 49, 46, 49, 32] ++ ba a ++ ba [32] ++ ba q = _
      rw [ba_app, ba_app, ba_app]
    have e3 : (({ data := #[67, 111, 110, 116, 101, 110, 116, 45, 76, 101, 110, 103, 116, 104, 58, 32] } : ByteArray) ++ ⟨b.toArray⟩) = ba (line3 m) := by
      rw [HL3.out]
      show ba clen ++ ba b = _
      rw [ba_app]
    have HE1 := Lib.hid e1
    have HE3 := Lib.hid e3
    clear e1 e3
    go_wp2_with fail
    rw [HE1.out, HE3.out]
    have hnew := heap_alloc_new w3 (.cells #[.string (ba (line1 n)), .string ⟨#[67, 111, 110, 116, 101, 110, 116, 45, 84, 121, 112, 101, 58, 32, 97, 112, 112, 108, 105, 99, 97, 116, 105, 111, 110, 47, 106, 115, 111, 110]⟩, .string (ba (line3 m)), .string ⟨#[]⟩, .string ⟨#[]⟩] 9)
    have hB4 := belAlloc HB3.out (.cells #[.string (ba (line1 n)), .string ⟨#[67, 111, 110, 116, 101, 110, 116, 45, 84, 121, 112, 101, 58, 32, 97, 112, 112, 108, 105, 99, 97, 116, 105, 111, 110, 47, 106, 115, 111, 110]⟩, .string (ba (line3 m)), .string ⟨#[]⟩, .string ⟨#[]⟩] 9)
    generalize hW4 : w3.alloc (.cells #[.string (ba (line1 n)), .string ⟨#[67, 111, 110, 116, 101, 110, 116, 45, 84, 121, 112, 101, 58, 32, 97, 112, 112, 108, 105, 99, 97, 116, 105, 111, 110, 47, 106, 115, 111, 110]⟩, .string (ba (line3 m)), .string ⟨#[]⟩, .string ⟨#[]⟩] 9) = W4 at hnew hB4 ⊢
    have hnew2 : W4.heap[w3.heap.size]? = some (.cells ([ba (line1 n), ba ctype, ba (line3 m), ba [], ba []].map Value.string).toArray 9 (0, 0)) := hnew
    have hl3 : w3.heap.size < W4.heap.size := lt_of_heap hnew
    have hjl : (Lib.join ([ba (line1 n), ba ctype, ba (line3 m), ba [], ba []].map (·.data.toList)) (ba crlf).data.toList) = headR n m := HJ.out
    have HJC := Lib.hid (show Calls Tryz.prog 34 #[.slice (some ⟨w3.heap.size, 0, none⟩) 5 5, .string ⟨#[13, 10]⟩] W4 (fun e w' => e = .returned (vs (headR n m)) ∧ Below W4.heap.size W4 w') by
      have h := Tryz.strings_Join (o := 0) w3.heap.size 5 [ba (line1 n), ba ctype, ba (line3 m), ba [], ba []] (ba crlf) W4 (fun j x hx => by
        rw [cell_of_row W4 w3.heap.size _ _ _ (0, 0) hnew2, Nat.zero_add, List.getElem?_toArray, List.getElem?_map, hx]
        rfl) hl3 (by simp) (by simp) (by rw [hjl]; omega)
      rw [hjl] at h
      exact h)
    have HB4 := Lib.hid hB4
    clear hnew hnew2 hjl hW4 hl3 hB4 HJ HL1 HL3 HE1 HE3 HS1 HS2
    refine HJC.out.mono ?_
    rintro e w5 ⟨rfl, hb5⟩
    have HB5 := Lib.hid (keepB HB4.out hb5)
    clear hb5 HJC
    obtain ⟨H, hH⟩ : ∃ H, headR n m = H := ⟨_, rfl⟩
    have HEH := Lib.hid (show R = H ++ body by rw [HE.out, HBL.out, hH])
    rw [hH] at hhl ⊢
    clear hH HE
    obtain ⟨c6, w6, hcv, hc6, hr6, hb6⟩ := conv_b w5 H (by omega)
    have HB6 := Lib.hid (keepB HB5.out hb6)
    have HR6 := Lib.hid hr6
    clear hr6 hb6
    go_wp2_with fail
    have hn7 := heap_alloc_new w6 (.cells #[.slice (some ⟨w5.heap.size, 0, none⟩) H.length c6, .slice A m c] 22)
    have hb67 : Below w6.heap.size w6 (w6.alloc (.cells #[.slice (some ⟨w5.heap.size, 0, none⟩) H.length c6, .slice A m c] 22)) := (Below.refl _ w6).alloc (Nat.le_refl _) _
    have hB7 := keepB HB6.out hb67
    refine (Concat_c w6.heap.size H body _ A H.length c6 m c 22 _ hn7 (bread_below HR6.out hb67) (bread_below HR.out hB7) (by omega) (by omega)).mono ?_
    rintro e w8 ⟨v, rfl, hown, hb8⟩
    have HB8 := Lib.hid (keepB hB7 hb8)
    obtain ⟨A8, c8, rfl, hc8, hr8⟩ := BOwn.rd hown (by rw [List.length_append, HBL.out]; omega)
    have HR8 := Lib.hid hr8
    clear hn7 hb67 hB7 hown hb8 hr8
    rw [← HEH.out] at hc8 HR8 ⊢
    go_wp2
    go_ret
    exact ⟨A8, c8, rfl, hc8, HR8.out, HB8.out⟩
end Go.Proofs.YtomancadpdccaaaGreatDoor.Ht

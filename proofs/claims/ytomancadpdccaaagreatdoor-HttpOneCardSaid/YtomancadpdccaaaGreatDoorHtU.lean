/-
  HttpOne, walked.
-/
import Derived.Test.YtomancadpdccaaaGreatDoorHtS
namespace Go.Proofs.YtomancadpdccaaaGreatDoor.Ht
open Go.RowKit Go.Proofs.YtomancadpdccaaaGreatDoor.B
open Go.Proofs.YtomancadpdccaaaGreatDoor.M hiding Bs
open Go.Proofs.YtomancadpdccaaaGreatDoor.C (QRow Turn OwnF Elem upd)
set_option linter.unusedVariables false
set_option linter.unusedSimpArgs false

theorem bread_take {w : World} {A : Option Addr} {n : Nat} {l : Bs} (h : Nu.BRead w A n l) {k : Nat} (hk : k ≤ n) : Nu.BRead w A k (l.take k) := by
  have hl := h.1
  refine ⟨by rw [List.length_take]; omega, by have := h.2.1; omega, fun hp => ?_⟩
  obtain ⟨ad, h1, h2⟩ := h.2.2 (by omega)
  refine ⟨ad, h1, fun i hi => ?_⟩
  rw [h2 i (by omega)]
  show some (Value.int .u8 ((l.getD i 0).toNat : Int)) = some (Value.int .u8 (((l.take k).getD i 0).toNat : Int))
  rw [List.getD_eq_getElem?_getD, List.getD_eq_getElem?_getD, List.getElem?_take, if_pos hi]
theorem parse_pos {b : Bs} {r : Rq} (h : parseB Nu.parseF b = (r, 0)) : 4 ≤ b.length := by
  obtain ⟨_, i, h2, _⟩ := parse_ok h
  have := idx_room h2
  have hl : crlf2.length = 4 := rfl
  omega
set_option maxRecDepth 100000 in
set_option maxHeartbeats 8000000 in
theorem one_calls (b more : Bs) (A : Option Addr) (n c : Nat) (A2 : Option Addr) (n2 c2 : Nat) (w : World) (hb : Nu.BRead w A n b) (hnc : n ≤ c) (hb2 : Nu.BRead w A2 n2 more) (hm : Mx w) (ht : Nu.Tab w) (he : Nu.Errs w) :
    Calls Tryz.prog 5 #[.slice A n c, .slice A2 n2 c2] w (BRet w true) := by
  have HR := Lib.hid hb
  have HR2 := Lib.hid hb2
  have HBL := Lib.hid hb.1
  have HBL2 := Lib.hid hb2.1
  have hn63 := hb.2.1
  have hn632 := hb2.2.1
  have HAW := Lib.hid (awake_calls w hm ht he)
  have HMX := Lib.hid (fun V (hb : Below w.heap.size w V) => Mx.below hm hb)
  have HT := Lib.hid (fun V (hb : Below w.heap.size w V) => Nu.Tab.below ht hb)
  have HE := Lib.hid (fun V (hb : Below w.heap.size w V) => Nu.Errs.below he hb)
  clear hb hb2 hm ht he
  go_enter Tryz.func5, Tryz.ntmps5
  go_wp2_with fail
  refine HAW.out.mono ?_
  rintro e w1 ⟨rfl, hb1⟩
  have HB1 := Lib.hid hb1
  clear hb1 HAW
  by_cases h15 : 15000 < n
  · have h15' : (15000 : Int) < (n : Int) := by omega
    go_wp2
    go_ret
    exact ⟨rfl, HB1.out⟩
  have h15' : ¬ (15000 : Int) < (n : Int) := by omega
  by_cases hz : n2 = 0
  · subst hz
    go_wp2
    go_ret
    exact ⟨rfl, HB1.out⟩
  have hz' : ((n2 : Int) == 0) = false := by rw [beq_eq_false_iff_ne]; omega
  by_cases h100 : 100 < n2
  · have h100' : (100 : Int) < (n2 : Int) := by omega
    go_wp2
    go_ret
    exact ⟨rfl, HB1.out⟩
  have h100' : ¬ (100 : Int) < (n2 : Int) := by omega
  have HP1 := Lib.hid (Parse_calls b A n c w1 (bread_below HR.out HB1.out) (by omega) (HMX.out w1 HB1.out) (HT.out w1 HB1.out) (HE.out w1 HB1.out))
  have HLESS := Lib.hid (fun r (h : parseB Nu.parseF b = (r, 0)) => parse_less h)
  have HMORE := Lib.hid (fun r (h : parseB Nu.parseF b = (r, 0)) (h2 : more ≠ []) => parse_more h h2)
  have HPOS := Lib.hid (fun r (h : parseB Nu.parseF b = (r, 0)) => parse_pos h)
  have HBOD := Lib.hid (fun r (h : parseB Nu.parseF b = (r, 0)) => let ⟨_, i, _, _, h4, _⟩ := parse_ok h; h4)
  obtain ⟨r, hr⟩ : ∃ r, parseB Nu.parseF b = r := ⟨_, rfl⟩
  rw [hr] at HP1 HLESS HMORE HPOS HBOD
  clear hr
  go_wp2_with fail
  refine HP1.out.mono ?_
  intro e w2 hret
  obtain ⟨hb2, hres⟩ := hret.cases
  have HB2 := Lib.hid (keepB HB1.out hb2)
  clear hb2 hret HP1
  obtain ⟨⟨path, tok, body⟩, st⟩ := r
  rcases hres with ⟨h0, A3, c3, rfl, hc3, -⟩ | ⟨h0, rfl⟩
  · have h0' : st = 0 := h0
    subst h0'
    have hpos := HPOS.out _ rfl
    rw [HBL.out] at hpos
    have hbod : body.length ≤ 8192 := HBOD.out _ rfl
    have hbod' : (body.length : Int) ≤ 8192 := by omega
    have hmo : more ≠ [] := fun e => by
      have := HBL2.out
      rw [e] at this
      simp at this
      omega
    have HLT := Lib.hid (HLESS.out _ rfl)
    have HMT := Lib.hid (HMORE.out _ rfl hmo)
    rw [HBL.out] at HLT
    clear h0 HPOS HBOD HLESS HMORE hmo
    have e1 : ((⟨path, tok, body⟩, 0) : Rq × Nat).1.path = path := rfl
    have e2 : ((⟨path, tok, body⟩, 0) : Rq × Nat).1.token = tok := rfl
    have e3 : ((⟨path, tok, body⟩, 0) : Rq × Nat).1.body = body := rfl
    rw [e1, e2, e3] at *
    clear e1 e2 e3
    obtain ⟨w3, hw3⟩ : ∃ w3, w2.alloc (.cells #[vs path, vs tok, .slice A3 body.length c3] 25) = w3 := ⟨_, rfl⟩
    have hl3 : w2.heap.size < w3.heap.size := by rw [← hw3]; simp
    have hb23 : Below w2.heap.size w2 w3 := by rw [← hw3]; exact (Below.refl _ w2).alloc (Nat.le_refl _) _
    have HB3 := Lib.hid (keepB HB2.out hb23)
    have hn3 : w3.heap[w2.heap.size]? = some (.cells #[vs path, vs tok, .slice A3 body.length c3] 25 (0, 0)) := by rw [← hw3]; exact heap_alloc_new w2 _
    have HC3 := Lib.hid (fun V (hb : Below w3.heap.size w3 V) => three_of ((hb.block w2.heap.size hl3).trans hn3))
    obtain ⟨v4, w4, hr4, hown4, hb4⟩ := app_bytes (c := c) (Nu.BOwn.nil w3 w3.heap.size) (n := 0) rfl (bread_below HR.out HB3.out) (by omega) (Nat.le_refl _)
    have HB34 := Lib.hid (hb4 w3 (Below.refl _ _))
    have HB4 := Lib.hid (keepB' HB3.out HB34.out HB3.out.size)
    rw [List.nil_append] at hown4
    obtain ⟨v5, w5, hr5, hown5, hb5⟩ := app_bytes (c := c2) hown4 HBL.out (bread_below HR2.out HB4.out) (by omega) HB34.out.size
    have HB35 := Lib.hid (hb5 w3 HB34.out)
    have HB5 := Lib.hid (keepB' HB3.out HB35.out HB3.out.size)
    obtain ⟨A4, c4, rfl, -, -⟩ := BOwn.rd hown4 (by rw [HBL.out]; omega)
    have hl5 : (b ++ more).length = n + n2 := by rw [List.length_append, HBL.out, HBL2.out]
    obtain ⟨A5, c5, rfl, hc5, hrd5⟩ := BOwn.rd hown5 (by rw [hl5]; omega)
    rw [HBL.out] at hr4 hr5
    rw [hl5] at hr5 hrd5 hc5
    have HR4 := Lib.hid hr4
    have HR5 := Lib.hid hr5
    have HP5 := Lib.hid (Parse_calls (b ++ more) A5 (n + n2) c5 w5 hrd5 (by omega) (HMX.out w5 HB5.out) (HT.out w5 HB5.out) (HE.out w5 HB5.out))
    clear hb23 hn3 hr4 hown4 hb4 hr5 hown5 hb5 hl5 hrd5 hc5
    obtain ⟨rm, hrm⟩ : ∃ r, parseB Nu.parseF (b ++ more) = r := ⟨_, rfl⟩
    rw [hrm] at HP5 HMT
    clear hrm
    go_wp2_with (at_builtin; first | refine Lib.wpList_append_run _ rfl _ _ 22 22 rfl _ _ rfl rfl _ _ HR4.out ?_ | refine Lib.wpList_append_run _ rfl _ _ 22 22 rfl _ _ rfl rfl _ _ HR5.out ?_)
    refine HP5.out.mono ?_
    intro e w6 hret
    obtain ⟨hb6, hres⟩ := hret.cases
    rcases hres with ⟨h0, -⟩ | ⟨h0, rfl⟩
    · exact absurd h0 HMT.out
    have HB36 := Lib.hid (keepB HB35.out hb6)
    have HB6 := Lib.hid (keepB HB5.out hb6)
    obtain ⟨rq5, st5⟩ := rm
    rw [show ((rq5, st5) : Rq × Nat).2 = st5 from rfl] at *
    have hst5 : ((st5 : Int) != 0) = true := by rw [bne_iff_ne]; omega
    clear hb6 hret HP5 h0 HR4 HR5
    have hb67 : Below w6.heap.size w6 (w6.alloc (.cells #[.string ⟨#[]⟩, .string ⟨#[]⟩, .slice none 0 0] 25)) := (Below.refl _ w6).alloc (Nat.le_refl _) _
    have HB37 := Lib.hid (keepB HB36.out hb67)
    have HB7 := Lib.hid (keepB HB6.out hb67)
    have HP8 := Lib.hid (Parse_calls (b.take (n - 1)) A (n - 1) c _ (bread_take (bread_below HR.out HB7.out) (by omega)) (by omega) (HMX.out _ HB7.out) (HT.out _ HB7.out) (HE.out _ HB7.out))
    obtain ⟨rl, hrl⟩ : ∃ r, parseB Nu.parseF (b.take (n - 1)) = r := ⟨_, rfl⟩
    rw [hrl] at HP8 HLT
    obtain ⟨N1, hN1⟩ : ∃ N, n - 1 = N := ⟨_, rfl⟩
    rw [hN1] at HP8
    have hNN : n = N1 + 1 := by omega
    have hN63 : (N1 : Int) + 1 ≤ (c : Int) := by omega
    have hN64 : (N1 : Int) ≤ (c : Int) := by omega
    have hN0 : (0 : Int) ≤ (N1 : Int) := by omega
    clear hrl hb67 hN1
    subst hNN
    go_wp2_with fail
    refine HP8.out.mono ?_
    intro e w8 hret
    obtain ⟨hb8, hres⟩ := hret.cases
    rcases hres with ⟨h0, -⟩ | ⟨h0, rfl⟩
    · exact absurd h0 HLT.out
    have HB38 := Lib.hid (keepB HB37.out hb8)
    have HB8 := Lib.hid (keepB HB7.out hb8)
    obtain ⟨rq8, st8⟩ := rl
    rw [show ((rq8, st8) : Rq × Nat).2 = st8 from rfl] at *
    have hst8 : ((st8 : Int) != 0) = true := by rw [bne_iff_ne]; omega
    clear hb8 hret HP8 h0
    have hb89 : Below w8.heap.size w8 (w8.alloc (.cells #[.string ⟨#[]⟩, .string ⟨#[]⟩, .slice none 0 0] 25)) := (Below.refl _ w8).alloc (Nat.le_refl _) _
    have HB9 := Lib.hid (keepB HB8.out hb89)
    obtain ⟨p0, p1, p2⟩ := HC3.out _ (keepB HB38.out hb89)
    clear hb89
    go_wp2
    go_ret
    exact ⟨rfl, HB9.out⟩
  · have h0' : ((st : Int) != 0) = true := by rw [bne_iff_ne]; have : st ≠ 0 := h0; omega
    go_wp2
    go_ret
    exact ⟨rfl, belAlloc HB2.out _⟩
end Go.Proofs.YtomancadpdccaaaGreatDoor.Ht

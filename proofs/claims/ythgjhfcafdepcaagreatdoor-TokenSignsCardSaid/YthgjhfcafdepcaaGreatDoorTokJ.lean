/-
  Tokens: what the statements share: few; the chapter's example.
-/
import Derived.Test.YthgjhfcafdepcaaGreatDoorTokP
import Derived.Lib.SlBytesConst
namespace Go.Proofs.YthgjhfcafdepcaaGreatDoor.Tk
open Go.RowKit Go.Proofs.YthgjhfcafdepcaaGreatDoor.B Go.Proofs.YthgjhfcafdepcaaGreatDoor.S10
open Go.Proofs.YthgjhfcafdepcaaGreatDoor.M
open Go.Proofs.YthgjhfcafdepcaaGreatDoor.C (QRow Turn)
open Go.Proofs.YthgjhfcafdepcaaGreatDoor.Sh (macF macF_len RdB)
open Go.Proofs.YthgjhfcafdepcaaGreatDoor.S01 (hexF unhexF)
set_option linter.unusedVariables false
set_option linter.unusedSimpArgs false

def fewB (ks : List Ky) : Bool := decide (ks.length ≤ 20) && allTo (n := ks.length) (fun i => decide ((kAt ks i).bytes.length ≤ 200)) ks.length
theorem few_of {ks : List Ky} (h : fewB ks = true) : ks.length ≤ 20 ∧ ∀ j, (kAt ks j).bytes.length ≤ 200 := by
  unfold fewB at h
  rw [Bool.and_eq_true, decide_eq_true_eq, allTo_iff] at h
  refine ⟨h.1, fun j => ?_⟩
  by_cases hj : j < ks.length
  · simpa using h.2 ⟨j, hj⟩
  · have : kAt ks j = ⟨[], [], false⟩ := by
      unfold kAt
      rw [List.getD_eq_getElem?_getD, List.getElem?_eq_none (by omega)]
      rfl
    rw [this]; simp
theorem Few.of {ks : List Ky} (h : fewB ks = true) : Few ks := by
  obtain ⟨h1, h2⟩ := few_of h
  exact ⟨by omega, fun j => by have := h2 j; omega⟩
set_option maxRecDepth 100000 in
set_option maxHeartbeats 1000000 in
theorem few_calls (ks : List Ky) (A : Option Addr) (n c : Nat) (w : World) (h : KeysR w ks A n) : Calls Tryz.prog 16 #[.slice A n c] w (BRet w (fewB ks)) := by
  have hnl := h.2.1
  have hkl := h.1
  have S := Lib.hid h
  clear h
  by_cases h20 : 20 < n
  · have HF := Lib.hid (show fewB ks = false by unfold fewB; rw [decide_eq_false (by omega)]; rfl)
    have h20' : (20 : Int) < (n : Int) := by omega
    go_enter Tryz.func16, Tryz.ntmps16
    go_wp2
    go_ret
    exact ⟨by rw [HF.out]; rfl, Below.refl _ _⟩
  · have h20' : ¬ (20 : Int) < (n : Int) := by omega
    have HFB := Lib.hid (show fewB ks = allTo (n := n) (fun i => decide ((kAt ks i).bytes.length ≤ 200)) n by
      subst hkl
      unfold fewB; rw [decide_eq_true (by omega)]; rfl)
    go_enter Tryz.func16, Tryz.ntmps16
    go_wp2_with fail
    go_loopw [3] (fun v3 wr => ∃ j : Nat, j ≤ n ∧ v3 = .int .i64 j ∧ Hid (allTo (n := n) (fun i => decide ((kAt ks i).bytes.length ≤ 200)) j = true) ∧ wr = w) (fun v3 _ => n - (intOf v3).toNat)
    case atStart => exact ⟨0, Nat.zero_le _, rfl, Lib.hid rfl, rfl⟩
    case round =>
      obtain ⟨j, hjn, rfl, HALL, rfl⟩ := hrel
      by_cases hj : j < n
      · obtain ⟨ad, p, B, m, d, rfl, hp, d0, d1, d2, hbl, hbd, hbr⟩ := key_cells S.out j hj
        have HST := Lib.hid (allTo_step (n := n) (fun i => decide ((kAt ks i).bytes.length ≤ 200)) hj)
        have HAF := Lib.hid (allTo_false (n := n) (fun i => decide ((kAt ks i).bytes.length ≤ 200)) n hj hj)
        have HBL := Lib.hid hbl
        clear hbl hbr d0 d2
        have hji : (j : Int) < (n : Int) := by omega
        by_cases h200 : 200 < m
        · have h2 : (200 : Int) < (m : Int) := by omega
          have HNO := Lib.hid (show decide ((kAt ks j).bytes.length ≤ 200) = false by rw [HBL.out]; exact decide_eq_false (by omega))
          go_wp2
          go_ret
          exact ⟨by rw [HFB.out, HAF.out HNO.out]; rfl, Below.refl _ _⟩
        · have h2 : ¬ (200 : Int) < (m : Int) := by omega
          have HYES := Lib.hid (show decide ((kAt ks j).bytes.length ≤ 200) = true by rw [HBL.out]; exact decide_eq_true (by omega))
          go_wp2
          exact ⟨⟨j + 1, by omega, by go_num, Lib.hid (by rw [HST.out, HALL.out]; show (true && decide ((kAt ks j).bytes.length ≤ 200)) = true; rw [HYES.out]; rfl), by first | trivial | rfl⟩, by simp [intOf]; omega⟩
      · have hjn' : j = n := by omega
        subst hjn'
        go_wp2
        go_ret
        exact ⟨by rw [HFB.out, HALL.out]; rfl, Below.refl _ _⟩
theorem ver_eq (c : Cl) (t g : Bs) (keys : List Ky) (now : Int) : verF (some (c, t, g)) keys now = (match findK keys c.key with
    | none => (noC, 14)
    | some k => if k.rev = true then (noC, 14) else if (macF k.bytes t == g) = false then (noC, 15) else if c.ex ≤ now then (noC, 16) else (c, 0)) := rfl
theorem ver_hit {c : Cl} {t g : Bs} {keys : List Ky} {now : Int} {k : Ky} (h : findK keys c.key = some k) (hr : k.rev = false) (hm : (macF k.bytes t == g) = true) (he : ¬ c.ex ≤ now) : verF (some (c, t, g)) keys now = (c, 0) := by
  rw [ver_eq, h]
  simp only
  rw [hr, if_neg (by simp), hm, if_neg (by simp), if_neg he]
/-! ### the chapter's example -/
def c0 : Cl := ⟨[97, 99, 109, 101], [117, 115, 101, 114], [97, 110, 110], [107, 49], 1000⟩
def t0 : Bs := [118, 49, 47, 97, 99, 109, 101, 47, 117, 115, 101, 114, 58, 97, 110, 110, 47, 107, 49, 47, 49, 48, 48, 48]
def k0 : Ky := ⟨[107, 49], [115], false⟩
theorem okc0 : okC c0 = true := by
  have h1 : (whoF c0).isEmpty = false := by decide +kernel
  have h2 : nameB (ba c0.tn) = true := by decide +kernel
  have h3 : nameB (ba c0.key) = true := by decide +kernel
  unfold okC
  rw [h1, h2, h3]
  rfl
theorem text_c0 : textF c0 = t0 := by
  rw [text_is okc0]
  decide +kernel
set_option maxRecDepth 100000 in
theorem ver_c0 : (signF [115] c0).length = 89 ∧ verF (readP (signF [115] c0)) [k0] 999 = (c0, 0) := by
  have hne : textF c0 ≠ [] := by rw [text_c0]; decide
  obtain ⟨h1, h2⟩ := read_sign (l := [115]) (c := c0) (by decide) (by decide) hne
  refine ⟨?_, ?_⟩
  · rw [h1, text_c0, List.length_append, List.length_cons, S01.hexF_len, macF_len]
    have : t0.length = 24 := by decide
    omega
  · rw [h2]
    exact ver_hit (k := k0) rfl rfl (beq_self_eq_true _) (by decide)
theorem lit_s (w : World) (g : Nat) (hg : g = w.heap.size) : ∃ W, (convert 22 22 (.slice (some ⟨g, 0, none⟩) 1 1)).run Tryz.prog (w.alloc (.cells #[.int .u8 115] 5)) = .ok (.slice (some ⟨g, 0, none⟩) 1 1) W ∧ RdB W (fun b => w.heap.size ≤ b) (some ⟨g, 0, none⟩) [115] ∧ Below w.heap.size w W ∧ W.heap.size = w.heap.size + 1 := by
  subst hg
  refine ⟨_, Lib.run_convert_bytes_const (P := Tryz.prog) w 22 5 #[.int .u8 115] 1 1 Tryz.underlying22 Tryz.underlying5, fun i x hx => ?_, (Below.refl _ w).alloc (Nat.le_refl _) _, by simp⟩
  refine ⟨_, rfl, Nat.le_refl _, ?_⟩
  have hi : i < 1 := (List.getElem?_eq_some_iff.1 hx).1
  obtain rfl : i = 0 := by omega
  cases hx
  rw [Addr.add_mid]
  have h := heap_alloc_new w (.cells #[.int .u8 115] 5 ((#[Value.int .u8 115] : Array Value).size, (#[Value.int .u8 115] : Array Value).size + 1))
  rw [cell_of_row _ _ _ _ _ _ h]
  rfl
theorem keys_one (V : World) (B : Option Addr) (hr : RdB V (fun _ => True) B [115]) : KeysR (V.alloc (.cells #[.string ⟨#[107, 49]⟩, .slice B 1 1, .bool false] 41)) [k0] (some ⟨V.heap.size, 0, none⟩) 1 := by
  have h := heap_alloc_new V (.cells #[.string ⟨#[107, 49]⟩, .slice B 1 1, .bool false] 41)
  refine ⟨rfl, by omega, fun k x hk => ?_⟩
  have hi : k < 1 := (List.getElem?_eq_some_iff.1 hk).1
  obtain rfl : k = 0 := by omega
  cases hk
  refine ⟨_, _, [.string ⟨#[107, 49]⟩, .slice B 1 1, .bool false], rfl, rfl, trivial, rfl, fun j u hu => ?_, ⟨B, 1, 1, rfl, rfl, Nat.le_refl _, hr.below ((Below.refl _ V).alloc (Nat.le_refl _) _) (fun _ _ _ => trivial)⟩⟩
  rw [Addr.add_mid, Addr.add_mid, cell_of_row _ _ _ _ _ (0, 0) h]
  have : 0 + 0 * 3 + j = j := by omega
  rw [this, ← hu]
  exact List.getElem?_toArray
theorem few_k0 : Few [k0] := ⟨by simp, fun j => by
  match j with
  | 0 => decide
  | j + 1 => show (kAt [k0] (j + 1)).bytes.length ≤ _; unfold kAt; simp⟩
theorem szc0 : Szc c0 := ⟨by decide, by decide, by decide, by decide, by decide, by decide⟩
set_option maxRecDepth 100000 in
set_option maxHeartbeats 4000000 in
theorem awake_calls (w : World) (ht : Nu.Tab w) (he : Nu.Errs w) : Calls Tryz.prog 9 #[] w (BRet w true) := by
  have HT := Lib.hid ht
  have HE := Lib.hid he
  clear ht he
  obtain ⟨h89, hver⟩ := ver_c0
  have HTX := Lib.hid (fun V (hb : Below w.heap.size w V) => Text_calls c0 szc0 V (Nu.Tab.below HT.out hb))
  rw [text_c0] at HTX
  obtain ⟨w0, hw0⟩ : ∃ w0, w.alloc (.cells (clC c0) 26) = w0 := ⟨_, rfl⟩
  have hs0 : w0.heap.size = w.heap.size + 1 := by rw [← hw0]; simp
  have HB0 := Lib.hid (show Below w.heap.size w w0 by rw [← hw0]; exact (Below.refl _ w).alloc (Nat.le_refl _) _)
  have HC0 := Lib.hid (show w0.heap[w.heap.size]? = some (.cells (clC c0) 26 (0, 0)) by rw [← hw0]; exact heap_alloc_new w _)
  have hw0' : w.alloc (.cells #[.string ⟨#[97, 99, 109, 101]⟩, .string ⟨#[117, 115, 101, 114]⟩, .string ⟨#[97, 110, 110]⟩, .string ⟨#[107, 49]⟩, .int .i64 1000] 26) = w0 := hw0
  have HCC := Lib.hid (fun V (hb : Below w0.heap.size w0 V) => five_cells ((hb.block w.heap.size (by omega)).trans HC0.out))
  obtain ⟨w1, hcv1, hr1, hb1, hs1⟩ := lit_s w0 w0.heap.size rfl
  have HB1 := Lib.hid hb1
  have HR1 := Lib.hid hr1
  obtain ⟨p0, p1, p2, p3, p4, -⟩ := HCC.out w1 hb1
  have HSG := Lib.hid (Sign_calls (l := [115]) (n := 1) (cp := 1) c0 szc0 w1 (Nu.Tab.below HT.out (below_more HB0.out hb1)) rfl (Nat.le_refl 1) (by omega) hr1)
  obtain ⟨S, hS⟩ : ∃ S, signF [115] c0 = S := ⟨_, rfl⟩
  rw [hS] at HSG h89 hver
  have HV := Lib.hid hver
  have HS0 := Lib.hid hs0
  clear hw0 hb1 hr1 hS hver hs0 hs1
  go_enter Tryz.func9, Tryz.ntmps9
  go_wp2_with fail
  refine HSG.out.mono ?_
  rintro e' w2 ⟨rfl, hb2⟩
  have HB2 := Lib.hid (below_more HB1.out hb2)
  clear hb2
  obtain ⟨w3, hcv3, hr3, hb3, -⟩ := lit_s w2 w2.heap.size rfl
  have HB3 := Lib.hid (below_more HB2.out hb3)
  have hk3 := keys_one w3 _ (hr3.mono (fun _ _ _ => trivial))
  have hb4 : Below w3.heap.size w3 (w3.alloc (.cells #[.string ⟨#[107, 49]⟩, .slice (some ⟨w2.heap.size, 0, none⟩) 1 1, .bool false] 41)) := (Below.refl _ w3).alloc (Nat.le_refl _) _
  have HB4 := Lib.hid (below_more HB3.out hb4)
  have HVF := Lib.hid (Verify_calls S (by omega) [k0] _ 1 1 999 _ hk3 few_k0 (Nu.Tab.below HT.out (below_more HB0.out HB4.out)) (Nu.Errs.below HE.out (below_more HB0.out HB4.out)))
  rw [HV.out] at HVF
  clear hr3 hb3 hk3 hb4
  go_wp2_with fail
  refine HVF.out.mono ?_
  rintro e' w5 ⟨rfl, hb5⟩
  have HB5 := Lib.hid (below_more HB4.out hb5)
  clear hb5
  rw [show clV (c0, (0 : Nat)).1 = clV c0 from rfl, show (((c0, (0 : Nat)).2 : Nat) : Int) = 0 from rfl]
  obtain ⟨w6, hw6⟩ : ∃ w6, w5.alloc (.cells (clC c0) 26) = w6 := ⟨_, rfl⟩
  have hw6' : w5.alloc (.cells #[vs c0.tn, vs c0.k, vs c0.i, vs c0.key, .int .i64 c0.ex] 26) = w6 := hw6
  have hl6 : w5.heap.size < w6.heap.size := by rw [← hw6]; simp
  have HC6 := Lib.hid (show w6.heap[w5.heap.size]? = some (.cells (clC c0) 26 (0, 0)) by rw [← hw6]; exact heap_alloc_new w5 _)
  have HB6 := Lib.hid (show Below w0.heap.size w0 w6 by rw [← hw6]; exact HB5.out.alloc HB5.out.size _)
  obtain ⟨q0, q1, q2, q3, q4, -⟩ := HCC.out w6 HB6.out
  have h89' : (60 : Int) < (S.length : Int) := by omega
  clear hw6 p0 p1 p2 p3 p4
  go_wp2_with fail
  refine (HTX.out _ (below_more HB0.out HB6.out)).mono ?_
  rintro e' w7 ⟨rfl, hb7⟩
  have HB7 := Lib.hid (below_more HB6.out hb7)
  obtain ⟨p0, p1, p2, p3, p4, -⟩ := HCC.out w7 HB7.out
  obtain ⟨m0, m1, m2, m3, m4, -⟩ := five_cells ((hb7.block _ hl6).trans HC6.out)
  clear hb7 q0 q1 q2 q3 q4
  rw [show vs t0 = .string ⟨#[118, 49, 47, 97, 99, 109, 101, 47, 117, 115, 101, 114, 58, 97, 110, 110, 47, 107, 49, 47, 49, 48, 48, 48]⟩ from rfl]
  go_wp2
  go_ret
  exact ⟨rfl, below_more HB0.out HB7.out⟩
end Go.Proofs.YthgjhfcafdepcaaGreatDoor.Tk

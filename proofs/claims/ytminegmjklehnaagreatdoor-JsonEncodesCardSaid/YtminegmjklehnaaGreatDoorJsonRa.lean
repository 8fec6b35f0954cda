/-
  What may be encoded: may, May.
-/
import Derived.Test.YtminegmjklehnaaGreatDoorJsonR
namespace Go.Proofs.YtminegmjklehnaaGreatDoor.J
open Go.RowKit Go.Proofs.YtminegmjklehnaaGreatDoor.B
open Go.Proofs.YtminegmjklehnaaGreatDoor.M hiding Bs
open Go.Proofs.YtminegmjklehnaaGreatDoor.C (QRow Turn)
set_option linter.unusedVariables false
set_option linter.unusedSimpArgs false

theorem JsV.shape {w : World} {F : Nat → Prop} {k n : Int} {t : Bs} {names : List Bs} {nk : Nat} {kid : Fin nk → Js} {k' n' : Int} {t' : Bs} {A : Option Addr} {an ac : Nat} {B : Option Addr} {bn bc : Nat} (h : JsV w F (.mk k n t names nk kid) (jAgg k' n' t' A an ac B bn bc)) :
    k' = k ∧ n' = n ∧ t' = t ∧ an = names.length ∧ bn = nk ∧ SlV w F 1 StrR names A names.length ∧ nk ≤ 9223372036854775807 ∧ names.length ≤ ac := by
  obtain ⟨A', ac', B', bc', he, hs, h1, h2⟩ := h.top
  obtain ⟨e1, e2, e3, e4, e5⟩ := agg5 he
  cases e1
  cases e2
  cases e4
  cases e5
  have e3 : t' = t := by simpa using e3
  exact ⟨rfl, rfl, e3, rfl, rfl, hs, h1, h2⟩
theorem mayJ_s (k n : Int) (t : Bs) (names : List Bs) (nk : Nat) (kid : Fin nk → Js) (d : Nat) : mayJ (.mk k n t names nk kid) (d + 1) = if k = 0 then true else if k = 1 then n == 0 || n == 1 else if k = 2 then decide (n < 1000000000000000) && decide (-1000000000000000 < n) else if k = 3 then validT t
    else if k = 4 then andTo (fun i => mayJ (kid i) d) nk
    else if k = 5 then names.length == nk && (namesOk names && andTo (fun i => mayJ (kid i) d) nk) else false := by rw [mayJ]
theorem mayJ_z (k n : Int) (t : Bs) (names : List Bs) (nk : Nat) (kid : Fin nk → Js) : mayJ (.mk k n t names nk kid) 0 = if k = 0 then true else if k = 1 then n == 0 || n == 1 else if k = 2 then decide (n < 1000000000000000) && decide (-1000000000000000 < n) else if k = 3 then validT t else false := by rw [mayJ]
theorem mayJ_k0 {n : Int} {t : Bs} {names : List Bs} {nk : Nat} {kid : Fin nk → Js} (d : Nat) : mayJ (.mk 0 n t names nk kid) d = true := by
  cases d with
  | zero => rw [mayJ_z, if_pos rfl]
  | succ d => rw [mayJ_s, if_pos rfl]
theorem mayJ_k1 {n : Int} {t : Bs} {names : List Bs} {nk : Nat} {kid : Fin nk → Js} (d : Nat) : mayJ (.mk 1 n t names nk kid) d = (n == 0 || n == 1) := by
  cases d with
  | zero => rw [mayJ_z, if_neg (by decide), if_pos rfl]
  | succ d => rw [mayJ_s, if_neg (by decide), if_pos rfl]
theorem mayJ_k2 {n : Int} {t : Bs} {names : List Bs} {nk : Nat} {kid : Fin nk → Js} (d : Nat) : mayJ (.mk 2 n t names nk kid) d = (decide (n < 1000000000000000) && decide (-1000000000000000 < n)) := by
  cases d with
  | zero => rw [mayJ_z, if_neg (by decide), if_neg (by decide), if_pos rfl]
  | succ d => rw [mayJ_s, if_neg (by decide), if_neg (by decide), if_pos rfl]
theorem mayJ_k3 {n : Int} {t : Bs} {names : List Bs} {nk : Nat} {kid : Fin nk → Js} (d : Nat) : mayJ (.mk 3 n t names nk kid) d = validT t := by
  cases d with
  | zero => rw [mayJ_z, if_neg (by decide), if_neg (by decide), if_neg (by decide), if_pos rfl]
  | succ d => rw [mayJ_s, if_neg (by decide), if_neg (by decide), if_neg (by decide), if_pos rfl]
theorem mayJ_k4 {n : Int} {t : Bs} {names : List Bs} {nk : Nat} {kid : Fin nk → Js} (d : Nat) : mayJ (.mk 4 n t names nk kid) (d + 1) = andTo (fun i => mayJ (kid i) d) nk := by
  rw [mayJ_s, if_neg (by decide), if_neg (by decide), if_neg (by decide), if_neg (by decide), if_pos rfl]
theorem mayJ_k5 {n : Int} {t : Bs} {names : List Bs} {nk : Nat} {kid : Fin nk → Js} (d : Nat) : mayJ (.mk 5 n t names nk kid) (d + 1) = (names.length == nk && (namesOk names && andTo (fun i => mayJ (kid i) d) nk)) := by
  rw [mayJ_s, if_neg (by decide), if_neg (by decide), if_neg (by decide), if_neg (by decide), if_neg (by decide), if_pos rfl]
theorem mayJ_no {k n : Int} {t : Bs} {names : List Bs} {nk : Nat} {kid : Fin nk → Js} (d : Nat) (h0 : k ≠ 0) (h1 : k ≠ 1) (h2 : k ≠ 2) (h3 : k ≠ 3) (h45 : d = 0 ∨ (k ≠ 4 ∧ k ≠ 5)) : mayJ (.mk k n t names nk kid) d = false := by
  cases d with
  | zero => rw [mayJ_z, if_neg h0, if_neg h1, if_neg h2, if_neg h3]
  | succ d =>
    obtain ⟨h4, h5⟩ := h45.resolve_left (by omega)
    rw [mayJ_s, if_neg h0, if_neg h1, if_neg h2, if_neg h3, if_neg h4, if_neg h5]
abbrev mayW (w : World) (k n : Int) (t : Bs) (A : Option Addr) (an ac : Nat) (B : Option Addr) (bn bc : Nat) (dp : Int) : World := (w.alloc (.cells (jcs k n t A an ac B bn bc) 27)).alloc (.cells #[.int .i64 dp] 3)
theorem may_start (w : World) (k n : Int) (t : Bs) (A : Option Addr) (an ac : Nat) (B : Option Addr) (bn bc : Nat) (dp : Int) :
    (mayW w k n t A an ac B bn bc dp).heap[w.heap.size]? = some (.cells (jcs k n t A an ac B bn bc) 27 (0, 0)) ∧ (mayW w k n t A an ac B bn bc dp).heap[w.heap.size + 1]? = some (.cells #[.int .i64 dp] 3 (0, 0)) ∧ Below w.heap.size w (mayW w k n t A an ac B bn bc dp) := by
  have h1 := heap_alloc_new w (.cells (jcs k n t A an ac B bn bc) 27)
  have s1 := asz w (.cells (jcs k n t A an ac B bn bc) 27)
  have h2 := heap_alloc_new (w.alloc (.cells (jcs k n t A an ac B bn bc) 27)) (.cells #[.int .i64 dp] 3)
  rw [s1] at h2
  exact ⟨(alloc_old _ (by omega)).trans h1, h2, ((Below.refl _ w).alloc (Nat.le_refl _) _).alloc (by omega) _⟩
set_option maxRecDepth 100000 in
set_option maxHeartbeats 40000000 in
theorem may_step (d : Nat) (hd12 : d ≤ 12) (hrec : ∀ d', d = d' + 1 → MSpec d') : MSpec d := by
  intro j w F k n t A an ac B bn bc h hf hT
  have hmf : ∀ (fn : Fn) (first cap : Array Value) (w : World), (Instr.makeFunc fn first cap).run Tryz.prog w = .ok (.func fn first cap) w := fun _ _ _ _ => rfl
  obtain ⟨k', n', t', names, nk, kid⟩ := j
  obtain ⟨rfl, rfl, rfl, rfl, rfl, hs, hnk, hac⟩ := h.shape
  obtain ⟨dp, hdp⟩ : ∃ dp, (12 : Int) - (d : Int) = dp := ⟨_, rfl⟩
  rw [hdp]
  unfold FitJ at hf
  obtain ⟨hf1, hf2, hf3⟩ := hf
  have hst := may_start w k n t A names.length ac B bn bc dp
  unfold mayW at hst
  obtain ⟨hj, hdc, hb⟩ := hst
  have HB := Lib.hid hb
  have HS := Lib.hid (SlV.below (R' := StrR) (by decide) hs hb (fun _ _ h => h))
  have HJ := Lib.hid (h.below hb)
  have HT := Lib.hid (hT.below hb)
  have HF1 := Lib.hid hf1
  have HF2 := Lib.hid hf2
  have HF3 := Lib.hid hf3
  have HREC := Lib.hid hrec
  have HDP := Lib.hid hdp
  have HD12 := Lib.hid hd12
  obtain ⟨j0, j1, j2, j3, j4, -⟩ := five_of hj
  have dc := cells_of hdc 0 _ rfl
  have hnl := hs.2.1
  have hd0 : 0 ≤ dp := by omega
  have hd1 : dp ≤ 12 := by omega
  clear hj hdc hb hs h hT hf1 hf2 hf3 hrec hdp hd12
  have HDC := Lib.hid dc
  by_cases k0 : k = 0
  · subst k0
    have HM := Lib.hid (mayJ_k0 (n := n) (t := t) (names := names) (kid := kid) d)
    go_enter Tryz.func34, Tryz.ntmps34
    go_wp2
    go_ret
    exact ⟨by rw [HM.out]; rfl, HB.out⟩
  by_cases k1 : k = 1
  · subst k1
    have HM := Lib.hid (mayJ_k1 (n := n) (t := t) (names := names) (kid := kid) d)
    by_cases n0 : n = 0
    · subst n0
      go_enter Tryz.func34, Tryz.ntmps34
      go_wp2
      go_ret
      exact ⟨by rw [HM.out]; rfl, HB.out⟩
    by_cases n1 : n = 1
    · subst n1
      go_enter Tryz.func34, Tryz.ntmps34
      go_wp2
      go_ret
      exact ⟨by rw [HM.out]; rfl, HB.out⟩
    · go_enter Tryz.func34, Tryz.ntmps34
      go_wp2
      go_ret
      exact ⟨by rw [HM.out]; rfl, HB.out⟩
  by_cases k2 : k = 2
  · subst k2
    have HM := Lib.hid (mayJ_k2 (n := n) (t := t) (names := names) (kid := kid) d)
    by_cases n0 : n < 1000000000000000
    · by_cases n1 : -1000000000000000 < n
      · have HM2 := Lib.hid (HM.out.trans (show _ = true by rw [decide_eq_true n0, decide_eq_true n1]; rfl))
        go_enter Tryz.func34, Tryz.ntmps34
        go_wp2
        go_ret
        exact ⟨by rw [HM2.out]; rfl, HB.out⟩
      · have HM2 := Lib.hid (HM.out.trans (show _ = false by rw [decide_eq_false n1, Bool.and_false]))
        go_enter Tryz.func34, Tryz.ntmps34
        go_wp2
        go_ret
        exact ⟨by rw [HM2.out]; rfl, HB.out⟩
    · have HM2 := Lib.hid (HM.out.trans (show _ = false by rw [decide_eq_false n0]; rfl))
      go_enter Tryz.func34, Tryz.ntmps34
      go_wp2
      go_ret
      exact ⟨by rw [HM2.out]; rfl, HB.out⟩
  by_cases k3 : k = 3
  · subst k3
    have HM := Lib.hid (mayJ_k3 (n := n) (t := t) (names := names) (kid := kid) d)
    go_enter Tryz.func34, Tryz.ntmps34
    go_wp2_with fail
    refine (valid_calls t _ HF1.out HT.out).mono ?_
    rintro e w1 ⟨rfl, hb⟩
    have HB1 := Lib.hid (keepB HB.out hb)
    clear hb
    go_wp2
    go_ret
    exact ⟨by rw [HM.out]; rfl, HB1.out⟩
  cases d with
  | zero =>
    have HM := Lib.hid (mayJ_no (n := n) (t := t) (names := names) (kid := kid) 0 k0 k1 k2 k3 (.inl rfl))
    have hge : ¬ dp < 12 := by have := HDP.out; omega
    by_cases k4 : k = 4
    · subst k4
      go_enter Tryz.func34, Tryz.ntmps34
      go_wp2
      go_ret
      exact ⟨by rw [HM.out]; rfl, HB.out⟩
    by_cases k5 : k = 5
    · subst k5
      go_enter Tryz.func34, Tryz.ntmps34
      go_wp2
      go_ret
      exact ⟨by rw [HM.out]; rfl, HB.out⟩
    · go_enter Tryz.func34, Tryz.ntmps34
      go_wp2
      go_ret
      exact ⟨by rw [HM.out]; rfl, HB.out⟩
  | succ d =>
    have hlt : dp < 12 := by have := HDP.out; omega
    have HK := Lib.hid (fun W (hb : Below (mayW w k n t A names.length ac B bn bc dp).heap.size (mayW w k n t A names.length ac B bn bc dp) W) => anyKid_calls (HREC.out d rfl) (HJ.out.below hb) HF3.out (HT.out.below hb) (by have := HD12.out; omega) (dp := dp) (by have := HDP.out; omega) (keepC hb HDC.out) bc)
    by_cases k4 : k = 4
    · subst k4
      have HM := Lib.hid (mayJ_k4 (n := n) (t := t) (names := names) (kid := kid) d)
      go_enter Tryz.func34, Tryz.ntmps34
      go_wp2_with fail
      refine (HK.out _ (Below.refl _ _)).mono ?_
      rintro e w1 ⟨rfl, hb⟩
      have HB1 := Lib.hid (keepB HB.out hb)
      clear hb
      go_wp2
      go_ret
      exact ⟨by rw [HM.out]; first | rfl | simp, HB1.out⟩
    by_cases k5 : k = 5
    · subst k5
      have HM := Lib.hid (mayJ_k5 (n := n) (t := t) (names := names) (kid := kid) d)
      by_cases hle : names.length = bn
      · subst hle
        have HM2 := Lib.hid (HM.out.trans (show _ = (namesOk names && andTo (fun i => mayJ (kid i) d) names.length) by rw [beq_self_eq_true, Bool.true_and]))
        go_enter Tryz.func34, Tryz.ntmps34
        go_wp2_with fail
        refine (names_calls HS.out hac HT.out HF2.out).mono ?_
        rintro e w1 ⟨rfl, hb⟩
        have HB1 := Lib.hid hb
        clear hb
        cases hn : namesGo [] names with
        | false =>
          have HM3 := Lib.hid (HM2.out.trans (show _ = false by unfold namesOk; rw [hn]; rfl))
          go_wp2
          go_ret
          exact ⟨by rw [HM3.out]; rfl, keepB HB.out HB1.out⟩
        | true =>
          have HM3 := Lib.hid (HM2.out.trans (show _ = andTo (fun i => mayJ (kid i) d) names.length by unfold namesOk; rw [hn]; rfl))
          have j4' := keepC HB1.out j4
          have dc' := keepC HB1.out HDC.out
          go_wp2_with fail
          refine (HK.out _ HB1.out).mono ?_
          rintro e w2 ⟨rfl, hb⟩
          have HB2 := Lib.hid (keepB (keepB HB.out HB1.out) hb)
          clear hb
          go_wp2
          go_ret
          exact ⟨by rw [HM3.out]; first | rfl | simp, HB2.out⟩
      · have HM2 := Lib.hid (HM.out.trans (show _ = false by rw [beq_eq_false_iff_ne.2 hle]; rfl))
        have hlei : ¬ (names.length : Int) = (bn : Int) := by omega
        go_enter Tryz.func34, Tryz.ntmps34
        go_wp2
        go_ret
        exact ⟨by rw [HM2.out]; rfl, HB.out⟩
    · have HM := Lib.hid (mayJ_no (n := n) (t := t) (names := names) (kid := kid) (d + 1) k0 k1 k2 k3 (.inr ⟨k4, k5⟩))
      go_enter Tryz.func34, Tryz.ntmps34
      go_wp2
      go_ret
      exact ⟨by rw [HM.out]; rfl, HB.out⟩
theorem may_calls : ∀ d, d ≤ 12 → MSpec d
  | 0, h => may_step 0 h (fun _ h => by omega)
  | d + 1, h => may_step (d + 1) h (fun d' h' => by cases h'; exact may_calls d (by omega))
end Go.Proofs.YtminegmjklehnaaGreatDoor.J

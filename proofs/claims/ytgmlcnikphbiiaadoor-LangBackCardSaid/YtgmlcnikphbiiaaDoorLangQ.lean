/-
  Expressions as text: sign, may, show, Expr.
-/
import Derived.Test.YtgmlcnikphbiiaaDoorLangP
namespace Go.Proofs.YtgmlcnikphbiiaaDoor.L
open Go.RowKit Go.Proofs.YtgmlcnikphbiiaaDoor.B Go.Proofs.YtgmlcnikphbiiaaDoor.S10 Go.Proofs.YtgmlcnikphbiiaaDoor.Nm
open Go.Proofs.YtgmlcnikphbiiaaDoor.C (QRow Turn wpList_append_q)
set_option linter.unusedVariables false
set_option linter.unusedSimpArgs false

def signK (k : Int) : Bs := if k = 2 then [32, 43, 32] else if k = 3 then [32, 38, 32] else if k = 4 then [32, 45, 32] else []
set_option maxRecDepth 100000 in
theorem sign_calls (k : Int) (w : World) : Calls Tryd.prog 68 #[.int .i64 k] w fun e w' => e = .returned (vs (signK k)) ∧ w' = w := by
  by_cases h2 : k = 2
  · subst h2
    go_enter Tryd.func68, Tryd.ntmps68
    go_wp2
    go_ret
    exact ⟨rfl, rfl⟩
  by_cases h3 : k = 3
  · subst h3
    go_enter Tryd.func68, Tryd.ntmps68
    go_wp2
    go_ret
    exact ⟨rfl, rfl⟩
  by_cases h4 : k = 4
  · subst h4
    go_enter Tryd.func68, Tryd.ntmps68
    go_wp2
    go_ret
    exact ⟨rfl, rfl⟩
  have e2 : (k == 2) = false := by simpa using h2
  have e3 : (k == 3) = false := by simpa using h3
  have e4 : (k == 4) = false := by simpa using h4
  have e : signK k = [] := by unfold signK; rw [if_neg h2, if_neg h3, if_neg h4]
  rw [e]
  clear h2 h3 h4 e
  go_enter Tryd.func68, Tryd.ntmps68
  go_wp2
  go_ret
  exact ⟨rfl, rfl⟩
/-- names of a tree are no longer than a string may be. -/
def Ex.Fit : Ex → Prop
  | .mk _ nm ov n kid => nm.length ≤ 9223372036854775807 ∧ ov.length ≤ 9223372036854775807 ∧ ∀ i : Fin n, (kid i).Fit
def mayE : Ex → Nat → Bool
  | .mk _ _ _ _ _, 0 => false
  | .mk k a b n kid, m + 1 =>
    if k = 0 then nm a && n == 0
    else if k = 1 then nm a && (nm b && n == 0)
    else !(signK k).isEmpty && (if h : n = 2 then mayE (kid ⟨0, by omega⟩) m && mayE (kid ⟨1, by omega⟩) m else false)
theorem mayE_0 (k : Int) (a b : Bs) (n : Nat) (kid : Fin n → Ex) : mayE (.mk k a b n kid) 0 = false := rfl
theorem mayE_s (k : Int) (a b : Bs) (n : Nat) (kid : Fin n → Ex) (m : Nat) : mayE (.mk k a b n kid) (m + 1) = if k = 0 then nm a && n == 0
    else if k = 1 then nm a && (nm b && n == 0)
    else !(signK k).isEmpty && (if h : n = 2 then mayE (kid ⟨0, by omega⟩) m && mayE (kid ⟨1, by omega⟩) m else false) := rfl
def showE : Ex → Bs
  | .mk k a b n kid => if k = 0 then a else if k = 1 then a ++ [46] ++ b else if h : n = 2 then [40] ++ showE (kid ⟨0, by omega⟩) ++ signK k ++ showE (kid ⟨1, by omega⟩) ++ [41] else []
theorem showE_eq (k : Int) (a b : Bs) (n : Nat) (kid : Fin n → Ex) : showE (.mk k a b n kid) = if k = 0 then a else if k = 1 then a ++ [46] ++ b else if h : n = 2 then [40] ++ showE (kid ⟨0, by omega⟩) ++ signK k ++ showE (kid ⟨1, by omega⟩) ++ [41] else [] := rfl
def exprP (e : Ex) : Bs := if mayE e 12 then showE e else []
theorem add_zero (a : Addr) : a.add 0 = a := by
  unfold Addr.add
  split <;> simp_all
def MayRet (w : World) (b : Bool) (e : Ending) (w' : World) : Prop := e = .returned (.bool b) ∧ Below w.heap.size w w'
abbrev exAgg (k : Int) (a b : Bs) (A : Option Addr) (n c : Nat) : Value := .agg #[.int .i64 k, vs a, vs b, .slice A n c]
theorem nat0 (n : Nat) : ((n : Int) == 0) = (n == 0) := by cases n <;> simp <;> omega
set_option maxRecDepth 100000 in
set_option maxHeartbeats 1000000 in
theorem may_zero (k : Int) (a b : Bs) (A : Option Addr) (n c : Nat) (w : World) : Calls Tryd.prog 42 #[exAgg k a b A n c, .int .i64 0] w (MayRet w false) := by
  go_enter Tryd.func42, Tryd.ntmps42
  go_wp2
  go_ret
  exact ⟨rfl, (Below.refl _ w).alloc (Nat.le_refl _) _⟩
set_option maxRecDepth 100000 in
set_option maxHeartbeats 1000000 in
theorem may_rel (a b : Bs) (ha : a.length ≤ 9223372036854775807) (A : Option Addr) (n c m : Nat) (hn : n ≤ 9223372036854775807) (hm : m ≤ 1000) (w : World) : Calls Tryd.prog 42 #[exAgg 0 a b A n c, .int .i64 (m + 1 : Nat)] w (MayRet w (nm a && n == 0)) := by
  have HNA := Lib.hid (fun W => Name_calls ⟨a.toArray⟩ W (by rw [sz]; exact ha))
  have hm0 : ((((m + 1 : Nat) : Int)) == 0) = false := by simp; omega
  have hn0 := nat0 n
  have HA := Lib.hid (show nameB ⟨a.toArray⟩ = nm a from rfl)
  generalize (n == 0) = bb at *
  clear ha
  obtain ⟨na, hna⟩ : ∃ na, nm a = na := ⟨_, rfl⟩
  rw [hna]
  have HN := Lib.hid hna
  clear hna
  cases na
  all_goals
    go_enter Tryd.func42, Tryd.ntmps42
    go_wp2_with (first | (refine (HNA.out _).mono ?_; rintro e w' ⟨rfl, rfl⟩; rw [HA.out, HN.out]))
    go_ret
    exact ⟨rfl, (Below.refl _ w).alloc (Nat.le_refl _) _⟩
set_option maxRecDepth 100000 in
set_option maxHeartbeats 1000000 in
theorem may_arr (a b : Bs) (ha : a.length ≤ 9223372036854775807) (hb : b.length ≤ 9223372036854775807) (A : Option Addr) (n c m : Nat) (hn : n ≤ 9223372036854775807) (hm : m ≤ 1000) (w : World) :
    Calls Tryd.prog 42 #[exAgg 1 a b A n c, .int .i64 (m + 1 : Nat)] w (MayRet w (nm a && (nm b && n == 0))) := by
  have HNA := Lib.hid (fun W => Name_calls ⟨a.toArray⟩ W (by rw [sz]; exact ha))
  have HNB := Lib.hid (fun W => Name_calls ⟨b.toArray⟩ W (by rw [sz]; exact hb))
  have hm0 : ((((m + 1 : Nat) : Int)) == 0) = false := by simp; omega
  have hn0 := nat0 n
  have HA := Lib.hid (show nameB ⟨a.toArray⟩ = nm a from rfl)
  have HB := Lib.hid (show nameB ⟨b.toArray⟩ = nm b from rfl)
  generalize (n == 0) = bb at *
  clear ha hb
  obtain ⟨na, hna⟩ : ∃ na, nm a = na := ⟨_, rfl⟩
  obtain ⟨nb, hnb⟩ : ∃ nb, nm b = nb := ⟨_, rfl⟩
  rw [hna, hnb]
  have HN := Lib.hid hna
  have HM := Lib.hid hnb
  clear hna hnb
  cases na <;> cases nb
  all_goals
    go_enter Tryd.func42, Tryd.ntmps42
    go_wp2_with fail
    refine (HNA.out _).mono ?_
    rintro e w' ⟨rfl, rfl⟩
    rw [HA.out, HN.out]
    go_wp2_with (first | (refine (HNB.out _).mono ?_; rintro e w' ⟨rfl, rfl⟩; rw [HB.out, HM.out]))
    go_ret
    exact ⟨rfl, (Below.refl _ w).alloc (Nat.le_refl _) _⟩
set_option maxRecDepth 100000 in
set_option maxHeartbeats 1000000 in
theorem may_none (k : Int) (h0 : (k == 0) = false) (h1 : (k == 1) = false) (hs : signK k = []) (a b : Bs) (A : Option Addr) (n c m : Nat) (hn : n ≤ 9223372036854775807) (hm : m ≤ 1000) (w : World) :
    Calls Tryd.prog 42 #[exAgg k a b A n c, .int .i64 (m + 1 : Nat)] w (MayRet w false) := by
  have hm0 : ((((m + 1 : Nat) : Int)) == 0) = false := by simp; omega
  have HS := Lib.hid hs
  clear hs
  go_enter Tryd.func42, Tryd.ntmps42
  go_wp2_with fail
  refine (sign_calls k _).mono ?_
  rintro e w' ⟨rfl, rfl⟩
  rw [HS.out]
  go_wp2
  go_ret
  exact ⟨rfl, (Below.refl _ w).alloc (Nat.le_refl _) _⟩
set_option maxRecDepth 100000 in
set_option maxHeartbeats 1000000 in
theorem may_two (k : Int) (h0 : (k == 0) = false) (h1 : (k == 1) = false) (hs : (signK k).isEmpty = false) (a b : Bs) (A : Option Addr) (n c m : Nat) (hn : n ≤ 9223372036854775807) (h2 : ((n : Int) == 2) = false) (hm : m ≤ 1000) (w : World) :
    Calls Tryd.prog 42 #[exAgg k a b A n c, .int .i64 (m + 1 : Nat)] w (MayRet w false) := by
  have hm0 : ((((m + 1 : Nat) : Int)) == 0) = false := by simp; omega
  obtain ⟨sg, hsg⟩ : ∃ sg, signK k = sg := ⟨_, rfl⟩
  rw [hsg] at hs
  have HS := Lib.hid hsg
  clear hsg
  go_enter Tryd.func42, Tryd.ntmps42
  go_wp2_with fail
  refine (sign_calls k _).mono ?_
  rintro e w' ⟨rfl, rfl⟩
  rw [HS.out]
  go_wp2
  go_ret
  exact ⟨rfl, (Below.refl _ w).alloc (Nat.le_refl _) _⟩
set_option maxRecDepth 100000 in
set_option maxHeartbeats 1000000 in
theorem may_op (F : Nat → Prop) (k : Int) (h0 : (k == 0) = false) (h1 : (k == 1) = false) (hs : (signK k).isEmpty = false) (a b : Bs) (A : Option Addr) (c m : Nat) (kid : Fin 2 → Ex) (hm : m ≤ 1000) (w : World)
    (ih : ∀ i v w, ExV w F (kid i) v → Calls Tryd.prog 42 #[v, .int .i64 m] w (MayRet w (mayE (kid i) m))) (hv : ExV w F (.mk k a b 2 kid) (exAgg k a b A 2 c)) :
    Calls Tryd.prog 42 #[exAgg k a b A 2 c, .int .i64 (m + 1 : Nat)] w (MayRet w (mayE (kid ⟨0, by omega⟩) m && mayE (kid ⟨1, by omega⟩) m)) := by
  have hm0 : ((((m + 1 : Nat) : Int)) == 0) = false := by simp; omega
  obtain ⟨sg, hsg⟩ : ∃ sg, signK k = sg := ⟨_, rfl⟩
  rw [hsg] at hs
  have HS := Lib.hid hsg
  have HIH := Lib.hid ih
  obtain ⟨a1, b1, k1, p1, q1, A1, n1, c1, rfl, hb1, -, d0, d1, d2, d3, hx1⟩ := (hv.alloc (.cells #[.int .i64 k, vs a, vs b, .slice A 2 c] 38)).kid 0 (by omega)
  have hb1' : a1 = b1 := by rw [← hb1, Nat.zero_mul]; exact (add_zero a1).symm
  subst hb1'
  clear hb1
  have hv1 := hv.alloc (.cells #[.int .i64 k, vs a, vs b, .slice (some a1) 2 c] 38)
  have H1 := Lib.hid hx1
  have HV1 := Lib.hid hv1
  have hm1 : (((m + 1 : Nat) : Int) - 1) = (m : Int) := by omega
  clear hx1 hsg hv hv1 ih
  go_enter Tryd.func42, Tryd.ntmps42
  go_wp2_with fail
  refine (sign_calls _ _).mono ?_
  rintro e w' ⟨rfl, rfl⟩
  rw [HS.out]
  go_wp2_with fail
  refine (HIH.out ⟨0, by omega⟩ _ _ H1.out).mono ?_
  rintro e w1 ⟨rfl, hb⟩
  have hB := keepB ((Below.refl _ w).alloc (Nat.le_refl _) (.cells #[.int .i64 k, vs a, vs b, .slice (some a1) 2 c] 38)) hb
  obtain ⟨r1, hr1⟩ : ∃ r, mayE (kid ⟨0, by omega⟩) m = r := ⟨_, rfl⟩
  rw [hr1]
  obtain ⟨a2, b2, k2, p2, q2, A2, n2, c2, ha2, hb2, -, e0, e1, e2, e3, hx2⟩ := (HV1.out.below hb).kid 1 (by omega)
  simp only [Option.some.injEq] at ha2
  subst ha2
  have hb2' : b2 = ⟨a1.block, a1.off + 4, none⟩ := by rw [← hb2]; exact Addr.add_succ' a1 3
  subst hb2'
  have HR1 := Lib.hid hr1
  have HB := Lib.hid hB
  have H2 := Lib.hid hx2
  obtain ⟨t0, t1, t2, t3, -⟩ := four_of ((hb.block w.heap.size (by simp)).trans (heap_alloc_new w (.cells #[.int .i64 k, vs a, vs b, .slice (some a1) 2 c] 38)))
  clear hb2 hr1 hB hx2 hb d0 d1 d2 d3
  cases r1 with
  | false =>
    go_wp2
    go_ret
    exact ⟨by rw [HR1.out]; rfl, HB.out⟩
  | true =>
    go_wp2_with fail
    refine (HIH.out ⟨1, by omega⟩ _ _ H2.out).mono ?_
    rintro e w2 ⟨rfl, hb⟩
    have HB2 := Lib.hid (keepB HB.out hb)
    clear hb
    obtain ⟨r2, hr2⟩ : ∃ r, mayE (kid ⟨1, by omega⟩) m = r := ⟨_, rfl⟩
    rw [hr2]
    have HR2 := Lib.hid hr2
    clear hr2
    go_wp2
    go_ret
    exact ⟨by rw [HR1.out, HR2.out]; rfl, HB2.out⟩
set_option maxRecDepth 100000 in
set_option maxHeartbeats 1000000 in
theorem may_calls (F : Nat → Prop) : ∀ (e : Ex) (m : Nat) (v : Value) (w : World), ExV w F e v → e.Fit → m ≤ 1000 → Calls Tryd.prog 42 #[v, .int .i64 m] w (MayRet w (mayE e m))
  | .mk k a b n kid, m, v, w, h, hf, hm => by
    obtain ⟨⟨A, c, rfl⟩, hnl⟩ := h.top
    have ih := fun i m v w h => may_calls F (kid i) m v w h (hf.2.2 i)
    cases m with
    | zero => exact may_zero k a b A n c w
    | succ m =>
      rw [mayE_s]
      by_cases hk0 : k = 0
      · subst hk0
        rw [if_pos rfl]
        exact may_rel a b hf.1 A n c m hnl (by omega) w
      rw [if_neg hk0]
      have h0 : (k == 0) = false := by simpa using hk0
      by_cases hk1 : k = 1
      · subst hk1
        rw [if_pos rfl]
        exact may_arr a b hf.1 hf.2.1 A n c m hnl (by omega) w
      rw [if_neg hk1]
      have h1 : (k == 1) = false := by simpa using hk1
      cases hs : (signK k).isEmpty with
      | true => exact may_none k h0 h1 (List.isEmpty_iff.1 hs) a b A n c m hnl (by omega) w
      | false =>
        by_cases hn2 : n = 2
        · subst hn2
          rw [dif_pos rfl]
          exact may_op F k h0 h1 hs a b A c m kid (by omega) w (fun i v w hv => ih i m v w hv (by omega)) h
        · rw [dif_neg hn2]
          exact may_two k h0 h1 hs a b A n c m hnl (by simp; omega) (by omega) w
/-! ### show -/
theorem showE_len : ∀ (m : Nat) (e : Ex), mayE e m = true → (showE e).length + 5 ≤ 40 * 2 ^ m
  | 0, .mk k a b n kid, h => by rw [mayE_0] at h; cases h
  | m + 1, .mk k a b n kid, h => by
    have hp : 1 ≤ 2 ^ m := Nat.one_le_two_pow
    rw [mayE_s] at h
    rw [showE_eq, Nat.pow_succ]
    by_cases hk0 : k = 0
    · rw [if_pos hk0] at h ⊢
      simp at h
      have := nameB_size h.1
      rw [sz] at this
      omega
    rw [if_neg hk0] at h ⊢
    by_cases hk1 : k = 1
    · rw [if_pos hk1] at h ⊢
      simp at h
      have h1 := nameB_size h.1
      have h2 := nameB_size h.2.1
      rw [sz] at h1 h2
      simp
      omega
    rw [if_neg hk1] at h ⊢
    by_cases hn : n = 2
    · subst hn
      rw [dif_pos rfl] at h ⊢
      simp at h
      have h1 := showE_len m _ h.2.1
      have h2 := showE_len m _ h.2.2
      have h3 : (signK k).length ≤ 3 := by unfold signK; split <;> (try split) <;> (try split) <;> simp
      simp
      omega
    · rw [dif_neg hn] at h
      simp at h
theorem ExV.drew {w : World} {F : Nat → Prop} {e : Ex} {v : Value} (h : ExV w F e v) : ExV w.drew F e v := ExV.keep (w := w) (w' := w.drew) (fun _ h _ => h) (fun _ _ _ h => h) e v h
def ShowRet (w : World) (s : Bs) (e : Ending) (w' : World) : Prop := e = .returned (vs s) ∧ Below w.heap.size w w'
set_option maxRecDepth 100000 in
set_option maxHeartbeats 1000000 in
theorem show_rel (a b : Bs) (A : Option Addr) (n c : Nat) (w : World) : Calls Tryd.prog 43 #[exAgg 0 a b A n c] w (ShowRet w a) := by
  go_enter Tryd.func43, Tryd.ntmps43
  go_wp2
  go_ret
  exact ⟨rfl, (Below.refl _ w).alloc (Nat.le_refl _) _⟩
set_option maxRecDepth 100000 in
set_option maxHeartbeats 1000000 in
theorem show_arr (a b : Bs) (ha : a.length ≤ 16) (hb : b.length ≤ 16) (A : Option Addr) (n c : Nat) (w : World) : Calls Tryd.prog 43 #[exAgg 1 a b A n c] w (ShowRet w (a ++ [46] ++ b)) := by
  go_enter Tryd.func43, Tryd.ntmps43
  go_wp2
  go_ret
  exact ⟨rfl, (Below.refl _ w).alloc (Nat.le_refl _) _⟩
set_option maxRecDepth 100000 in
set_option maxHeartbeats 4000000 in
theorem show_op (F : Nat → Prop) (k : Int) (h0 : (k == 0) = false) (h1 : (k == 1) = false) (a b : Bs) (A : Option Addr) (c : Nat) (kid : Fin 2 → Ex) (w : World) (s1 s2 : Bs) (hs1 : s1.length ≤ 1000000) (hs2 : s2.length ≤ 1000000)
    (ih1 : ∀ v w, ExV w F (kid ⟨0, by omega⟩) v → Calls Tryd.prog 43 #[v] w (ShowRet w s1)) (ih2 : ∀ v w, ExV w F (kid ⟨1, by omega⟩) v → Calls Tryd.prog 43 #[v] w (ShowRet w s2))
    (hv : ExV w F (.mk k a b 2 kid) (exAgg k a b A 2 c)) :
    Calls Tryd.prog 43 #[exAgg k a b A 2 c] w (ShowRet w ([40] ++ s1 ++ signK k ++ s2 ++ [41])) := by
  obtain ⟨sg, hsg⟩ : ∃ sg, signK k = sg := ⟨_, rfl⟩
  rw [hsg]
  have hsl : sg.length ≤ 3 := by rw [← hsg]; unfold signK; split <;> (try split) <;> (try split) <;> simp
  have HS := Lib.hid hsg
  have q1 : ¬ 9223372036854775807 < 1 + s1.length := by omega
  have q2 : ¬ 9223372036854775807 < 1 + s1.length + sg.length := by omega
  have q3 : ¬ 9223372036854775807 < 1 + s1.length + sg.length + s2.length := by omega
  have q4 : ¬ 9223372036854775807 < 1 + s1.length + sg.length + s2.length + 1 := by omega
  have I1 := Lib.hid ih1
  have I2 := Lib.hid ih2
  obtain ⟨a1, b1, k1, p1, q1, A1, n1, c1, rfl, hb1, -, d0, d1, d2, d3, hx1⟩ := (hv.alloc (.cells #[.int .i64 k, vs a, vs b, .slice A 2 c] 38)).kid 0 (by omega)
  have hb1' : a1 = b1 := by rw [← hb1, Nat.zero_mul]; exact (add_zero a1).symm
  subst hb1'
  obtain ⟨a2, b2, k2, p2, q2, A2, n2, c2, ha2, hb2, -, e0, e1, e2, e3, hx2⟩ := (hv.alloc (.cells #[.int .i64 k, vs a, vs b, .slice (some a1) 2 c] 38)).kid 1 (by omega)
  simp only [Option.some.injEq] at ha2
  subst ha2
  have hb2' : b2 = ⟨a1.block, a1.off + 4, none⟩ := by rw [← hb2]; exact Addr.add_succ' a1 3
  subst hb2'
  have hk : ∀ w1, Below (w.alloc (.cells #[.int .i64 k, vs a, vs b, .slice (some a1) 2 c] 38)).drew.heap.size (w.alloc (.cells #[.int .i64 k, vs a, vs b, .slice (some a1) 2 c] 38)).drew w1 →
      (w1.cell? ⟨w.heap.size, 0, none⟩ = some (.int .i64 k) ∧ w1.cell? ⟨w.heap.size, 3, none⟩ = some (.slice (some a1) 2 c)) ∧ (w1.cell? a1 = some (.int .i64 k1) ∧ w1.cell? ⟨a1.block, a1.off + 1, none⟩ = some (vs p1) ∧ w1.cell? ⟨a1.block, a1.off + 2, none⟩ = some (vs q1) ∧ w1.cell? ⟨a1.block, a1.off + 3, none⟩ = some (.slice A1 n1 c1)) ∧ (w1.cell? ⟨a1.block, a1.off + 4, none⟩ = some (.int .i64 k2) ∧ w1.cell? ⟨a1.block, a1.off + 4 + 1, none⟩ = some (vs p2) ∧ w1.cell? ⟨a1.block, a1.off + 4 + 2, none⟩ = some (vs q2) ∧ w1.cell? ⟨a1.block, a1.off + 4 + 3, none⟩ = some (.slice A2 n2 c2)) ∧
      ExV w1 F (kid ⟨1, by omega⟩) (.agg #[.int .i64 k2, vs p2, vs q2, .slice A2 n2 c2]) ∧ Below w.heap.size w w1 := fun w1 hb' => by
    have hb : Below (w.alloc (.cells #[.int .i64 k, vs a, vs b, .slice (some a1) 2 c] 38)).heap.size (w.alloc (.cells #[.int .i64 k, vs a, vs b, .slice (some a1) 2 c] 38)) w1 := ⟨hb'.os, hb'.tape, hb'.output, hb'.size, hb'.block⟩
    have hg := (hb.block w.heap.size (by simp)).trans (heap_alloc_new w (.cells #[.int .i64 k, vs a, vs b, .slice (some a1) 2 c] 38))
    obtain ⟨t0, -, -, t3, -⟩ := four_of hg
    exact ⟨⟨t0, t3⟩, ⟨keepC hb d0, keepC hb d1, keepC hb d2, keepC hb d3⟩, ⟨keepC hb e0, keepC hb e1, keepC hb e2, keepC hb e3⟩, hx2.below hb, keepB ((Below.refl _ w).alloc (Nat.le_refl _) _) hb⟩
  have HK := Lib.hid hk
  have H1 : Hid (ExV (w.alloc (.cells #[.int .i64 k, vs a, vs b, .slice (some a1) 2 c] 38)).drew F (kid ⟨0, by omega⟩) (.agg #[.int .i64 k1, vs p1, vs q1, .slice A1 n1 c1])) := Lib.hid hx1.drew
  clear hx1 hx2 hsg hv ih1 ih2 hb1 hb2 hk
  go_enter Tryd.func43, Tryd.ntmps43
  go_wp2_with fail
  go_region_held3 (fun W => W.cell? ⟨w.heap.size, 0, none⟩ = some (.int .i64 k) ∧ W.cell? ⟨w.heap.size, 3, none⟩ = some (.slice (some a1) 2 c) ∧ W.cell? a1 = some (.int .i64 k1) ∧ W.cell? ⟨a1.block, a1.off + 1, none⟩ = some (vs p1) ∧ W.cell? ⟨a1.block, a1.off + 2, none⟩ = some (vs q1) ∧ W.cell? ⟨a1.block, a1.off + 3, none⟩ = some (.slice A1 n1 c1) ∧
      W.cell? ⟨a1.block, a1.off + 4, none⟩ = some (.int .i64 k2) ∧ W.cell? ⟨a1.block, a1.off + 4 + 1, none⟩ = some (vs p2) ∧ W.cell? ⟨a1.block, a1.off + 4 + 2, none⟩ = some (vs q2) ∧ W.cell? ⟨a1.block, a1.off + 4 + 3, none⟩ = some (.slice A2 n2 c2)) (go_keep)
    (first
    | (go_at_call 68; refine (sign_calls k _).mono ?_; rintro e w' ⟨rfl, rfl⟩; rw [HS.out])
    | ((with_reducible refine (I1.out _ _ H1.out).mono ?_); rintro e w1 ⟨rfl, hb⟩
       obtain ⟨⟨t0, t3⟩, ⟨g0, g1, g2, g3⟩, ⟨u0, u1, u2, u3⟩, hx, hB⟩ := HK.out w1 hb
       have HX := Lib.hid hx
       have HB := Lib.hid hB
       clear hb hx hB)
    | ((with_reducible refine (I2.out _ _ HX.out).mono ?_); rintro e w2 ⟨rfl, hb⟩
       have HB2 := Lib.hid (keepB HB.out hb)
       have z0 := keepC hb t0
       have z1 := keepC hb t3
       have z2 := keepC hb g0
       have z3 := keepC hb g1
       have z4 := keepC hb g2
       have z5 := keepC hb g3
       have z6 := keepC hb u0
       have z7 := keepC hb u1
       have z8 := keepC hb u2
       have z9 := keepC hb u3
       clear hb))
  all_goals
    go_wp2
    go_ret
    exact ⟨rfl, HB2.out⟩
set_option maxRecDepth 100000 in
set_option maxHeartbeats 1000000 in
theorem show_calls (F : Nat → Prop) : ∀ (m : Nat) (e : Ex) (v : Value) (w : World), ExV w F e v → m ≤ 12 → mayE e m = true → Calls Tryd.prog 43 #[v] w (ShowRet w (showE e))
  | 0, .mk k a b n kid, v, w, h, hm, hy => by rw [mayE_0] at hy; cases hy
  | m + 1, .mk k a b n kid, v, w, h, hm, hy => by
    obtain ⟨⟨A, c, rfl⟩, hnl⟩ := h.top
    rw [mayE_s] at hy
    rw [showE_eq]
    by_cases hk0 : k = 0
    · subst hk0
      rw [if_pos rfl]
      exact show_rel a b A n c w
    rw [if_neg hk0] at hy ⊢
    have h0 : (k == 0) = false := by simpa using hk0
    by_cases hk1 : k = 1
    · subst hk1
      rw [if_pos rfl] at hy ⊢
      simp at hy
      have e1 := nameB_size hy.1
      have e2 := nameB_size hy.2.1
      rw [sz] at e1 e2
      exact show_arr a b e1.2 e2.2 A n c w
    rw [if_neg hk1] at hy ⊢
    have h1 : (k == 1) = false := by simpa using hk1
    by_cases hn2 : n = 2
    · subst hn2
      rw [dif_pos rfl] at hy ⊢
      simp at hy
      have hp : 2 ^ m ≤ 2 ^ 12 := Nat.pow_le_pow_right (by omega) (by omega)
      have l1 := showE_len m (kid ⟨0, by omega⟩) hy.2.1
      have l2 := showE_len m (kid ⟨1, by omega⟩) hy.2.2
      exact show_op F k h0 h1 a b A c kid w _ _ (by omega) (by omega) (fun v w hv => show_calls F m _ v w hv (by omega) hy.2.1) (fun v w hv => show_calls F m _ v w hv (by omega) hy.2.2) h
    · rw [dif_neg hn2] at hy
      simp at hy
set_option maxRecDepth 100000 in
set_option maxHeartbeats 1000000 in
theorem Expr_calls (F : Nat → Prop) (e : Ex) (v : Value) (w : World) (h : ExV w F e v) (hf : e.Fit) : Calls Tryd.prog 18 #[v] w (ShowRet w (exprP e)) := by
  obtain ⟨k, a, b, A, n, c, rfl⟩ := h.form
  have H0 := Lib.hid (h.alloc (.cells #[.int .i64 k, vs a, vs b, .slice A n c] 38))
  have HF := Lib.hid hf
  clear h hf
  go_enter Tryd.func18, Tryd.ntmps18
  go_wp2_with fail
  refine (may_calls F e 12 _ _ H0.out HF.out (by decide)).mono ?_
  rintro e' w1 ⟨rfl, hb⟩
  obtain ⟨r, hr⟩ : ∃ r, mayE e 12 = r := ⟨_, rfl⟩
  rw [hr]
  have HR := Lib.hid hr
  have HB := Lib.hid (keepB ((Below.refl _ w).alloc (Nat.le_refl _) (.cells #[.int .i64 k, vs a, vs b, .slice A n c] 38)) hb)
  have HX := Lib.hid (H0.out.below hb)
  obtain ⟨t0, t1, t2, t3, -⟩ := four_of ((hb.block w.heap.size (by simp)).trans (heap_alloc_new w (.cells #[.int .i64 k, vs a, vs b, .slice A n c] 38)))
  clear hr hb
  cases r with
  | false =>
    go_wp2
    go_ret
    exact ⟨by unfold exprP; rw [HR.out]; rfl, HB.out⟩
  | true =>
    go_wp2_with fail
    refine (show_calls F 12 e _ _ HX.out (by decide) HR.out).mono ?_
    rintro e' w2 ⟨rfl, hb⟩
    have HB2 := Lib.hid (keepB HB.out hb)
    clear hb
    go_wp2
    go_ret
    exact ⟨by unfold exprP; rw [HR.out]; rfl, HB2.out⟩
end Go.Proofs.YtgmlcnikphbiiaaDoor.L

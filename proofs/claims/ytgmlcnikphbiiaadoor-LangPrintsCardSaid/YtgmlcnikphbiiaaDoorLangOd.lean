/-
  The document's May: MayExpr, mayRel, May.
-/
import Derived.Test.YtgmlcnikphbiiaaDoorLangPo
namespace Go.Proofs.YtgmlcnikphbiiaaDoor.L
open Go.RowKit Go.Proofs.YtgmlcnikphbiiaaDoor.B Go.Proofs.YtgmlcnikphbiiaaDoor.S10 Go.Proofs.YtgmlcnikphbiiaaDoor.Nm
open Go.Proofs.YtgmlcnikphbiiaaDoor.C (QRow Turn)
set_option linter.unusedVariables false
set_option linter.unusedSimpArgs false

set_option maxRecDepth 100000 in
set_option maxHeartbeats 1000000 in
theorem rmay_out (k : Int) (h : k < 0 ∨ 4 < k) (a b : Bs) (A : Option Addr) (n c m : Nat) (hm : m ≤ 1000) (w : World) : Calls Tryd.prog 44 #[exAgg k a b A n c, .int .i64 (m + 1 : Nat)] w (MayRet w false) := by
  have hm0 : ((((m + 1 : Nat) : Int)) == 0) = false := by simp; omega
  rcases h with h | h
  all_goals
    go_enter Tryd.func44, Tryd.ntmps44
    go_wp2
    go_ret
    exact ⟨rfl, (Below.refl _ w).alloc (Nat.le_refl _) _⟩
set_option maxRecDepth 100000 in
set_option maxHeartbeats 1000000 in
theorem rmay_zero (k : Int) (a b : Bs) (A : Option Addr) (n c : Nat) (w : World) : Calls Tryd.prog 44 #[exAgg k a b A n c, .int .i64 0] w (MayRet w false) := by
  go_enter Tryd.func44, Tryd.ntmps44
  go_wp2
  go_ret
  exact ⟨rfl, (Below.refl _ w).alloc (Nat.le_refl _) _⟩
set_option maxRecDepth 100000 in
set_option maxHeartbeats 1000000 in
theorem rmay_leaf (k : Int) (hk : k = 0 ∨ k = 1) (a b : Bs) (ha : a.length ≤ 9223372036854775807) (hb : b.length ≤ 9223372036854775807) (A : Option Addr) (n c m : Nat) (hn : n ≤ 9223372036854775807) (hm : m ≤ 1000) (w : World) :
    Calls Tryd.prog 44 #[exAgg k a b A n c, .int .i64 (m + 1 : Nat)] w (MayRet w (nm a && (n == 0 && (k == 0 || nm b)))) := by
  have HNA := Lib.hid (fun W => refName_calls ⟨a.toArray⟩ W (by rw [sz]; exact ha))
  have HNB := Lib.hid (fun W => refName_calls ⟨b.toArray⟩ W (by rw [sz]; exact hb))
  have hm0 : ((((m + 1 : Nat) : Int)) == 0) = false := by simp; omega
  have hn0 := nat0 n
  have HA := Lib.hid (show nameB ⟨a.toArray⟩ = nm a from rfl)
  have HB := Lib.hid (show nameB ⟨b.toArray⟩ = nm b from rfl)
  obtain ⟨bb, hbb⟩ : ∃ bb, (n == 0) = bb := ⟨_, rfl⟩
  rw [hbb] at hn0 ⊢
  clear ha hb hbb
  obtain ⟨na, hna⟩ : ∃ na, nm a = na := ⟨_, rfl⟩
  obtain ⟨nb, hnb⟩ : ∃ nb, nm b = nb := ⟨_, rfl⟩
  rw [hna, hnb]
  have HN := Lib.hid hna
  have HM := Lib.hid hnb
  clear hna hnb
  rcases hk with rfl | rfl <;> cases na <;> cases bb
  all_goals
    go_enter Tryd.func44, Tryd.ntmps44
    go_wp2_with fail
    refine (HNA.out _).mono ?_
    rintro e w' ⟨rfl, rfl⟩
    rw [HA.out, HN.out]
    go_wp2_with fail
    refine (HNB.out _).mono ?_
    rintro e w' ⟨rfl, rfl⟩
    rw [HB.out, HM.out]
    go_wp2
    go_ret
    exact ⟨rfl, (Below.refl _ _).alloc (Nat.le_refl _) _⟩
set_option maxRecDepth 100000 in
set_option maxHeartbeats 1000000 in
theorem rmay_two (k : Int) (hk : k = 2 ∨ k = 3 ∨ k = 4) (a b : Bs) (A : Option Addr) (n c m : Nat) (hn : n ≤ 9223372036854775807) (h2 : ((n : Int) != 2) = true) (hm : m ≤ 1000) (w : World) :
    Calls Tryd.prog 44 #[exAgg k a b A n c, .int .i64 (m + 1 : Nat)] w (MayRet w false) := by
  have hm0 : ((((m + 1 : Nat) : Int)) == 0) = false := by simp; omega
  rcases hk with rfl | rfl | rfl
  all_goals
    go_enter Tryd.func44, Tryd.ntmps44
    go_wp2
    go_ret
    exact ⟨rfl, (Below.refl _ w).alloc (Nat.le_refl _) _⟩
set_option maxRecDepth 100000 in
set_option maxHeartbeats 2000000 in
theorem rmay_op (F : Nat → Prop) (k : Int) (hk : k = 2 ∨ k = 3 ∨ k = 4) (a b : Bs) (A : Option Addr) (c m : Nat) (kid : Fin 2 → Ex) (hm : m ≤ 1000) (w : World)
    (ih : ∀ i v w, ExV w F (kid i) v → Calls Tryd.prog 44 #[v, .int .i64 m] w (MayRet w (mayE (kid i) m))) (hv : ExV w F (.mk k a b 2 kid) (exAgg k a b A 2 c)) :
    Calls Tryd.prog 44 #[exAgg k a b A 2 c, .int .i64 (m + 1 : Nat)] w (MayRet w (mayE (kid ⟨0, by omega⟩) m && mayE (kid ⟨1, by omega⟩) m)) := by
  have hm0 : ((((m + 1 : Nat) : Int)) == 0) = false := by simp; omega
  have HIH := Lib.hid ih
  obtain ⟨a1, b1, k1, p1, q1, A1, n1, c1, rfl, hb1, -, d0, d1, d2, d3, hx1⟩ := (hv.alloc (.cells #[.int .i64 k, vs a, vs b, .slice A 2 c] 38)).kid 0 (by omega)
  have hb1' : a1 = b1 := by rw [← hb1, Nat.zero_mul]; exact (add_zero a1).symm
  subst hb1'
  clear hb1
  have hv1 := hv.alloc (.cells #[.int .i64 k, vs a, vs b, .slice (some a1) 2 c] 38)
  have H1 := Lib.hid hx1
  have HV1 := Lib.hid hv1
  have hm1 : (((m + 1 : Nat) : Int) - 1) = (m : Int) := by omega
  clear hx1 hv hv1 ih
  rcases hk with rfl | rfl | rfl
  all_goals
    go_enter Tryd.func44, Tryd.ntmps44
    go_wp2_with fail
    refine (HIH.out ⟨0, by omega⟩ _ _ H1.out).mono ?_
    rintro e w1 ⟨rfl, hb⟩
    have hB := keepB ((Below.refl _ w).alloc (Nat.le_refl _) _) hb
    obtain ⟨r1, hr1⟩ : ∃ r, mayE (kid ⟨0, by omega⟩) m = r := ⟨_, rfl⟩
    rw [hr1]
    obtain ⟨a2, b2, k2, p2, q2, A2, n2, c2, ha2, hb2, -, e0, e1, e2, e3, hx2⟩ := (HV1.out.below hb).kid 1 (by omega)
    simp only [Option.some.injEq] at ha2
    subst ha2
    have hb2' : b2 = ⟨a1.block, a1.off + 4, none⟩ := by rw [← hb2]; exact Addr.add_succ' a1 3
    subst hb2'
    have HR1 := Lib.hid hr1
    have HB := Lib.hid hB
    have H2 := Lib.hid hx2
    obtain ⟨t0, t1, t2, t3, -⟩ := four_of ((hb.block w.heap.size (by simp)).trans (heap_alloc_new w _))
    clear hb2 hr1 hB hx2 hb d0 d1 d2 d3
    cases r1 with
    | false =>
      go_wp2
      go_ret
      exact ⟨by rw [HR1.out]; rfl, HB.out⟩
    | true =>
      go_wp2_with fail
      refine (HIH.out ⟨1, by omega⟩ _ _ H2.out).mono ?_
      rintro e w2 ⟨rfl, hb⟩
      have HB2 := Lib.hid (keepB HB.out hb)
      clear hb
      obtain ⟨r2, hr2⟩ : ∃ r, mayE (kid ⟨1, by omega⟩) m = r := ⟨_, rfl⟩
      rw [hr2]
      have HR2 := Lib.hid hr2
      clear hr2
      go_wp2
      go_ret
      exact ⟨by rw [HR1.out, HR2.out]; rfl, HB2.out⟩
theorem rmay_calls (F : Nat → Prop) : ∀ (e : Ex) (m : Nat) (v : Value) (w : World), ExV w F e v → e.Fit → m ≤ 1000 → Calls Tryd.prog 44 #[v, .int .i64 m] w (MayRet w (mayE e m))
  | .mk k a b n kid, m, v, w, h, hf, hm => by
    obtain ⟨⟨A, c, rfl⟩, hnl⟩ := h.top
    have ih := fun i m v w h => rmay_calls F (kid i) m v w h (hf.2.2 i)
    cases m with
    | zero => exact rmay_zero k a b A n c w
    | succ m =>
      rw [mayE_s]
      by_cases hk0 : k = 0
      · subst hk0
        rw [if_pos rfl]
        have := rmay_leaf 0 (.inl rfl) a b hf.1 hf.2.1 A n c m hnl (by omega) w
        have e : (nm a && (n == 0 && ((0 : Int) == 0 || nm b))) = (nm a && n == 0) := by simp
        rwa [e] at this
      rw [if_neg hk0]
      by_cases hk1 : k = 1
      · subst hk1
        rw [if_pos rfl]
        have := rmay_leaf 1 (.inr rfl) a b hf.1 hf.2.1 A n c m hnl (by omega) w
        have e : (nm a && (n == 0 && ((1 : Int) == 0 || nm b))) = (nm a && (nm b && n == 0)) := by
          cases nm b <;> simp
        rwa [e] at this
      rw [if_neg hk1]
      by_cases hk : k = 2 ∨ k = 3 ∨ k = 4
      · have hs : (signK k).isEmpty = false := by
          unfold signK
          rcases hk with rfl | rfl | rfl <;> rfl
        rw [hs]
        by_cases hn2 : n = 2
        · subst hn2
          rw [dif_pos rfl]
          exact rmay_op F k hk a b A c m kid (by omega) w (fun i v w hv => ih i m v w hv (by omega)) h
        · rw [dif_neg hn2]
          exact rmay_two k hk a b A n c m hnl (by simp; omega) (by omega) w
      · have hs : (signK k).isEmpty = true := by
          unfold signK
          rw [if_neg (by omega), if_neg (by omega), if_neg (by omega)]; rfl
        rw [hs]
        exact rmay_out k (by omega) a b A n c m (by omega) w
set_option maxRecDepth 100000 in
set_option maxHeartbeats 4000000 in
theorem rmayRel_calls (F : Nat → Prop) (x : Rl) (A : Option Addr) (n c : Nat) (k : Int) (a b : Bs) (B : Option Addr) (m d : Nat) (w : World) (hf : FitR x) (h1 : SlV w F 2 RefR x.refs A n) (h2 : ExV w F x.ex (exAgg k a b B m d)) :
    Calls Tryd.prog 41 #[rlAgg x.name A n c k a b B m d] w (BRet w (mayR x)) := by
  have hnl := h1.2.1
  have hB : Below w.heap.size w (w.alloc (.cells (rlCells x.name A n c k a b B m d) 48)) := (Below.refl _ w).alloc (Nat.le_refl _) _
  have hg0 := heap_alloc_new w (.cells (rlCells x.name A n c k a b B m d) 48)
  have S1 := Lib.hid (h1.below (by decide) hB (fun _ _ h => h))
  have S2 := Lib.hid (h2.alloc (.cells (rlCells x.name A n c k a b B m d) 48))
  have HB := Lib.hid hB
  have HG := Lib.hid hg0
  have HNA := Lib.hid (fun W => refName_calls ⟨x.name.toArray⟩ W (by rw [sz]; exact hf.1))
  have HA := Lib.hid (show nameB ⟨x.name.toArray⟩ = nm x.name from rfl)
  have HE := Lib.hid (fun v w h => rmay_calls F x.ex 12 v w h hf.2.2 (by decide))
  have HF := Lib.hid hf.2.1
  have HM := Lib.hid (show mayR x = (nm x.name && (if n = 0 then mayE x.ex 12 else allTo (n := n) (fun i => mayF (rfAt x.refs i)) n)) by
    unfold mayR
    have hl := h1.1
    have hal : x.refs.all mayF = allTo (n := n) (fun i => mayF (rfAt x.refs i)) n := by rw [allTo_all x.refs ⟨[], []⟩ mayF, hl]; rfl
    rw [hal]
    cases hr : x.refs with
    | nil => rw [hr] at hl; simp at hl; simp [← hl]
    | cons y l => rw [hr] at hl; simp at hl; simp [show n ≠ 0 by omega])
  generalize mayR x = T at *
  generalize mayE x.ex 12 = me at *
  obtain ⟨na, hna⟩ : ∃ na, nm x.name = na := ⟨_, rfl⟩
  rw [hna] at HM
  have HN := Lib.hid hna
  generalize x.name = nx at *
  generalize x.refs = xs at *
  clear hna hB h1 h2 hf hg0
  cases na
  · go_enter Tryd.func41, Tryd.ntmps41
    go_wp2_with fail
    refine (HNA.out _).mono ?_
    rintro e w' ⟨rfl, rfl⟩
    rw [HA.out, HN.out]
    go_wp2
    go_ret
    exact ⟨by rw [HM.out]; rfl, HB.out⟩
  have HT0 := Lib.hid (fun (h : n = 0) => show T = me by rw [HM.out, if_pos h]; rfl)
  have HT1 := Lib.hid (fun (h : ¬ n = 0) => show T = allTo (n := n) (fun i => mayF (rfAt xs i)) n by rw [HM.out, if_neg h]; rfl)
  go_enter Tryd.func41, Tryd.ntmps41
  go_wp2_with fail
  refine (HNA.out _).mono ?_
  rintro e w' ⟨rfl, rfl⟩
  rw [HA.out, HN.out]
  go_wp2_with fail
  go_loopw [4] (fun v4 wr => ∃ j : Nat, j ≤ n ∧ v4 = .int .i64 j ∧ Hid (allTo (n := n) (fun i => mayF (rfAt xs i)) j = true) ∧ Hid (Below (w.alloc (.cells (rlCells nx A n c k a b B m d) 48)).heap.size (w.alloc (.cells (rlCells nx A n c k a b B m d) 48)) wr)) (fun v4 _ => n - (intOf v4).toNat)
  case atStart => exact ⟨0, Nat.zero_le _, rfl, Lib.hid rfl, Lib.hid (Below.refl _ _)⟩
  case round =>
    obtain ⟨j, hjn, rfl, HALL, HBx⟩ := hrel
    have HBW := Lib.hid (keepB HB.out HBx.out)
    obtain ⟨s0, s1, s2, s3, s4, s5, -⟩ := six_of ((HBx.out.block w.heap.size (by simp)).trans HG.out)
    by_cases hj : j < n
    · obtain ⟨ad, p, rfl, hp, d0, d1⟩ := ref_cells (S1.out.below (by decide) HBx.out (fun _ _ h => h)) j hj
      have HST := Lib.hid (allTo_step (n := n) (fun i => mayF (rfAt xs i)) hj)
      have HAF := Lib.hid (allTo_false (n := n) (fun i => mayF (rfAt xs i)) n hj hj)
      have HC1 := Lib.hid (fun W => refName_calls ⟨(rfAt xs j).ty.toArray⟩ W (by rw [sz]; exact (HF.out j).1))
      have HC2 := Lib.hid (fun W => refName_calls ⟨(rfAt xs j).rel.toArray⟩ W (by rw [sz]; exact (HF.out j).2))
      have HQ1 := Lib.hid (show nameB ⟨(rfAt xs j).ty.toArray⟩ = nm (rfAt xs j).ty from rfl)
      have HQ2 := Lib.hid (show nameB ⟨(rfAt xs j).rel.toArray⟩ = nm (rfAt xs j).rel from rfl)
      have HMF := Lib.hid (show mayF (rfAt xs j) = (nm (rfAt xs j).ty && ((rfAt xs j).rel.isEmpty || nm (rfAt xs j).rel)) from rfl)
      generalize (rfAt xs j).ty = q1 at *
      generalize (rfAt xs j).rel = q2 at *
      obtain ⟨m1, hm1⟩ : ∃ m, nm q1 = m := ⟨_, rfl⟩
      obtain ⟨m2, hm2⟩ : ∃ m, nm q2 = m := ⟨_, rfl⟩
      rw [hm1, hm2] at HMF
      rw [hm1] at HQ1
      rw [hm2] at HQ2
      clear hm1 hm2
      have hq2 : ∃ em, q2.isEmpty = em := ⟨_, rfl⟩
      obtain ⟨em, hem⟩ := hq2
      rw [hem] at HMF
      cases m1 <;> cases em <;> cases m2
      all_goals
        go_wp2_with fail
        refine (HC1.out _).mono ?_
        rintro e w' ⟨rfl, rfl⟩
        rw [HQ1.out]
        go_wp2_with fail
        refine (HC2.out _).mono ?_
        rintro e w' ⟨rfl, rfl⟩
        rw [HQ2.out]
        go_wp2
        first
          | (go_ret; exact ⟨by rw [HT1.out (by omega), HAF.out (by show mayF (rfAt xs j) = false; rw [HMF.out]; rfl)]; rfl, HBW.out⟩)
          | exact ⟨⟨j + 1, by omega, by go_num, Lib.hid (by rw [HST.out, HALL.out]; show (true && mayF (rfAt xs j)) = true; rw [HMF.out]; rfl), HBx⟩, by simp [intOf]; omega⟩
    · have hjn' : j = n := by omega
      subst hjn'
      by_cases hj0 : j = 0
      · subst hj0
        have S2' := Lib.hid (S2.out.below HBx.out)
        go_wp2_with fail
        refine (HE.out _ _ S2'.out).mono ?_
        rintro e w1 ⟨rfl, hb⟩
        have HB1 := Lib.hid (keepB HBW.out hb)
        clear hb
        go_wp2
        go_ret
        exact ⟨by rw [HT0.out trivial]; rfl, HB1.out⟩
      · go_wp2
        go_ret
        exact ⟨by rw [HT1.out hj0, HALL.out]; rfl, HBW.out⟩
set_option maxRecDepth 100000 in
set_option maxHeartbeats 4000000 in
theorem rMay_calls (F : Nat → Prop) (ts : List Ty) (A : Option Addr) (n c : Nat) (w : World) (h : SlV w F 2 (TyR w F) ts A n) (hf : FitS ts) :
    Calls Tryd.prog 17 #[.agg #[.slice A n c]] w (BRet w (mayS ts)) := by
  have hnl := h.2.1
  have hB0 := (Below.refl w.heap.size w).alloc (Nat.le_refl _) (.cells #[.slice A n c] 25)
  have g0 := heap_alloc_new w (.cells #[.slice A n c] 25)
  have S := Lib.hid h
  have HF := Lib.hid hf
  have HG0 := Lib.hid g0
  have HB0 := Lib.hid hB0
  have HA := Lib.hid (show mayS ts = allTo (n := n) (fun i => mayT (tyAt ts i)) n by unfold mayS; rw [allTo_all ts ⟨[], []⟩ mayT, h.1]; rfl)
  rw [HA.out]
  clear h hf hB0 g0
  go_enter Tryd.func17, Tryd.ntmps17
  go_wp2_with fail
  go_loopw [3] (fun v3 wr => ∃ j : Nat, j ≤ n ∧ v3 = .int .i64 j ∧ Hid (allTo (n := n) (fun i => mayT (tyAt ts i)) j = true) ∧ Hid (Below (w.alloc (.cells #[.slice A n c] 25)).heap.size (w.alloc (.cells #[.slice A n c] 25)) wr)) (fun v3 _ => n - (intOf v3).toNat)
  case atStart => exact ⟨0, Nat.zero_le _, rfl, Lib.hid rfl, Lib.hid (Below.refl _ _)⟩
  case round =>
    obtain ⟨j, hjn, rfl, HALL, HB⟩ := hrel
    have s0 := cells_of ((HB.out.block w.heap.size (by simp)).trans HG0.out) 0 (.slice A n c) rfl
    have HBW := Lib.hid (keepB HB0.out HB.out)
    by_cases hj : j < n
    rotate_left
    · have hjn' : j = n := by omega
      subst hjn'
      go_wp2
      go_ret
      exact ⟨by rw [HALL.out]; rfl, HBW.out⟩
    obtain ⟨ad, p, B, m, d, rfl, hp1, d0, d1, hr⟩ := type_cells S.out j hj
    have HD1 := Lib.hid d1
    have d0 := keepC HBW.out d0
    have d1 := keepC HBW.out d1
    have hml := hr.2.1
    have HST := Lib.hid (allTo_step (n := n) (fun i => mayT (tyAt ts i)) hj)
    have HAF := Lib.hid (allTo_false (n := n) (fun i => mayT (tyAt ts i)) n hj hj)
    have HNA := Lib.hid (fun W => refName_calls ⟨(tyAt ts j).name.toArray⟩ W (by rw [sz]; exact (HF.out j).1))
    have HN := Lib.hid (show nameB ⟨(tyAt ts j).name.toArray⟩ = nm (tyAt ts j).name from rfl)
    have HT := Lib.hid (show mayT (tyAt ts j) = (nm (tyAt ts j).name && allTo (n := m) (fun i => mayR (rlAt (tyAt ts j).rels i)) m) by unfold mayT; rw [allTo_all (tyAt ts j).rels ⟨[], [], leaf 0 [] []⟩ mayR, hr.1]; rfl)
    have HFR := Lib.hid (HF.out j).2
    have HR := Lib.hid hr
    generalize (tyAt ts j).name = nx at *
    generalize (tyAt ts j).rels = rs at *
    obtain ⟨na, hna⟩ : ∃ na, nm nx = na := ⟨_, rfl⟩
    rw [hna] at HN HT
    clear hna hr
    cases na
    · go_wp2_with fail
      refine (HNA.out _).mono ?_
      rintro e w' ⟨rfl, rfl⟩
      rw [HN.out]
      go_wp2
      go_ret
      exact ⟨by rw [HAF.out (by show mayT (tyAt ts j) = false; rw [HT.out]; rfl)]; rfl, HBW.out⟩
    go_wp2_with fail
    refine (HNA.out _).mono ?_
    rintro e w' ⟨rfl, rfl⟩
    rw [HN.out]
    go_wp2_with fail
    go_loopw [5] (fun v5 wr2 => ∃ i : Nat, i ≤ m ∧ v5 = .int .i64 i ∧ Hid (allTo (n := m) (fun i => mayR (rlAt rs i)) i = true) ∧ Hid (Below (w.alloc (.cells #[.slice (some ad) n c] 25)).heap.size (w.alloc (.cells #[.slice (some ad) n c] 25)) wr2)) (fun v5 _ => m - (intOf v5).toNat)
    case atStart => exact ⟨0, Nat.zero_le _, rfl, Lib.hid rfl, HB⟩
    case round =>
      clear s0 d0 d1 HBW HB
      obtain ⟨i, him, rfl, HAL2, HB⟩ := hrel
      have HBW := Lib.hid (keepB HB0.out HB.out)
      have s0 := cells_of ((HB.out.block w.heap.size (by simp)).trans HG0.out) 0 (.slice (some ad) n c) rfl
      have d1 := keepC HBW.out HD1.out
      by_cases hi : i < m
      rotate_left
      · have him' : i = m := by omega
        subst him'
        go_wp2
        go_roundw
        case rel => exact ⟨j + 1, by omega, by go_num, Lib.hid (by rw [HST.out, HALL.out]; show (true && mayT (tyAt ts j)) = true; rw [HT.out, HAL2.out]; rfl), HB⟩
        case measure => simp [intOf]; omega
      obtain ⟨ar, r, C, cn, cc, rk, ra, rb, C', cn', cc', rfl, hr, r0, r1, r2, r3, r4, r5, hrr, hre⟩ := rel_cells (rels_below HR.out HBW.out) i hi
      have HS2 := Lib.hid (allTo_step (n := m) (fun i => mayR (rlAt rs i)) hi)
      have HA2 := Lib.hid (allTo_false (n := m) (fun i => mayR (rlAt rs i)) m hi hi)
      have HC := Lib.hid (rmayRel_calls F (rlAt rs i) C cn cc rk ra rb C' cn' cc' _ (HFR.out i) hrr hre)
      obtain ⟨mr, hmr⟩ : ∃ mr, mayR (rlAt rs i) = mr := ⟨_, rfl⟩
      rw [hmr] at HC
      have HMR := Lib.hid hmr
      generalize (rlAt rs i).name = nr at *
      clear hrr hre hmr
      go_wp2_with fail
      refine HC.out.mono ?_
      rintro e w1 ⟨rfl, hb⟩
      have HB1 := Lib.hid (below_then HB.out HB.out.size hb)
      have HBW1 := Lib.hid (keepB HBW.out hb)
      clear hb
      cases mr
      · go_wp2
        go_ret
        exact ⟨by rw [HAF.out (by show mayT (tyAt ts j) = false; rw [HT.out, HA2.out HMR.out]; rfl)]; rfl, HBW1.out⟩
      · go_wp2
        refine ⟨⟨i + 1, by omega, by go_num, Lib.hid (by rw [HS2.out, HAL2.out]; show (true && mayR (rlAt rs i)) = true; rw [HMR.out]; rfl), HB1⟩, by simp [intOf]; omega⟩
end Go.Proofs.YtgmlcnikphbiiaaDoor.L

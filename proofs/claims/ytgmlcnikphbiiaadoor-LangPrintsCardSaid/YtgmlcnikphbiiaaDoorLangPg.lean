/-
  What may be printed: ref, the closures, ContainsFunc, rel, May.
-/
import Derived.Test.YtgmlcnikphbiiaaDoorLangPe
namespace Go.Proofs.YtgmlcnikphbiiaaDoor.L
open Go.RowKit Go.Proofs.YtgmlcnikphbiiaaDoor.B Go.Proofs.YtgmlcnikphbiiaaDoor.S10 Go.Proofs.YtgmlcnikphbiiaaDoor.Nm
open Go.Proofs.YtgmlcnikphbiiaaDoor.C (QRow Turn wpList_append_q)
set_option linter.unusedVariables false
set_option linter.unusedSimpArgs false

def FitF (x : Rf) : Prop := x.ty.length ≤ 9223372036854775807 ∧ x.rel.length ≤ 9223372036854775807
set_option maxRecDepth 100000 in
set_option maxHeartbeats 1000000 in
theorem mayF_calls (a b : Bs) (ha : a.length ≤ 9223372036854775807) (hb : b.length ≤ 9223372036854775807) (w : World) : Calls Tryd.prog 67 #[.agg #[vs a, vs b]] w (BRet w (mayF ⟨a, b⟩)) := by
  have HNA := Lib.hid (fun W => Name_calls ⟨a.toArray⟩ W (by rw [sz]; exact ha))
  have HNB := Lib.hid (fun W => Name_calls ⟨b.toArray⟩ W (by rw [sz]; exact hb))
  have HA := Lib.hid (show nameB ⟨a.toArray⟩ = nm a from rfl)
  have HB := Lib.hid (show nameB ⟨b.toArray⟩ = nm b from rfl)
  have HM := Lib.hid (show mayF ⟨a, b⟩ = (nm a && (b.isEmpty || nm b)) from rfl)
  clear ha hb
  rw [HM.out]
  obtain ⟨na, hna⟩ : ∃ na, nm a = na := ⟨_, rfl⟩
  obtain ⟨nb, hnb⟩ : ∃ nb, nm b = nb := ⟨_, rfl⟩
  obtain ⟨ne, hne⟩ : ∃ ne, b.isEmpty = ne := ⟨_, rfl⟩
  rw [hna, hnb, hne]
  have HN := Lib.hid hna
  have HK := Lib.hid hnb
  clear hna hnb HM
  cases na
  · go_enter Tryd.func67, Tryd.ntmps67
    go_wp2_with fail
    refine (HNA.out _).mono ?_
    rintro e w' ⟨rfl, rfl⟩
    rw [HA.out, HN.out]
    go_wp2
    go_ret
    exact ⟨rfl, (Below.refl _ w).alloc (Nat.le_refl _) _⟩
  cases ne
  · cases nb
    all_goals
      go_enter Tryd.func67, Tryd.ntmps67
      go_wp2_with fail
      refine (HNA.out _).mono ?_
      rintro e w' ⟨rfl, rfl⟩
      rw [HA.out, HN.out]
      go_wp2_with fail
      refine (HNB.out _).mono ?_
      rintro e w' ⟨rfl, rfl⟩
      rw [HB.out, HK.out]
      go_wp2
      go_ret
      exact ⟨rfl, (Below.refl _ w).alloc (Nat.le_refl _) _⟩
  · go_enter Tryd.func67, Tryd.ntmps67
    go_wp2_with fail
    refine (HNA.out _).mono ?_
    rintro e w' ⟨rfl, rfl⟩
    rw [HA.out, HN.out]
    go_wp2
    go_ret
    exact ⟨rfl, (Below.refl _ w).alloc (Nat.le_refl _) _⟩
set_option maxRecDepth 100000 in
set_option maxHeartbeats 1000000 in
theorem notRef_calls (a b : Bs) (ha : a.length ≤ 9223372036854775807) (hb : b.length ≤ 9223372036854775807) (w : World) : Calls Tryd.prog 66 #[.agg #[vs a, vs b]] w (BRet w (!mayF ⟨a, b⟩)) := by
  have HR := Lib.hid (fun W => mayF_calls a b ha hb W)
  generalize mayF ⟨a, b⟩ = m at *
  clear ha hb
  go_enter Tryd.func66, Tryd.ntmps66
  go_wp2_with fail
  refine (HR.out _).mono ?_
  rintro e w1 ⟨rfl, hb⟩
  have HB := Lib.hid (keepB ((Below.refl _ w).alloc (Nat.le_refl _) _) hb)
  clear hb
  go_wp2
  go_ret
  exact ⟨rfl, HB.out⟩
theorem allTo_all {α : Type} (xs : List α) (d : α) (p : α → Bool) : xs.all p = allTo (n := xs.length) (fun i => p (xs.getD i d)) xs.length := by
  have h : xs.all p = true ↔ allTo (n := xs.length) (fun i => p (xs.getD i d)) xs.length = true := by
    rw [allTo_iff, List.all_eq_true]
    constructor
    · intro h i
      exact h _ (by rw [List.getD_eq_getElem?_getD, List.getElem?_eq_getElem i.2]; exact List.getElem_mem i.2)
    · intro h x hx
      obtain ⟨i, hi, rfl⟩ := List.mem_iff_getElem.1 hx
      have := h ⟨i, hi⟩
      rw [List.getD_eq_getElem?_getD, List.getElem?_eq_getElem hi] at this
      exact this
  cases h1 : xs.all p <;> cases h2 : allTo (n := xs.length) (fun i => p (xs.getD i d)) xs.length <;> simp_all
def IdxRet (w : World) (n : Nat) (all : Bool) (e : Ending) (w' : World) : Prop := ∃ r : Int, e = .returned (.int .i64 r) ∧ -1 ≤ r ∧ r ≤ n ∧ decide (0 ≤ r) = !all ∧ Below w.heap.size w w'
set_option maxRecDepth 100000 in
set_option maxHeartbeats 4000000 in
theorem idxRef_calls (F : Nat → Prop) (xs : List Rf) (A : Option Addr) (n c : Nat) (w : World) (h : SlV w F 2 RefR xs A n) (hf : ∀ i, FitF (rfAt xs i)) :
    Calls Tryd.prog 78 #[.slice A n c, .func (.func 66) #[] #[]] w (IdxRet w n (allTo (n := n) (fun i => mayF (rfAt xs i)) n)) := by
  have hnl := h.2.1
  have S := Lib.hid h
  have HF := Lib.hid hf
  clear h hf
  go_enter Tryd.func78, Tryd.ntmps78
  go_wp2_with fail
  go_loopw [5, 8] (fun v5 v8 wr => ∃ j : Nat, j ≤ n ∧ v8 = .int .i64 j ∧ Hid (allTo (n := n) (fun i => mayF (rfAt xs i)) j = true) ∧ Hid (Below w.heap.size w wr)) (fun _ v8 _ => n - (intOf v8).toNat)
  case atStart => exact ⟨0, Nat.zero_le _, rfl, Lib.hid rfl, Lib.hid (Below.refl _ _)⟩
  case round =>
    obtain ⟨j, hjn, rfl, HALL, HB⟩ := hrel
    by_cases hj : j < n
    · obtain ⟨ad, p, rfl, hp, d0, d1⟩ := ref_cells (S.out.below (by decide) HB.out (fun _ _ h => h)) j hj
      have HST := Lib.hid (allTo_step (n := n) (fun i => mayF (rfAt xs i)) hj)
      have HAF := Lib.hid (allTo_false (n := n) (fun i => mayF (rfAt xs i)) n hj hj)
      have HC := Lib.hid (fun W => notRef_calls (rfAt xs j).ty (rfAt xs j).rel (HF.out j).1 (HF.out j).2 W)
      have HM := Lib.hid (show mayF ⟨(rfAt xs j).ty, (rfAt xs j).rel⟩ = mayF (rfAt xs j) from rfl)
      generalize (rfAt xs j).ty = q1 at *
      generalize (rfAt xs j).rel = q2 at *
      obtain ⟨m, hm⟩ : ∃ m, mayF ⟨q1, q2⟩ = m := ⟨_, rfl⟩
      rw [hm] at HM HC
      have HMM := Lib.hid HM.out.symm
      clear hm
      go_wp2_with fail
      refine (HC.out _).mono ?_
      rintro e w1 ⟨rfl, hb⟩
      have HB1 := Lib.hid (keepB HB.out hb)
      clear hb
      cases m
      · go_wp2
        go_ret
        exact ⟨j, rfl, by omega, by omega, by rw [HAF.out HMM.out]; simp, HB1.out⟩
      · go_wp2
        exact ⟨⟨j + 1, by omega, by go_num, Lib.hid (by rw [HST.out, HALL.out]; show (true && mayF (rfAt xs j)) = true; rw [HMM.out]; rfl), HB1⟩, by simp [intOf]; omega⟩
    · have hjn' : j = n := by omega
      subst hjn'
      go_wp2
      go_ret
      exact ⟨-1, rfl, by omega, by omega, by rw [HALL.out]; rfl, HB.out⟩
set_option maxRecDepth 100000 in
set_option maxHeartbeats 1000000 in
theorem anyRef_calls (F : Nat → Prop) (xs : List Rf) (A : Option Addr) (n c : Nat) (w : World) (h : SlV w F 2 RefR xs A n) (hf : ∀ i, FitF (rfAt xs i)) :
    Calls Tryd.prog 65 #[.slice A n c, .func (.func 66) #[] #[]] w (BRet w (!xs.all mayF)) := by
  have HI := Lib.hid (idxRef_calls F xs A n c w h hf)
  have HA := Lib.hid (show xs.all mayF = allTo (n := n) (fun i => mayF (rfAt xs i)) n by rw [allTo_all xs ⟨[], []⟩ mayF, h.1]; rfl)
  clear h hf
  go_enter Tryd.func65, Tryd.ntmps65
  go_wp2_with fail
  refine HI.out.mono ?_
  rintro e w1 ⟨r, rfl, h1, h2, h3, hb⟩
  have HB := Lib.hid hb
  have H3 := Lib.hid h3
  clear hb h3
  go_wp2
  go_ret
  refine ⟨?_, HB.out⟩
  rw [HA.out, ← H3.out]
  rfl
end Go.Proofs.YtgmlcnikphbiiaaDoor.L

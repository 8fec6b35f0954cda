/-
  What may be printed: rel, its closure, ContainsFunc over relations, May.
-/
import Derived.Test.YtgmlcnikphbiiaaDoorLangPg
namespace Go.Proofs.YtgmlcnikphbiiaaDoor.L
open Go.RowKit Go.Proofs.YtgmlcnikphbiiaaDoor.B Go.Proofs.YtgmlcnikphbiiaaDoor.S10 Go.Proofs.YtgmlcnikphbiiaaDoor.Nm
open Go.Proofs.YtgmlcnikphbiiaaDoor.C (QRow Turn wpList_append_q)
set_option linter.unusedVariables false
set_option linter.unusedSimpArgs false

def FitR (x : Rl) : Prop := x.name.length ≤ 9223372036854775807 ∧ (∀ i, FitF (rfAt x.refs i)) ∧ x.ex.Fit
set_option maxRecDepth 100000 in
set_option maxHeartbeats 2000000 in
theorem relMay_calls (F : Nat → Prop) (x : Rl) (A : Option Addr) (n c : Nat) (k : Int) (a b : Bs) (B : Option Addr) (m d : Nat) (w : World) (hf : FitR x) (h1 : SlV w F 2 RefR x.refs A n) (h2 : ExV w F x.ex (exAgg k a b B m d)) :
    Calls Tryd.prog 39 #[rlAgg x.name A n c k a b B m d] w (BRet w (mayR x)) := by
  have hnl := h1.2.1
  have hB : Below w.heap.size w (w.alloc (.cells (rlCells x.name A n c k a b B m d) 48)) := (Below.refl _ w).alloc (Nat.le_refl _) _
  have S1 := Lib.hid (h1.below (by decide) hB (fun _ _ h => h))
  have S2 := Lib.hid (h2.alloc (.cells (rlCells x.name A n c k a b B m d) 48))
  have HB := Lib.hid hB
  have HNA := Lib.hid (fun W => Name_calls ⟨x.name.toArray⟩ W (by rw [sz]; exact hf.1))
  have HA := Lib.hid (show nameB ⟨x.name.toArray⟩ = nm x.name from rfl)
  have HE := Lib.hid (fun v w h => may_calls F x.ex 12 v w h hf.2.2 (by decide))
  have HR := Lib.hid (fun W A n c h => anyRef_calls F x.refs A n c W h hf.2.1)
  have HM := Lib.hid (show mayR x = (nm x.name && (if n = 0 then mayE x.ex 12 else x.refs.all mayF)) by
    unfold mayR
    have hl := h1.1
    cases hr : x.refs with
    | nil => rw [hr] at hl; simp at hl; simp [← hl]
    | cons y l => rw [hr] at hl; simp at hl; simp [show n ≠ 0 by omega])
  rw [HM.out]
  generalize mayE x.ex 12 = me at *
  generalize x.refs.all mayF = mr at *
  obtain ⟨na, hna⟩ : ∃ na, nm x.name = na := ⟨_, rfl⟩
  rw [hna]
  have HN := Lib.hid hna
  generalize x.name = nx at *
  clear hna hB h1 h2 hf HM
  by_cases hn0 : n = 0
  · subst hn0
    rw [if_pos rfl]
    cases na
    · go_enter Tryd.func39, Tryd.ntmps39
      go_wp2_with fail
      refine (HNA.out _).mono ?_
      rintro e w' ⟨rfl, rfl⟩
      rw [HA.out, HN.out]
      go_wp2
      go_ret
      exact ⟨rfl, HB.out⟩
    · go_enter Tryd.func39, Tryd.ntmps39
      go_wp2_with fail
      refine (HNA.out _).mono ?_
      rintro e w' ⟨rfl, rfl⟩
      rw [HA.out, HN.out]
      go_wp2_with fail
      refine (HE.out _ _ S2.out).mono ?_
      rintro e w1 ⟨rfl, hb⟩
      have HB1 := Lib.hid (keepB HB.out hb)
      clear hb
      cases me
      all_goals
        go_wp2
        go_ret
        exact ⟨rfl, HB1.out⟩
  · rw [if_neg hn0]
    have hn1 : ((n : Int) == 0) = false := by simp; omega
    cases na
    · go_enter Tryd.func39, Tryd.ntmps39
      go_wp2_with fail
      refine (HNA.out _).mono ?_
      rintro e w' ⟨rfl, rfl⟩
      rw [HA.out, HN.out]
      go_wp2
      go_ret
      exact ⟨rfl, HB.out⟩
    · go_enter Tryd.func39, Tryd.ntmps39
      go_wp2_with fail
      refine (HNA.out _).mono ?_
      rintro e w' ⟨rfl, rfl⟩
      rw [HA.out, HN.out]
      go_wp2_with fail
      refine (HR.out _ _ _ _ S1.out).mono ?_
      rintro e w1 ⟨rfl, hb⟩
      have HB1 := Lib.hid (keepB HB.out hb)
      clear hb
      cases mr
      all_goals
        go_wp2
        go_ret
        exact ⟨rfl, HB1.out⟩
set_option maxRecDepth 100000 in
set_option maxHeartbeats 1000000 in
theorem notRel_calls (F : Nat → Prop) (x : Rl) (A : Option Addr) (n c : Nat) (k : Int) (a b : Bs) (B : Option Addr) (m d : Nat) (w : World) (hf : FitR x) (h1 : SlV w F 2 RefR x.refs A n) (h2 : ExV w F x.ex (exAgg k a b B m d)) :
    Calls Tryd.prog 38 #[rlAgg x.name A n c k a b B m d] w (BRet w (!mayR x)) := by
  have hB : Below w.heap.size w (w.alloc (.cells (rlCells x.name A n c k a b B m d) 48)) := (Below.refl _ w).alloc (Nat.le_refl _) _
  have HR := Lib.hid (relMay_calls F x A n c k a b B m d _ hf (h1.below (by decide) hB (fun _ _ h => h)) (h2.alloc (.cells (rlCells x.name A n c k a b B m d) 48)))
  generalize mayR x = mr at *
  have HB := Lib.hid hB
  generalize x.name = nx at *
  clear hf h1 h2 hB
  go_enter Tryd.func38, Tryd.ntmps38
  go_wp2_with fail
  refine HR.out.mono ?_
  rintro e w1 ⟨rfl, hb⟩
  have HB1 := Lib.hid (keepB HB.out hb)
  clear hb
  go_wp2
  go_ret
  exact ⟨rfl, HB1.out⟩
end Go.Proofs.YtgmlcnikphbiiaaDoor.L

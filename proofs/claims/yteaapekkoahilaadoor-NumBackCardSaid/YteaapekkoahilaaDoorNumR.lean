/-
  Numbers as decimal text: the document's Parse, walked.
-/
import Derived.Test.YteaapekkoahilaaDoorNumQ
namespace Go.Proofs.YteaapekkoahilaaDoor.Nu
open Go.RowKit Go.Proofs.YteaapekkoahilaaDoor.B Go.Proofs.YteaapekkoahilaaDoor.S01
set_option linter.unusedVariables false
set_option linter.unusedSimpArgs false

theorem str_get (s : ByteArray) (k : Nat) (h : k < s.size) : s.data.toList[k]? = some s[k] := by
  have h' : k < s.data.toList.length := by rw [Array.length_toList]; exact h
  rw [List.getElem?_eq_getElem h']
  rfl
def outF (r : Option Nat) : Value := .tuple #[.int .i64 ((r.getD 0 : Nat) : Int), .bool r.isSome]
set_option maxRecDepth 100000 in
set_option maxHeartbeats 2000000 in
theorem refParse_calls (s : ByteArray) (w : World) :
    Calls Tryd.prog 27 #[.string s] w fun e w' => e = .returned (outF (parseF s.data.toList)) ∧ w' = w := by
  have hsz : s.data.toList.length = s.size := by rw [Array.length_toList]; rfl
  by_cases h0 : s.size = 0
  · have e : parseF s.data.toList = none := by unfold parseF; rw [if_pos (.inl (by omega))]
    rw [e]
    have c0 : ((s.size : Int) == 0) = true := beq_iff_eq.2 (by omega)
    clear e hsz
    go_enter Tryd.func27, Tryd.ntmps27
    go_wp2
    go_ret2
    exact ⟨rfl, rfl⟩
  · have c0 : ((s.size : Int) == 0) = false := beq_eq_false_iff_ne.2 (by omega)
    by_cases h18 : (s.size : Int) > 18
    · have e : parseF s.data.toList = none := by unfold parseF; rw [if_pos (.inr (.inl (by omega)))]
      rw [e]
      clear e hsz
      go_enter Tryd.func27, Tryd.ntmps27
      go_wp2
      go_ret2
      exact ⟨rfl, rfl⟩
    · have hpos : 0 < s.size := by omega
      have i0 : (0 : Int) < (s.size : Int) := by omega
      have hh : s.data.toList.head? = some s[0] := by rw [List.head?_eq_getElem?]; exact str_get s 0 hpos
      by_cases hz : s[0].toNat = 48 ∧ (s.size : Int) > 1
      · have e : parseF s.data.toList = none := by
          unfold parseF
          rw [if_pos (.inr (.inr ⟨by rw [hh, UInt8.toNat_inj.1 (show s[0].toNat = (48 : UInt8).toNat from hz.1)], by omega⟩))]
        rw [e]
        have z1 : (((s[0].toNat : Nat) : Int) == 48) = true := beq_iff_eq.2 (by omega)
        have z2 := hz.2
        clear e hsz hh hz
        go_enter Tryd.func27, Tryd.ntmps27
        go_wp2
        go_ret2
        exact ⟨rfl, rfl⟩
      · have hF : parseF s.data.toList = Lib.decFrom 0 s.data.toList := by
          unfold parseF
          rw [if_neg]
          rintro (hc | hc | ⟨hc, hc2⟩)
          · omega
          · omega
          · rw [hh] at hc
            refine hz ⟨?_, by omega⟩
            rw [Option.some.inj hc]; rfl
        obtain ⟨res, hres⟩ : ∃ res, parseF s.data.toList = res := ⟨_, rfl⟩
        rw [hres] at hF ⊢
        have HF := Lib.hid hF
        have HZ := Lib.hid hsz
        clear hF hres hsz hh
        have zz : ((((s[0].toNat : Nat) : Int) == 48) && decide ((1 : Int) < (s.size : Int))) = false := by
          by_cases h1 : s[0].toNat = 48
          · have : ¬ (1 : Int) < (s.size : Int) := fun h => hz ⟨h1, h⟩
            simp [this]
          · have : (((s[0].toNat : Nat) : Int) == 48) = false := beq_eq_false_iff_ne.2 (by omega)
            rw [this]; rfl
        have key : ∀ w, Calls Tryd.prog 27 #[.string s] w fun e w' => e = .returned (outF res) ∧ w' = w := by
          intro w
          by_cases h1 : s[0].toNat = 48
          all_goals
            first
            | have z1 : (((s[0].toNat : Nat) : Int) == 48) = true := beq_iff_eq.2 (by omega)
              have z2 : ¬ (1 : Int) < (s.size : Int) := fun h => hz ⟨h1, h⟩
            | have z1 : (((s[0].toNat : Nat) : Int) == 48) = false := beq_eq_false_iff_ne.2 (by omega)
            clear hz zz h1
            go_enter Tryd.func27, Tryd.ntmps27
            go_wp2
            go_loop [4, 5] (fun v4 v5 => ∃ k n : Nat, k ≤ s.size ∧ v5 = .int .i64 k ∧ v4 = .int .i64 n ∧ Lib.decFrom 0 (s.data.toList.take k) = some n) (fun _ v5 => s.size - (intOf v5).toNat)
            case atStart => exact ⟨0, 0, Nat.zero_le _, rfl, rfl, by simp [Lib.decFrom]⟩
            case round =>
              obtain ⟨k, n, hk, rfl, rfl, hd⟩ := hrel
              by_cases hlt : k < s.size
              · have j0 : (0 : Int) ≤ (k : Int) := by omega
                have j1 : (k : Int) < (s.size : Int) := by omega
                have hb := str_get s k hlt
                have hn := Lib.decFrom_take_lt hd (by omega)
                by_cases hdig : 48 ≤ s[k].toNat ∧ s[k].toNat ≤ 57
                · have hv : Lib.digitVal s[k] = some (s[k].toNat - 48) := by unfold Lib.digitVal; rw [if_pos hdig]
                  have HD := Lib.hid (Lib.decFrom_take _ _ _ _ _ _ hd hb hv)
                  have g0 : ¬ ((s[k].toNat : Nat) : Int) < 48 := by omega
                  have g1 : ¬ (57 : Int) < ((s[k].toNat : Nat) : Int) := by omega
                  clear hd hb hv
                  go_wp2
                  exact ⟨⟨k + 1, _, by omega, by go_num, by congr 1; omega, HD.out⟩, by simp [intOf]; omega⟩
                · have hnone : res = none := by
                    rw [HF.out]
                    cases hc : Lib.decFrom 0 s.data.toList with
                    | none => rfl
                    | some m =>
                      obtain ⟨d, hd'⟩ := Lib.digit_of_decFrom _ _ _ hc k _ hb
                      obtain ⟨q1, q2, _⟩ := Lib.digitVal_eq hd'
                      exact absurd ⟨q1, q2⟩ hdig
                  subst hnone
                  clear hd hb hn
                  by_cases g0 : ((s[k].toNat : Nat) : Int) < 48
                  · go_wp2
                    go_ret2
                    exact ⟨rfl, rfl⟩
                  · have g1 : (57 : Int) < ((s[k].toNat : Nat) : Int) := by omega
                    go_wp2
                    go_ret2
                    exact ⟨rfl, rfl⟩
              · have hr : res = some n := by
                  rw [HF.out, ← hd, List.take_of_length_le (by rw [HZ.out]; omega)]
                subst hr
                clear hd
                go_wp2
                go_ret2
                exact ⟨rfl, rfl⟩
        exact key w
end Go.Proofs.YteaapekkoahilaaDoor.Nu

/-
  The document's reader of JSON: numbers with a minus. Printed by wip/tools/gen_jd_num.py.
-/
import Derived.Test.YtminegmjklehnaaGreatDoorJdAH
namespace Go.Proofs.YtminegmjklehnaaGreatDoor.J
open Go.RowKit Go.Proofs.YtminegmjklehnaaGreatDoor.B
open Go.Proofs.YtminegmjklehnaaGreatDoor.M hiding Bs
open Go.Proofs.YtminegmjklehnaaGreatDoor.C (QRow Turn)
set_option linter.unusedVariables false
set_option linter.unusedSimpArgs false

set_option maxRecDepth 100000 in
set_option maxHeartbeats 20000000 in
theorem rnumber_neg {w : World} {rb : Nat} {b L : Bs} (h : RS w rb b (.ok L)) (x45 : headV (.ok L) = 45) : Calls Tryz.prog 53 #[.pointer (some ⟨rb, 0, none⟩)] w (NmRet w rb b (numS (.ok L))) := by
  have HR := Lib.hid h
  have HA := Lib.hid (At.refl rb w)
  clear h
  go_enter Tryz.func53, Tryz.ntmps53
  go_wp2_with fail
  refine (next_calls HR.out).mono ?_
  rintro e wn ⟨rfl, hR, hB⟩
  rw [x45]
  have HA := Lib.hid (At.below' HA.out hB)
  have HR := Lib.hid hR
  clear hR hB
  obtain ⟨L1, hn⟩ : ∃ L1, L = 45 :: L1 := by
    obtain ⟨q, hq⟩ := headV_hit (c := 45) (by decide) (s := .ok L) x45
    injection hq with hq
    exact ⟨q, hq⟩
  have HR := Lib.hid (show RS _ rb b (.ok (45 :: L1)) from hn ▸ HR.out)
  have hvn : headV (.ok L) = 45 := x45
  have HNG := Lib.hid (show negP L = (true, L1) by rw [hn]; rfl)
  obtain ⟨k0, gk0, fk0, hk0, hR2, hA2, hdk0, hlk0⟩ := HR.out.step2
  have HA := Lib.hid (At.trans HA.out hA2)
  have HR := Lib.hid hR2
  have HDk0 := Lib.hid hdk0
  clear hR2 hA2 hdk0
  by_cases x48 : headV (.ok L1) = 48
  · skip
    go_wp2_with fail
    refine (next_calls HR.out).mono ?_
    rintro e wn ⟨rfl, hR, hB⟩
    rw [x48]
    have HA := Lib.hid (At.below' HA.out hB)
    have HR := Lib.hid hR
    clear hR hB
    obtain ⟨W1, hw⟩ : ∃ W1, L1 = 48 :: W1 := by
      obtain ⟨q, hq⟩ := headV_hit (c := 48) (by decide) (s := .ok L1) x48
      injection hq with hq
      exact ⟨q, hq⟩
    have HR := Lib.hid (show RS _ rb b (.ok (48 :: W1)) from hw ▸ HR.out)
    have hvw : headV (.ok L1) = 48 := x48
    have HWH := Lib.hid (show wholeP L1 = .ok ([48], W1) by rw [hw]; rfl)
    obtain ⟨kw, gkw, fkw, hkw, hR2, hA2, hdkw, hlkw⟩ := HR.out.step2
    have HA := Lib.hid (At.trans HA.out hA2)
    have HR := Lib.hid hR2
    have HDkw := Lib.hid hdkw
    clear hR2 hA2 hdkw
    by_cases x46 : headV (.ok W1) = 46
    · skip
      go_wp2_with fail
      refine (next_calls HR.out).mono ?_
      rintro e wn ⟨rfl, hR, hB⟩
      rw [x46]
      have HA := Lib.hid (At.below' HA.out hB)
      have HR := Lib.hid hR
      clear hR hB
      obtain ⟨F1, hf⟩ : ∃ F1, W1 = 46 :: F1 := by
        obtain ⟨q, hq⟩ := headV_hit (c := 46) (by decide) (s := .ok W1) x46
        injection hq with hq
        exact ⟨q, hq⟩
      have HR := Lib.hid (show RS _ rb b (.ok (46 :: F1)) from hf ▸ HR.out)
      have hvf : headV (.ok W1) = 46 := x46
      obtain ⟨kf, gkf, fkf, hkf, hR2, hA2, hdkf, hlkf⟩ := HR.out.step2
      have HA := Lib.hid (At.trans HA.out hA2)
      have HR := Lib.hid hR2
      have HDkf := Lib.hid hdkf
      clear hR2 hA2 hdkf
      cases hx : digitsP F1 with
      | error dd =>
        have HFR := Lib.hid (show fracP W1 = .error dd by rw [hf]; exact fracP_bad hx)
        have HDG := Lib.hid hx
        clear hx
        go_wp2_with fail
        refine (rdigits_calls HR.out).mono ?_
        rintro e wn ⟨nd, rfl, hA, hn0, hn1, hR⟩
        have hR : RS wn rb b (.error dd) := by rw [show digS (.ok F1) = .error dd from HDG.out] at hR; exact hR
        have HA := Lib.hid (At.trans HA.out hA)
        have HR := Lib.hid hR
        clear hR hA
        have hz : headV (.error dd) = 0 := rfl
        go_wp2_with fail
        refine (next_calls HR.out).mono ?_
        rintro e wn ⟨rfl, hR, hB⟩
        rw [hz]
        have HA := Lib.hid (At.below' HA.out hB)
        have HR := Lib.hid hR
        clear hR hB
        go_wp2_with fail
        refine (next_calls HR.out).mono ?_
        rintro e wn ⟨rfl, hR, hB⟩
        rw [hz]
        have HA := Lib.hid (At.below' HA.out hB)
        have HR := Lib.hid hR
        clear hR hB
        obtain ⟨g6, e6⟩ := HR.out.e2
        go_wp2_with fail
        go_ret
        refine ⟨0, rfl, HA.out, ?_⟩
        rw [show numS (.ok L) = .error dd from num_f_err HNG.out HWH.out HFR.out]
        exact ⟨rfl, HR.out⟩
      | ok p =>
        obtain ⟨d1, M1⟩ := p
        have HFR := Lib.hid (show fracP W1 = .ok (true, M1) by rw [hf]; exact fracP_hit hx)
        have HDG := Lib.hid hx
        clear hx
        go_wp2_with fail
        refine (rdigits_calls HR.out).mono ?_
        rintro e wn ⟨nd, rfl, hA, hn0, hn1, hR⟩
        rw [show digS (.ok F1) = .ok (d1, M1) from HDG.out] at hR
        have hnd : nd = (d1.length : Int) := hR.1
        have HA := Lib.hid (At.trans HA.out hA)
        have HR := Lib.hid hR.2
        clear hR hA
        by_cases x101 : headV (.ok M1) = 101
        · skip
          go_wp2_with fail
          refine (next_calls HR.out).mono ?_
          rintro e wn ⟨rfl, hR, hB⟩
          rw [x101]
          have HA := Lib.hid (At.below' HA.out hB)
          have HR := Lib.hid hR
          clear hR hB
          obtain ⟨E1, he⟩ : ∃ E1, M1 = 101 :: E1 := by
            obtain ⟨q, hq⟩ := headV_hit (c := 101) (by decide) (s := .ok M1) x101
            injection hq with hq
            exact ⟨q, hq⟩
          have HR := Lib.hid (show RS _ rb b (.ok (101 :: E1)) from he ▸ HR.out)
          have hve : headV (.ok M1) = 101 := x101
          obtain ⟨ke, gke, fke, hke, hR2, hA2, hdke, hlke⟩ := HR.out.step2
          have HA := Lib.hid (At.trans HA.out hA2)
          have HR := Lib.hid hR2
          have HDke := Lib.hid hdke
          clear hR2 hA2 hdke
          by_cases z43 : headV (.ok E1) = 43
          · skip
            go_wp2_with fail
            refine (next_calls HR.out).mono ?_
            rintro e wn ⟨rfl, hR, hB⟩
            rw [z43]
            have HA := Lib.hid (At.below' HA.out hB)
            have HR := Lib.hid hR
            clear hR hB
            obtain ⟨E2, hs⟩ : ∃ E2, E1 = 43 :: E2 := by
              obtain ⟨q, hq⟩ := headV_hit (c := 43) (by decide) (s := .ok E1) z43
              injection hq with hq
              exact ⟨q, hq⟩
            have HR := Lib.hid (show RS _ rb b (.ok (43 :: E2)) from hs ▸ HR.out)
            have hvs : headV (.ok E1) = 43 := z43
            have HSG := Lib.hid (show signP E1 = E2 by rw [hs]; rfl)
            obtain ⟨ks, gks, fks, hks, hR2, hA2, hdks, hlks⟩ := HR.out.step2
            have HA := Lib.hid (At.trans HA.out hA2)
            have HR := Lib.hid hR2
            have HDks := Lib.hid hdks
            clear hR2 hA2 hdks
            cases hx : digitsP E2 with
            | error dd =>
              have HEX := Lib.hid (show expP M1 = .error dd by rw [he]; exact expP_bad (by decide) (by rw [HSG.out]; exact hx))
              have HDG := Lib.hid hx
              clear hx
              go_wp2_with fail
              refine (rdigits_calls HR.out).mono ?_
              rintro e wn ⟨nd, rfl, hA, hn0, hn1, hR⟩
              have hR : RS wn rb b (.error dd) := by rw [show digS (.ok E2) = .error dd from HDG.out] at hR; exact hR
              have HA := Lib.hid (At.trans HA.out hA)
              have HR := Lib.hid hR
              clear hR hA
              have hz : headV (.error dd) = 0 := rfl
              obtain ⟨g6, e6⟩ := HR.out.e2
              go_wp2_with fail
              go_ret
              refine ⟨0, rfl, HA.out, ?_⟩
              rw [show numS (.ok L) = .error dd from num_e_err HNG.out HWH.out HFR.out HEX.out]
              exact ⟨rfl, HR.out⟩
            | ok p =>
              obtain ⟨d2, M2⟩ := p
              have HEX := Lib.hid (show expP M1 = .ok (true, M2) by rw [he]; exact expP_hit (by decide) (by rw [HSG.out]; exact hx))
              have HDG := Lib.hid hx
              clear hx
              go_wp2_with fail
              refine (rdigits_calls HR.out).mono ?_
              rintro e wn ⟨nd, rfl, hA, hn0, hn1, hR⟩
              rw [show digS (.ok E2) = .ok (d2, M2) from HDG.out] at hR
              have hnd : nd = (d2.length : Int) := hR.1
              have HA := Lib.hid (At.trans HA.out hA)
              have HR := Lib.hid hR.2
              clear hR hA
              obtain ⟨k9, g9, hk9, hd9, e9⟩ := HR.out.ok1
              clear hd9
              go_wp2_with fail
              refine (fail_calls HR.out (d := 1) (by decide)).mono ?_
              rintro e wn ⟨rfl, hR, hA⟩
              have HA := Lib.hid (At.trans HA.out hA)
              have HR := Lib.hid hR
              clear hR hA
              go_wp2
              go_ret
              refine ⟨0, rfl, HA.out, ?_⟩
              rw [show numS (.ok L) = .error 1 from (num_ok HNG.out HWH.out HFR.out HEX.out).trans (if_pos (by simp))]
              exact ⟨rfl, HR.out⟩
          by_cases z45 : headV (.ok E1) = 45
          · skip
            go_wp2_with fail
            refine (next_calls HR.out).mono ?_
            rintro e wn ⟨rfl, hR, hB⟩
            rw [z45]
            have HA := Lib.hid (At.below' HA.out hB)
            have HR := Lib.hid hR
            clear hR hB
            go_wp2_with fail
            refine (next_calls HR.out).mono ?_
            rintro e wn ⟨rfl, hR, hB⟩
            rw [z45]
            have HA := Lib.hid (At.below' HA.out hB)
            have HR := Lib.hid hR
            clear hR hB
            obtain ⟨E2, hs⟩ : ∃ E2, E1 = 45 :: E2 := by
              obtain ⟨q, hq⟩ := headV_hit (c := 45) (by decide) (s := .ok E1) z45
              injection hq with hq
              exact ⟨q, hq⟩
            have HR := Lib.hid (show RS _ rb b (.ok (45 :: E2)) from hs ▸ HR.out)
            have hvs : headV (.ok E1) = 45 := z45
            have HSG := Lib.hid (show signP E1 = E2 by rw [hs]; rfl)
            obtain ⟨ks, gks, fks, hks, hR2, hA2, hdks, hlks⟩ := HR.out.step2
            have HA := Lib.hid (At.trans HA.out hA2)
            have HR := Lib.hid hR2
            have HDks := Lib.hid hdks
            clear hR2 hA2 hdks
            cases hx : digitsP E2 with
            | error dd =>
              have HEX := Lib.hid (show expP M1 = .error dd by rw [he]; exact expP_bad (by decide) (by rw [HSG.out]; exact hx))
              have HDG := Lib.hid hx
              clear hx
              go_wp2_with fail
              refine (rdigits_calls HR.out).mono ?_
              rintro e wn ⟨nd, rfl, hA, hn0, hn1, hR⟩
              have hR : RS wn rb b (.error dd) := by rw [show digS (.ok E2) = .error dd from HDG.out] at hR; exact hR
              have HA := Lib.hid (At.trans HA.out hA)
              have HR := Lib.hid hR
              clear hR hA
              have hz : headV (.error dd) = 0 := rfl
              obtain ⟨g6, e6⟩ := HR.out.e2
              go_wp2_with fail
              go_ret
              refine ⟨0, rfl, HA.out, ?_⟩
              rw [show numS (.ok L) = .error dd from num_e_err HNG.out HWH.out HFR.out HEX.out]
              exact ⟨rfl, HR.out⟩
            | ok p =>
              obtain ⟨d2, M2⟩ := p
              have HEX := Lib.hid (show expP M1 = .ok (true, M2) by rw [he]; exact expP_hit (by decide) (by rw [HSG.out]; exact hx))
              have HDG := Lib.hid hx
              clear hx
              go_wp2_with fail
              refine (rdigits_calls HR.out).mono ?_
              rintro e wn ⟨nd, rfl, hA, hn0, hn1, hR⟩
              rw [show digS (.ok E2) = .ok (d2, M2) from HDG.out] at hR
              have hnd : nd = (d2.length : Int) := hR.1
              have HA := Lib.hid (At.trans HA.out hA)
              have HR := Lib.hid hR.2
              clear hR hA
              obtain ⟨k9, g9, hk9, hd9, e9⟩ := HR.out.ok1
              clear hd9
              go_wp2_with fail
              refine (fail_calls HR.out (d := 1) (by decide)).mono ?_
              rintro e wn ⟨rfl, hR, hA⟩
              have HA := Lib.hid (At.trans HA.out hA)
              have HR := Lib.hid hR
              clear hR hA
              go_wp2
              go_ret
              refine ⟨0, rfl, HA.out, ?_⟩
              rw [show numS (.ok L) = .error 1 from (num_ok HNG.out HWH.out HFR.out HEX.out).trans (if_pos (by simp))]
              exact ⟨rfl, HR.out⟩
          have y43 := (beq_eq_false_iff_ne.2 z43)
          have y45 := (beq_eq_false_iff_ne.2 z45)
          have HSG := Lib.hid (signP_no y43 y45)
          go_wp2_with fail
          refine (next_calls HR.out).mono ?_
          rintro e wn ⟨rfl, hR, hB⟩
          have HA := Lib.hid (At.below' HA.out hB)
          have HR := Lib.hid hR
          clear hR hB
          go_wp2_with fail
          refine (next_calls HR.out).mono ?_
          rintro e wn ⟨rfl, hR, hB⟩
          have HA := Lib.hid (At.below' HA.out hB)
          have HR := Lib.hid hR
          clear hR hB
          cases hx : digitsP E1 with
          | error dd =>
            have HEX := Lib.hid (show expP M1 = .error dd by rw [he]; exact expP_bad (by decide) (by rw [HSG.out]; exact hx))
            have HDG := Lib.hid hx
            clear hx
            go_wp2_with fail
            refine (rdigits_calls HR.out).mono ?_
            rintro e wn ⟨nd, rfl, hA, hn0, hn1, hR⟩
            have hR : RS wn rb b (.error dd) := by rw [show digS (.ok E1) = .error dd from HDG.out] at hR; exact hR
            have HA := Lib.hid (At.trans HA.out hA)
            have HR := Lib.hid hR
            clear hR hA
            have hz : headV (.error dd) = 0 := rfl
            obtain ⟨g6, e6⟩ := HR.out.e2
            go_wp2_with fail
            go_ret
            refine ⟨0, rfl, HA.out, ?_⟩
            rw [show numS (.ok L) = .error dd from num_e_err HNG.out HWH.out HFR.out HEX.out]
            exact ⟨rfl, HR.out⟩
          | ok p =>
            obtain ⟨d2, M2⟩ := p
            have HEX := Lib.hid (show expP M1 = .ok (true, M2) by rw [he]; exact expP_hit (by decide) (by rw [HSG.out]; exact hx))
            have HDG := Lib.hid hx
            clear hx
            go_wp2_with fail
            refine (rdigits_calls HR.out).mono ?_
            rintro e wn ⟨nd, rfl, hA, hn0, hn1, hR⟩
            rw [show digS (.ok E1) = .ok (d2, M2) from HDG.out] at hR
            have hnd : nd = (d2.length : Int) := hR.1
            have HA := Lib.hid (At.trans HA.out hA)
            have HR := Lib.hid hR.2
            clear hR hA
            obtain ⟨k9, g9, hk9, hd9, e9⟩ := HR.out.ok1
            clear hd9
            go_wp2_with fail
            refine (fail_calls HR.out (d := 1) (by decide)).mono ?_
            rintro e wn ⟨rfl, hR, hA⟩
            have HA := Lib.hid (At.trans HA.out hA)
            have HR := Lib.hid hR
            clear hR hA
            go_wp2
            go_ret
            refine ⟨0, rfl, HA.out, ?_⟩
            rw [show numS (.ok L) = .error 1 from (num_ok HNG.out HWH.out HFR.out HEX.out).trans (if_pos (by simp))]
            exact ⟨rfl, HR.out⟩
        by_cases x69 : headV (.ok M1) = 69
        · skip
          go_wp2_with fail
          refine (next_calls HR.out).mono ?_
          rintro e wn ⟨rfl, hR, hB⟩
          rw [x69]
          have HA := Lib.hid (At.below' HA.out hB)
          have HR := Lib.hid hR
          clear hR hB
          go_wp2_with fail
          refine (next_calls HR.out).mono ?_
          rintro e wn ⟨rfl, hR, hB⟩
          rw [x69]
          have HA := Lib.hid (At.below' HA.out hB)
          have HR := Lib.hid hR
          clear hR hB
          obtain ⟨E1, he⟩ : ∃ E1, M1 = 69 :: E1 := by
            obtain ⟨q, hq⟩ := headV_hit (c := 69) (by decide) (s := .ok M1) x69
            injection hq with hq
            exact ⟨q, hq⟩
          have HR := Lib.hid (show RS _ rb b (.ok (69 :: E1)) from he ▸ HR.out)
          have hve : headV (.ok M1) = 69 := x69
          obtain ⟨ke, gke, fke, hke, hR2, hA2, hdke, hlke⟩ := HR.out.step2
          have HA := Lib.hid (At.trans HA.out hA2)
          have HR := Lib.hid hR2
          have HDke := Lib.hid hdke
          clear hR2 hA2 hdke
          by_cases z43 : headV (.ok E1) = 43
          · skip
            go_wp2_with fail
            refine (next_calls HR.out).mono ?_
            rintro e wn ⟨rfl, hR, hB⟩
            rw [z43]
            have HA := Lib.hid (At.below' HA.out hB)
            have HR := Lib.hid hR
            clear hR hB
            obtain ⟨E2, hs⟩ : ∃ E2, E1 = 43 :: E2 := by
              obtain ⟨q, hq⟩ := headV_hit (c := 43) (by decide) (s := .ok E1) z43
              injection hq with hq
              exact ⟨q, hq⟩
            have HR := Lib.hid (show RS _ rb b (.ok (43 :: E2)) from hs ▸ HR.out)
            have hvs : headV (.ok E1) = 43 := z43
            have HSG := Lib.hid (show signP E1 = E2 by rw [hs]; rfl)
            obtain ⟨ks, gks, fks, hks, hR2, hA2, hdks, hlks⟩ := HR.out.step2
            have HA := Lib.hid (At.trans HA.out hA2)
            have HR := Lib.hid hR2
            have HDks := Lib.hid hdks
            clear hR2 hA2 hdks
            cases hx : digitsP E2 with
            | error dd =>
              have HEX := Lib.hid (show expP M1 = .error dd by rw [he]; exact expP_bad (by decide) (by rw [HSG.out]; exact hx))
              have HDG := Lib.hid hx
              clear hx
              go_wp2_with fail
              refine (rdigits_calls HR.out).mono ?_
              rintro e wn ⟨nd, rfl, hA, hn0, hn1, hR⟩
              have hR : RS wn rb b (.error dd) := by rw [show digS (.ok E2) = .error dd from HDG.out] at hR; exact hR
              have HA := Lib.hid (At.trans HA.out hA)
              have HR := Lib.hid hR
              clear hR hA
              have hz : headV (.error dd) = 0 := rfl
              obtain ⟨g6, e6⟩ := HR.out.e2
              go_wp2_with fail
              go_ret
              refine ⟨0, rfl, HA.out, ?_⟩
              rw [show numS (.ok L) = .error dd from num_e_err HNG.out HWH.out HFR.out HEX.out]
              exact ⟨rfl, HR.out⟩
            | ok p =>
              obtain ⟨d2, M2⟩ := p
              have HEX := Lib.hid (show expP M1 = .ok (true, M2) by rw [he]; exact expP_hit (by decide) (by rw [HSG.out]; exact hx))
              have HDG := Lib.hid hx
              clear hx
              go_wp2_with fail
              refine (rdigits_calls HR.out).mono ?_
              rintro e wn ⟨nd, rfl, hA, hn0, hn1, hR⟩
              rw [show digS (.ok E2) = .ok (d2, M2) from HDG.out] at hR
              have hnd : nd = (d2.length : Int) := hR.1
              have HA := Lib.hid (At.trans HA.out hA)
              have HR := Lib.hid hR.2
              clear hR hA
              obtain ⟨k9, g9, hk9, hd9, e9⟩ := HR.out.ok1
              clear hd9
              go_wp2_with fail
              refine (fail_calls HR.out (d := 1) (by decide)).mono ?_
              rintro e wn ⟨rfl, hR, hA⟩
              have HA := Lib.hid (At.trans HA.out hA)
              have HR := Lib.hid hR
              clear hR hA
              go_wp2
              go_ret
              refine ⟨0, rfl, HA.out, ?_⟩
              rw [show numS (.ok L) = .error 1 from (num_ok HNG.out HWH.out HFR.out HEX.out).trans (if_pos (by simp))]
              exact ⟨rfl, HR.out⟩
          by_cases z45 : headV (.ok E1) = 45
          · skip
            go_wp2_with fail
            refine (next_calls HR.out).mono ?_
            rintro e wn ⟨rfl, hR, hB⟩
            rw [z45]
            have HA := Lib.hid (At.below' HA.out hB)
            have HR := Lib.hid hR
            clear hR hB
            go_wp2_with fail
            refine (next_calls HR.out).mono ?_
            rintro e wn ⟨rfl, hR, hB⟩
            rw [z45]
            have HA := Lib.hid (At.below' HA.out hB)
            have HR := Lib.hid hR
            clear hR hB
            obtain ⟨E2, hs⟩ : ∃ E2, E1 = 45 :: E2 := by
              obtain ⟨q, hq⟩ := headV_hit (c := 45) (by decide) (s := .ok E1) z45
              injection hq with hq
              exact ⟨q, hq⟩
            have HR := Lib.hid (show RS _ rb b (.ok (45 :: E2)) from hs ▸ HR.out)
            have hvs : headV (.ok E1) = 45 := z45
            have HSG := Lib.hid (show signP E1 = E2 by rw [hs]; rfl)
            obtain ⟨ks, gks, fks, hks, hR2, hA2, hdks, hlks⟩ := HR.out.step2
            have HA := Lib.hid (At.trans HA.out hA2)
            have HR := Lib.hid hR2
            have HDks := Lib.hid hdks
            clear hR2 hA2 hdks
            cases hx : digitsP E2 with
            | error dd =>
              have HEX := Lib.hid (show expP M1 = .error dd by rw [he]; exact expP_bad (by decide) (by rw [HSG.out]; exact hx))
              have HDG := Lib.hid hx
              clear hx
              go_wp2_with fail
              refine (rdigits_calls HR.out).mono ?_
              rintro e wn ⟨nd, rfl, hA, hn0, hn1, hR⟩
              have hR : RS wn rb b (.error dd) := by rw [show digS (.ok E2) = .error dd from HDG.out] at hR; exact hR
              have HA := Lib.hid (At.trans HA.out hA)
              have HR := Lib.hid hR
              clear hR hA
              have hz : headV (.error dd) = 0 := rfl
              obtain ⟨g6, e6⟩ := HR.out.e2
              go_wp2_with fail
              go_ret
              refine ⟨0, rfl, HA.out, ?_⟩
              rw [show numS (.ok L) = .error dd from num_e_err HNG.out HWH.out HFR.out HEX.out]
              exact ⟨rfl, HR.out⟩
            | ok p =>
              obtain ⟨d2, M2⟩ := p
              have HEX := Lib.hid (show expP M1 = .ok (true, M2) by rw [he]; exact expP_hit (by decide) (by rw [HSG.out]; exact hx))
              have HDG := Lib.hid hx
              clear hx
              go_wp2_with fail
              refine (rdigits_calls HR.out).mono ?_
              rintro e wn ⟨nd, rfl, hA, hn0, hn1, hR⟩
              rw [show digS (.ok E2) = .ok (d2, M2) from HDG.out] at hR
              have hnd : nd = (d2.length : Int) := hR.1
              have HA := Lib.hid (At.trans HA.out hA)
              have HR := Lib.hid hR.2
              clear hR hA
              obtain ⟨k9, g9, hk9, hd9, e9⟩ := HR.out.ok1
              clear hd9
              go_wp2_with fail
              refine (fail_calls HR.out (d := 1) (by decide)).mono ?_
              rintro e wn ⟨rfl, hR, hA⟩
              have HA := Lib.hid (At.trans HA.out hA)
              have HR := Lib.hid hR
              clear hR hA
              go_wp2
              go_ret
              refine ⟨0, rfl, HA.out, ?_⟩
              rw [show numS (.ok L) = .error 1 from (num_ok HNG.out HWH.out HFR.out HEX.out).trans (if_pos (by simp))]
              exact ⟨rfl, HR.out⟩
          have y43 := (beq_eq_false_iff_ne.2 z43)
          have y45 := (beq_eq_false_iff_ne.2 z45)
          have HSG := Lib.hid (signP_no y43 y45)
          go_wp2_with fail
          refine (next_calls HR.out).mono ?_
          rintro e wn ⟨rfl, hR, hB⟩
          have HA := Lib.hid (At.below' HA.out hB)
          have HR := Lib.hid hR
          clear hR hB
          go_wp2_with fail
          refine (next_calls HR.out).mono ?_
          rintro e wn ⟨rfl, hR, hB⟩
          have HA := Lib.hid (At.below' HA.out hB)
          have HR := Lib.hid hR
          clear hR hB
          cases hx : digitsP E1 with
          | error dd =>
            have HEX := Lib.hid (show expP M1 = .error dd by rw [he]; exact expP_bad (by decide) (by rw [HSG.out]; exact hx))
            have HDG := Lib.hid hx
            clear hx
            go_wp2_with fail
            refine (rdigits_calls HR.out).mono ?_
            rintro e wn ⟨nd, rfl, hA, hn0, hn1, hR⟩
            have hR : RS wn rb b (.error dd) := by rw [show digS (.ok E1) = .error dd from HDG.out] at hR; exact hR
            have HA := Lib.hid (At.trans HA.out hA)
            have HR := Lib.hid hR
            clear hR hA
            have hz : headV (.error dd) = 0 := rfl
            obtain ⟨g6, e6⟩ := HR.out.e2
            go_wp2_with fail
            go_ret
            refine ⟨0, rfl, HA.out, ?_⟩
            rw [show numS (.ok L) = .error dd from num_e_err HNG.out HWH.out HFR.out HEX.out]
            exact ⟨rfl, HR.out⟩
          | ok p =>
            obtain ⟨d2, M2⟩ := p
            have HEX := Lib.hid (show expP M1 = .ok (true, M2) by rw [he]; exact expP_hit (by decide) (by rw [HSG.out]; exact hx))
            have HDG := Lib.hid hx
            clear hx
            go_wp2_with fail
            refine (rdigits_calls HR.out).mono ?_
            rintro e wn ⟨nd, rfl, hA, hn0, hn1, hR⟩
            rw [show digS (.ok E1) = .ok (d2, M2) from HDG.out] at hR
            have hnd : nd = (d2.length : Int) := hR.1
            have HA := Lib.hid (At.trans HA.out hA)
            have HR := Lib.hid hR.2
            clear hR hA
            obtain ⟨k9, g9, hk9, hd9, e9⟩ := HR.out.ok1
            clear hd9
            go_wp2_with fail
            refine (fail_calls HR.out (d := 1) (by decide)).mono ?_
            rintro e wn ⟨rfl, hR, hA⟩
            have HA := Lib.hid (At.trans HA.out hA)
            have HR := Lib.hid hR
            clear hR hA
            go_wp2
            go_ret
            refine ⟨0, rfl, HA.out, ?_⟩
            rw [show numS (.ok L) = .error 1 from (num_ok HNG.out HWH.out HFR.out HEX.out).trans (if_pos (by simp))]
            exact ⟨rfl, HR.out⟩
        have y101 := (beq_eq_false_iff_ne.2 x101)
        have y69 := (beq_eq_false_iff_ne.2 x69)
        have HEX := Lib.hid (expP_no y101 y69)
        go_wp2_with fail
        refine (next_calls HR.out).mono ?_
        rintro e wn ⟨rfl, hR, hB⟩
        have HA := Lib.hid (At.below' HA.out hB)
        have HR := Lib.hid hR
        clear hR hB
        go_wp2_with fail
        refine (next_calls HR.out).mono ?_
        rintro e wn ⟨rfl, hR, hB⟩
        have HA := Lib.hid (At.below' HA.out hB)
        have HR := Lib.hid hR
        clear hR hB
        obtain ⟨k9, g9, hk9, hd9, e9⟩ := HR.out.ok1
        clear hd9
        go_wp2_with fail
        refine (fail_calls HR.out (d := 1) (by decide)).mono ?_
        rintro e wn ⟨rfl, hR, hA⟩
        have HA := Lib.hid (At.trans HA.out hA)
        have HR := Lib.hid hR
        clear hR hA
        go_wp2
        go_ret
        refine ⟨0, rfl, HA.out, ?_⟩
        rw [show numS (.ok L) = .error 1 from (num_ok HNG.out HWH.out HFR.out HEX.out).trans (if_pos (by simp))]
        exact ⟨rfl, HR.out⟩
    have HFR := Lib.hid (fracP_no (beq_eq_false_iff_ne.2 x46))
    have y46 := (beq_eq_false_iff_ne.2 x46)
    go_wp2_with fail
    refine (next_calls HR.out).mono ?_
    rintro e wn ⟨rfl, hR, hB⟩
    have HA := Lib.hid (At.below' HA.out hB)
    have HR := Lib.hid hR
    clear hR hB
    by_cases x101 : headV (.ok W1) = 101
    · skip
      go_wp2_with fail
      refine (next_calls HR.out).mono ?_
      rintro e wn ⟨rfl, hR, hB⟩
      rw [x101]
      have HA := Lib.hid (At.below' HA.out hB)
      have HR := Lib.hid hR
      clear hR hB
      obtain ⟨E1, he⟩ : ∃ E1, W1 = 101 :: E1 := by
        obtain ⟨q, hq⟩ := headV_hit (c := 101) (by decide) (s := .ok W1) x101
        injection hq with hq
        exact ⟨q, hq⟩
      have HR := Lib.hid (show RS _ rb b (.ok (101 :: E1)) from he ▸ HR.out)
      have hve : headV (.ok W1) = 101 := x101
      obtain ⟨ke, gke, fke, hke, hR2, hA2, hdke, hlke⟩ := HR.out.step2
      have HA := Lib.hid (At.trans HA.out hA2)
      have HR := Lib.hid hR2
      have HDke := Lib.hid hdke
      clear hR2 hA2 hdke
      by_cases z43 : headV (.ok E1) = 43
      · skip
        go_wp2_with fail
        refine (next_calls HR.out).mono ?_
        rintro e wn ⟨rfl, hR, hB⟩
        rw [z43]
        have HA := Lib.hid (At.below' HA.out hB)
        have HR := Lib.hid hR
        clear hR hB
        obtain ⟨E2, hs⟩ : ∃ E2, E1 = 43 :: E2 := by
          obtain ⟨q, hq⟩ := headV_hit (c := 43) (by decide) (s := .ok E1) z43
          injection hq with hq
          exact ⟨q, hq⟩
        have HR := Lib.hid (show RS _ rb b (.ok (43 :: E2)) from hs ▸ HR.out)
        have hvs : headV (.ok E1) = 43 := z43
        have HSG := Lib.hid (show signP E1 = E2 by rw [hs]; rfl)
        obtain ⟨ks, gks, fks, hks, hR2, hA2, hdks, hlks⟩ := HR.out.step2
        have HA := Lib.hid (At.trans HA.out hA2)
        have HR := Lib.hid hR2
        have HDks := Lib.hid hdks
        clear hR2 hA2 hdks
        cases hx : digitsP E2 with
        | error dd =>
          have HEX := Lib.hid (show expP W1 = .error dd by rw [he]; exact expP_bad (by decide) (by rw [HSG.out]; exact hx))
          have HDG := Lib.hid hx
          clear hx
          go_wp2_with fail
          refine (rdigits_calls HR.out).mono ?_
          rintro e wn ⟨nd, rfl, hA, hn0, hn1, hR⟩
          have hR : RS wn rb b (.error dd) := by rw [show digS (.ok E2) = .error dd from HDG.out] at hR; exact hR
          have HA := Lib.hid (At.trans HA.out hA)
          have HR := Lib.hid hR
          clear hR hA
          have hz : headV (.error dd) = 0 := rfl
          obtain ⟨g6, e6⟩ := HR.out.e2
          go_wp2_with fail
          go_ret
          refine ⟨0, rfl, HA.out, ?_⟩
          rw [show numS (.ok L) = .error dd from num_e_err HNG.out HWH.out HFR.out HEX.out]
          exact ⟨rfl, HR.out⟩
        | ok p =>
          obtain ⟨d2, M2⟩ := p
          have HEX := Lib.hid (show expP W1 = .ok (true, M2) by rw [he]; exact expP_hit (by decide) (by rw [HSG.out]; exact hx))
          have HDG := Lib.hid hx
          clear hx
          go_wp2_with fail
          refine (rdigits_calls HR.out).mono ?_
          rintro e wn ⟨nd, rfl, hA, hn0, hn1, hR⟩
          rw [show digS (.ok E2) = .ok (d2, M2) from HDG.out] at hR
          have hnd : nd = (d2.length : Int) := hR.1
          have HA := Lib.hid (At.trans HA.out hA)
          have HR := Lib.hid hR.2
          clear hR hA
          obtain ⟨k9, g9, hk9, hd9, e9⟩ := HR.out.ok1
          clear hd9
          go_wp2_with fail
          refine (fail_calls HR.out (d := 1) (by decide)).mono ?_
          rintro e wn ⟨rfl, hR, hA⟩
          have HA := Lib.hid (At.trans HA.out hA)
          have HR := Lib.hid hR
          clear hR hA
          go_wp2
          go_ret
          refine ⟨0, rfl, HA.out, ?_⟩
          rw [show numS (.ok L) = .error 1 from (num_ok HNG.out HWH.out HFR.out HEX.out).trans (if_pos (by simp))]
          exact ⟨rfl, HR.out⟩
      by_cases z45 : headV (.ok E1) = 45
      · skip
        go_wp2_with fail
        refine (next_calls HR.out).mono ?_
        rintro e wn ⟨rfl, hR, hB⟩
        rw [z45]
        have HA := Lib.hid (At.below' HA.out hB)
        have HR := Lib.hid hR
        clear hR hB
        go_wp2_with fail
        refine (next_calls HR.out).mono ?_
        rintro e wn ⟨rfl, hR, hB⟩
        rw [z45]
        have HA := Lib.hid (At.below' HA.out hB)
        have HR := Lib.hid hR
        clear hR hB
        obtain ⟨E2, hs⟩ : ∃ E2, E1 = 45 :: E2 := by
          obtain ⟨q, hq⟩ := headV_hit (c := 45) (by decide) (s := .ok E1) z45
          injection hq with hq
          exact ⟨q, hq⟩
        have HR := Lib.hid (show RS _ rb b (.ok (45 :: E2)) from hs ▸ HR.out)
        have hvs : headV (.ok E1) = 45 := z45
        have HSG := Lib.hid (show signP E1 = E2 by rw [hs]; rfl)
        obtain ⟨ks, gks, fks, hks, hR2, hA2, hdks, hlks⟩ := HR.out.step2
        have HA := Lib.hid (At.trans HA.out hA2)
        have HR := Lib.hid hR2
        have HDks := Lib.hid hdks
        clear hR2 hA2 hdks
        cases hx : digitsP E2 with
        | error dd =>
          have HEX := Lib.hid (show expP W1 = .error dd by rw [he]; exact expP_bad (by decide) (by rw [HSG.out]; exact hx))
          have HDG := Lib.hid hx
          clear hx
          go_wp2_with fail
          refine (rdigits_calls HR.out).mono ?_
          rintro e wn ⟨nd, rfl, hA, hn0, hn1, hR⟩
          have hR : RS wn rb b (.error dd) := by rw [show digS (.ok E2) = .error dd from HDG.out] at hR; exact hR
          have HA := Lib.hid (At.trans HA.out hA)
          have HR := Lib.hid hR
          clear hR hA
          have hz : headV (.error dd) = 0 := rfl
          obtain ⟨g6, e6⟩ := HR.out.e2
          go_wp2_with fail
          go_ret
          refine ⟨0, rfl, HA.out, ?_⟩
          rw [show numS (.ok L) = .error dd from num_e_err HNG.out HWH.out HFR.out HEX.out]
          exact ⟨rfl, HR.out⟩
        | ok p =>
          obtain ⟨d2, M2⟩ := p
          have HEX := Lib.hid (show expP W1 = .ok (true, M2) by rw [he]; exact expP_hit (by decide) (by rw [HSG.out]; exact hx))
          have HDG := Lib.hid hx
          clear hx
          go_wp2_with fail
          refine (rdigits_calls HR.out).mono ?_
          rintro e wn ⟨nd, rfl, hA, hn0, hn1, hR⟩
          rw [show digS (.ok E2) = .ok (d2, M2) from HDG.out] at hR
          have hnd : nd = (d2.length : Int) := hR.1
          have HA := Lib.hid (At.trans HA.out hA)
          have HR := Lib.hid hR.2
          clear hR hA
          obtain ⟨k9, g9, hk9, hd9, e9⟩ := HR.out.ok1
          clear hd9
          go_wp2_with fail
          refine (fail_calls HR.out (d := 1) (by decide)).mono ?_
          rintro e wn ⟨rfl, hR, hA⟩
          have HA := Lib.hid (At.trans HA.out hA)
          have HR := Lib.hid hR
          clear hR hA
          go_wp2
          go_ret
          refine ⟨0, rfl, HA.out, ?_⟩
          rw [show numS (.ok L) = .error 1 from (num_ok HNG.out HWH.out HFR.out HEX.out).trans (if_pos (by simp))]
          exact ⟨rfl, HR.out⟩
      have y43 := (beq_eq_false_iff_ne.2 z43)
      have y45 := (beq_eq_false_iff_ne.2 z45)
      have HSG := Lib.hid (signP_no y43 y45)
      go_wp2_with fail
      refine (next_calls HR.out).mono ?_
      rintro e wn ⟨rfl, hR, hB⟩
      have HA := Lib.hid (At.below' HA.out hB)
      have HR := Lib.hid hR
      clear hR hB
      go_wp2_with fail
      refine (next_calls HR.out).mono ?_
      rintro e wn ⟨rfl, hR, hB⟩
      have HA := Lib.hid (At.below' HA.out hB)
      have HR := Lib.hid hR
      clear hR hB
      cases hx : digitsP E1 with
      | error dd =>
        have HEX := Lib.hid (show expP W1 = .error dd by rw [he]; exact expP_bad (by decide) (by rw [HSG.out]; exact hx))
        have HDG := Lib.hid hx
        clear hx
        go_wp2_with fail
        refine (rdigits_calls HR.out).mono ?_
        rintro e wn ⟨nd, rfl, hA, hn0, hn1, hR⟩
        have hR : RS wn rb b (.error dd) := by rw [show digS (.ok E1) = .error dd from HDG.out] at hR; exact hR
        have HA := Lib.hid (At.trans HA.out hA)
        have HR := Lib.hid hR
        clear hR hA
        have hz : headV (.error dd) = 0 := rfl
        obtain ⟨g6, e6⟩ := HR.out.e2
        go_wp2_with fail
        go_ret
        refine ⟨0, rfl, HA.out, ?_⟩
        rw [show numS (.ok L) = .error dd from num_e_err HNG.out HWH.out HFR.out HEX.out]
        exact ⟨rfl, HR.out⟩
      | ok p =>
        obtain ⟨d2, M2⟩ := p
        have HEX := Lib.hid (show expP W1 = .ok (true, M2) by rw [he]; exact expP_hit (by decide) (by rw [HSG.out]; exact hx))
        have HDG := Lib.hid hx
        clear hx
        go_wp2_with fail
        refine (rdigits_calls HR.out).mono ?_
        rintro e wn ⟨nd, rfl, hA, hn0, hn1, hR⟩
        rw [show digS (.ok E1) = .ok (d2, M2) from HDG.out] at hR
        have hnd : nd = (d2.length : Int) := hR.1
        have HA := Lib.hid (At.trans HA.out hA)
        have HR := Lib.hid hR.2
        clear hR hA
        obtain ⟨k9, g9, hk9, hd9, e9⟩ := HR.out.ok1
        clear hd9
        go_wp2_with fail
        refine (fail_calls HR.out (d := 1) (by decide)).mono ?_
        rintro e wn ⟨rfl, hR, hA⟩
        have HA := Lib.hid (At.trans HA.out hA)
        have HR := Lib.hid hR
        clear hR hA
        go_wp2
        go_ret
        refine ⟨0, rfl, HA.out, ?_⟩
        rw [show numS (.ok L) = .error 1 from (num_ok HNG.out HWH.out HFR.out HEX.out).trans (if_pos (by simp))]
        exact ⟨rfl, HR.out⟩
    by_cases x69 : headV (.ok W1) = 69
    · skip
      go_wp2_with fail
      refine (next_calls HR.out).mono ?_
      rintro e wn ⟨rfl, hR, hB⟩
      rw [x69]
      have HA := Lib.hid (At.below' HA.out hB)
      have HR := Lib.hid hR
      clear hR hB
      go_wp2_with fail
      refine (next_calls HR.out).mono ?_
      rintro e wn ⟨rfl, hR, hB⟩
      rw [x69]
      have HA := Lib.hid (At.below' HA.out hB)
      have HR := Lib.hid hR
      clear hR hB
      obtain ⟨E1, he⟩ : ∃ E1, W1 = 69 :: E1 := by
        obtain ⟨q, hq⟩ := headV_hit (c := 69) (by decide) (s := .ok W1) x69
        injection hq with hq
        exact ⟨q, hq⟩
      have HR := Lib.hid (show RS _ rb b (.ok (69 :: E1)) from he ▸ HR.out)
      have hve : headV (.ok W1) = 69 := x69
      obtain ⟨ke, gke, fke, hke, hR2, hA2, hdke, hlke⟩ := HR.out.step2
      have HA := Lib.hid (At.trans HA.out hA2)
      have HR := Lib.hid hR2
      have HDke := Lib.hid hdke
      clear hR2 hA2 hdke
      by_cases z43 : headV (.ok E1) = 43
      · skip
        go_wp2_with fail
        refine (next_calls HR.out).mono ?_
        rintro e wn ⟨rfl, hR, hB⟩
        rw [z43]
        have HA := Lib.hid (At.below' HA.out hB)
        have HR := Lib.hid hR
        clear hR hB
        obtain ⟨E2, hs⟩ : ∃ E2, E1 = 43 :: E2 := by
          obtain ⟨q, hq⟩ := headV_hit (c := 43) (by decide) (s := .ok E1) z43
          injection hq with hq
          exact ⟨q, hq⟩
        have HR := Lib.hid (show RS _ rb b (.ok (43 :: E2)) from hs ▸ HR.out)
        have hvs : headV (.ok E1) = 43 := z43
        have HSG := Lib.hid (show signP E1 = E2 by rw [hs]; rfl)
        obtain ⟨ks, gks, fks, hks, hR2, hA2, hdks, hlks⟩ := HR.out.step2
        have HA := Lib.hid (At.trans HA.out hA2)
        have HR := Lib.hid hR2
        have HDks := Lib.hid hdks
        clear hR2 hA2 hdks
        cases hx : digitsP E2 with
        | error dd =>
          have HEX := Lib.hid (show expP W1 = .error dd by rw [he]; exact expP_bad (by decide) (by rw [HSG.out]; exact hx))
          have HDG := Lib.hid hx
          clear hx
          go_wp2_with fail
          refine (rdigits_calls HR.out).mono ?_
          rintro e wn ⟨nd, rfl, hA, hn0, hn1, hR⟩
          have hR : RS wn rb b (.error dd) := by rw [show digS (.ok E2) = .error dd from HDG.out] at hR; exact hR
          have HA := Lib.hid (At.trans HA.out hA)
          have HR := Lib.hid hR
          clear hR hA
          have hz : headV (.error dd) = 0 := rfl
          obtain ⟨g6, e6⟩ := HR.out.e2
          go_wp2_with fail
          go_ret
          refine ⟨0, rfl, HA.out, ?_⟩
          rw [show numS (.ok L) = .error dd from num_e_err HNG.out HWH.out HFR.out HEX.out]
          exact ⟨rfl, HR.out⟩
        | ok p =>
          obtain ⟨d2, M2⟩ := p
          have HEX := Lib.hid (show expP W1 = .ok (true, M2) by rw [he]; exact expP_hit (by decide) (by rw [HSG.out]; exact hx))
          have HDG := Lib.hid hx
          clear hx
          go_wp2_with fail
          refine (rdigits_calls HR.out).mono ?_
          rintro e wn ⟨nd, rfl, hA, hn0, hn1, hR⟩
          rw [show digS (.ok E2) = .ok (d2, M2) from HDG.out] at hR
          have hnd : nd = (d2.length : Int) := hR.1
          have HA := Lib.hid (At.trans HA.out hA)
          have HR := Lib.hid hR.2
          clear hR hA
          obtain ⟨k9, g9, hk9, hd9, e9⟩ := HR.out.ok1
          clear hd9
          go_wp2_with fail
          refine (fail_calls HR.out (d := 1) (by decide)).mono ?_
          rintro e wn ⟨rfl, hR, hA⟩
          have HA := Lib.hid (At.trans HA.out hA)
          have HR := Lib.hid hR
          clear hR hA
          go_wp2
          go_ret
          refine ⟨0, rfl, HA.out, ?_⟩
          rw [show numS (.ok L) = .error 1 from (num_ok HNG.out HWH.out HFR.out HEX.out).trans (if_pos (by simp))]
          exact ⟨rfl, HR.out⟩
      by_cases z45 : headV (.ok E1) = 45
      · skip
        go_wp2_with fail
        refine (next_calls HR.out).mono ?_
        rintro e wn ⟨rfl, hR, hB⟩
        rw [z45]
        have HA := Lib.hid (At.below' HA.out hB)
        have HR := Lib.hid hR
        clear hR hB
        go_wp2_with fail
        refine (next_calls HR.out).mono ?_
        rintro e wn ⟨rfl, hR, hB⟩
        rw [z45]
        have HA := Lib.hid (At.below' HA.out hB)
        have HR := Lib.hid hR
        clear hR hB
        obtain ⟨E2, hs⟩ : ∃ E2, E1 = 45 :: E2 := by
          obtain ⟨q, hq⟩ := headV_hit (c := 45) (by decide) (s := .ok E1) z45
          injection hq with hq
          exact ⟨q, hq⟩
        have HR := Lib.hid (show RS _ rb b (.ok (45 :: E2)) from hs ▸ HR.out)
        have hvs : headV (.ok E1) = 45 := z45
        have HSG := Lib.hid (show signP E1 = E2 by rw [hs]; rfl)
        obtain ⟨ks, gks, fks, hks, hR2, hA2, hdks, hlks⟩ := HR.out.step2
        have HA := Lib.hid (At.trans HA.out hA2)
        have HR := Lib.hid hR2
        have HDks := Lib.hid hdks
        clear hR2 hA2 hdks
        cases hx : digitsP E2 with
        | error dd =>
          have HEX := Lib.hid (show expP W1 = .error dd by rw [he]; exact expP_bad (by decide) (by rw [HSG.out]; exact hx))
          have HDG := Lib.hid hx
          clear hx
          go_wp2_with fail
          refine (rdigits_calls HR.out).mono ?_
          rintro e wn ⟨nd, rfl, hA, hn0, hn1, hR⟩
          have hR : RS wn rb b (.error dd) := by rw [show digS (.ok E2) = .error dd from HDG.out] at hR; exact hR
          have HA := Lib.hid (At.trans HA.out hA)
          have HR := Lib.hid hR
          clear hR hA
          have hz : headV (.error dd) = 0 := rfl
          obtain ⟨g6, e6⟩ := HR.out.e2
          go_wp2_with fail
          go_ret
          refine ⟨0, rfl, HA.out, ?_⟩
          rw [show numS (.ok L) = .error dd from num_e_err HNG.out HWH.out HFR.out HEX.out]
          exact ⟨rfl, HR.out⟩
        | ok p =>
          obtain ⟨d2, M2⟩ := p
          have HEX := Lib.hid (show expP W1 = .ok (true, M2) by rw [he]; exact expP_hit (by decide) (by rw [HSG.out]; exact hx))
          have HDG := Lib.hid hx
          clear hx
          go_wp2_with fail
          refine (rdigits_calls HR.out).mono ?_
          rintro e wn ⟨nd, rfl, hA, hn0, hn1, hR⟩
          rw [show digS (.ok E2) = .ok (d2, M2) from HDG.out] at hR
          have hnd : nd = (d2.length : Int) := hR.1
          have HA := Lib.hid (At.trans HA.out hA)
          have HR := Lib.hid hR.2
          clear hR hA
          obtain ⟨k9, g9, hk9, hd9, e9⟩ := HR.out.ok1
          clear hd9
          go_wp2_with fail
          refine (fail_calls HR.out (d := 1) (by decide)).mono ?_
          rintro e wn ⟨rfl, hR, hA⟩
          have HA := Lib.hid (At.trans HA.out hA)
          have HR := Lib.hid hR
          clear hR hA
          go_wp2
          go_ret
          refine ⟨0, rfl, HA.out, ?_⟩
          rw [show numS (.ok L) = .error 1 from (num_ok HNG.out HWH.out HFR.out HEX.out).trans (if_pos (by simp))]
          exact ⟨rfl, HR.out⟩
      have y43 := (beq_eq_false_iff_ne.2 z43)
      have y45 := (beq_eq_false_iff_ne.2 z45)
      have HSG := Lib.hid (signP_no y43 y45)
      go_wp2_with fail
      refine (next_calls HR.out).mono ?_
      rintro e wn ⟨rfl, hR, hB⟩
      have HA := Lib.hid (At.below' HA.out hB)
      have HR := Lib.hid hR
      clear hR hB
      go_wp2_with fail
      refine (next_calls HR.out).mono ?_
      rintro e wn ⟨rfl, hR, hB⟩
      have HA := Lib.hid (At.below' HA.out hB)
      have HR := Lib.hid hR
      clear hR hB
      cases hx : digitsP E1 with
      | error dd =>
        have HEX := Lib.hid (show expP W1 = .error dd by rw [he]; exact expP_bad (by decide) (by rw [HSG.out]; exact hx))
        have HDG := Lib.hid hx
        clear hx
        go_wp2_with fail
        refine (rdigits_calls HR.out).mono ?_
        rintro e wn ⟨nd, rfl, hA, hn0, hn1, hR⟩
        have hR : RS wn rb b (.error dd) := by rw [show digS (.ok E1) = .error dd from HDG.out] at hR; exact hR
        have HA := Lib.hid (At.trans HA.out hA)
        have HR := Lib.hid hR
        clear hR hA
        have hz : headV (.error dd) = 0 := rfl
        obtain ⟨g6, e6⟩ := HR.out.e2
        go_wp2_with fail
        go_ret
        refine ⟨0, rfl, HA.out, ?_⟩
        rw [show numS (.ok L) = .error dd from num_e_err HNG.out HWH.out HFR.out HEX.out]
        exact ⟨rfl, HR.out⟩
      | ok p =>
        obtain ⟨d2, M2⟩ := p
        have HEX := Lib.hid (show expP W1 = .ok (true, M2) by rw [he]; exact expP_hit (by decide) (by rw [HSG.out]; exact hx))
        have HDG := Lib.hid hx
        clear hx
        go_wp2_with fail
        refine (rdigits_calls HR.out).mono ?_
        rintro e wn ⟨nd, rfl, hA, hn0, hn1, hR⟩
        rw [show digS (.ok E1) = .ok (d2, M2) from HDG.out] at hR
        have hnd : nd = (d2.length : Int) := hR.1
        have HA := Lib.hid (At.trans HA.out hA)
        have HR := Lib.hid hR.2
        clear hR hA
        obtain ⟨k9, g9, hk9, hd9, e9⟩ := HR.out.ok1
        clear hd9
        go_wp2_with fail
        refine (fail_calls HR.out (d := 1) (by decide)).mono ?_
        rintro e wn ⟨rfl, hR, hA⟩
        have HA := Lib.hid (At.trans HA.out hA)
        have HR := Lib.hid hR
        clear hR hA
        go_wp2
        go_ret
        refine ⟨0, rfl, HA.out, ?_⟩
        rw [show numS (.ok L) = .error 1 from (num_ok HNG.out HWH.out HFR.out HEX.out).trans (if_pos (by simp))]
        exact ⟨rfl, HR.out⟩
    have y101 := (beq_eq_false_iff_ne.2 x101)
    have y69 := (beq_eq_false_iff_ne.2 x69)
    have HEX := Lib.hid (expP_no y101 y69)
    go_wp2_with fail
    refine (next_calls HR.out).mono ?_
    rintro e wn ⟨rfl, hR, hB⟩
    have HA := Lib.hid (At.below' HA.out hB)
    have HR := Lib.hid hR
    clear hR hB
    go_wp2_with fail
    refine (next_calls HR.out).mono ?_
    rintro e wn ⟨rfl, hR, hB⟩
    have HA := Lib.hid (At.below' HA.out hB)
    have HR := Lib.hid hR
    clear hR hB
    obtain ⟨k9, g9, hk9, hd9, e9⟩ := HR.out.ok1
    clear hd9
    obtain ⟨wh, hwh⟩ : ∃ wh : Bs, [48] = wh := ⟨_, rfl⟩
    have hwl : wh.length = 1 := by rw [← hwh]; rfl
    have h15 : ¬ 15 < wh.length := by omega
    rw [hwh] at HWH
    have hw0 : wh ≠ [] := by rw [← hwh]; simp
    have hwd : ∀ c ∈ wh, isDig c = true := by rw [← hwh]; decide
    have hwe : L1 = wh ++ W1 := by rw [← hwh]; exact hw
    obtain ⟨N, hN⟩ : ∃ N, k0 + 1 = N := ⟨_, rfl⟩
    have hsN : (k0 : Int) + 1 = (N : Int) := by omega
    have HDN := Lib.hid (hN ▸ HDk0.out)
    have hk0 : N ≤ b.length := by omega
    rw [hsN]
    obtain ⟨M, hM⟩ : ∃ M, kw + 1 = M := ⟨_, rfl⟩
    have hsM : (kw : Int) + 1 = (M : Int) := by omega
    have HDM := Lib.hid (hM ▸ HDkw.out)
    have hkw : M ≤ b.length := by omega
    rw [hsM]
    have hke : M = N + wh.length := ends_at (HDN.out.trans hwe) HDM.out hk0 hkw
    have hwp : 0 < wh.length := List.length_pos_iff.2 hw0
    have HR' := HR.out
    obtain ⟨k9, ⟨A9, cp9, hg, hsl, hkb9, hb59, hcap9⟩, hdr⟩ := HR'
    obtain ⟨g0, g1, g2⟩ := three_of hg
    obtain ⟨x, hx⟩ : ∃ x, b[N]? = some x := ⟨b[N]'(by omega), List.getElem?_eq_getElem (by omega)⟩
    obtain ⟨ad, p, rfl, -, -, -⟩ := by_cell hsl hx
    have hsd := sl_drop hsl N
    have hMs : M - N = wh.length := by omega
    have hcv := sl_conv hsd (M - N) (by rw [List.length_drop]; omega) (cp9 - N)
    rw [HDN.out.trans hwe, List.take_left' hMs.symm] at hcv
    have hle : N ≤ M := by omega
    have hlc : M ≤ cp9 := by omega
    have hlb : M ≤ b.length := by omega
    have hne9 : ¬ cp9 = N := by omega
    obtain ⟨m, hm1, hm2⟩ := dec_parse hwd
    have hmb : m < 100000000000000000 := Lib.decFrom_take_lt (l := wh) (k := wh.length) (by rw [List.take_length]; exact hm1) (by omega)
    have HP := Lib.hid (fun W => dparse_calls ⟨wh.toArray⟩ m hm1 (by rw [sz]; exact hwp) (by rw [sz]; omega) (fun hh => by have h2 := hh.2; rw [sz] at h2; omega) W)
    have HM := Lib.hid hm2
    clear hg hsl hsd hdr hx hw0 hwd hwe hm1 hm2 hMs hke
    go_wp2_with fail
    refine (HP.out _).mono ?_
    rintro e wm ⟨rfl, rfl⟩
    go_wp2
    go_ret
    refine ⟨_, rfl, HA.out, ?_⟩
    rw [show numS (.ok L) = .ok (- decV wh, W1) from (num_ok HNG.out HWH.out HFR.out HEX.out).trans (if_neg (by simpa using h15))]
    exact ⟨by rw [← HM.out], HR.out⟩
  have y48 := (beq_eq_false_iff_ne.2 x48)
  go_wp2_with fail
  refine (next_calls HR.out).mono ?_
  rintro e wn ⟨rfl, hR, hB⟩
  have HA := Lib.hid (At.below' HA.out hB)
  have HR := Lib.hid hR
  clear hR hB
  cases hx : digitsP L1 with
  | error dd =>
    have HWH := Lib.hid ((wholeP_no y48).trans hx)
    have HDG := Lib.hid hx
    clear hx
    go_wp2_with fail
    refine (rdigits_calls HR.out).mono ?_
    rintro e wn ⟨nd, rfl, hA, hn0, hn1, hR⟩
    have hR : RS wn rb b (.error dd) := by rw [show digS (.ok L1) = .error dd from HDG.out] at hR; exact hR
    have HA := Lib.hid (At.trans HA.out hA)
    have HR := Lib.hid hR
    clear hR hA
    have hz : headV (.error dd) = 0 := rfl
    obtain ⟨kz, gz, hkz⟩ := HR.out.at1
    go_wp2_with fail
    refine (next_calls HR.out).mono ?_
    rintro e wn ⟨rfl, hR, hB⟩
    rw [hz]
    have HA := Lib.hid (At.below' HA.out hB)
    have HR := Lib.hid hR
    clear hR hB
    go_wp2_with fail
    refine (next_calls HR.out).mono ?_
    rintro e wn ⟨rfl, hR, hB⟩
    rw [hz]
    have HA := Lib.hid (At.below' HA.out hB)
    have HR := Lib.hid hR
    clear hR hB
    go_wp2_with fail
    refine (next_calls HR.out).mono ?_
    rintro e wn ⟨rfl, hR, hB⟩
    rw [hz]
    have HA := Lib.hid (At.below' HA.out hB)
    have HR := Lib.hid hR
    clear hR hB
    obtain ⟨g6, e6⟩ := HR.out.e2
    go_wp2_with fail
    go_ret
    refine ⟨0, rfl, HA.out, ?_⟩
    rw [show numS (.ok L) = .error dd from num_w_err HNG.out HWH.out]
    exact ⟨rfl, HR.out⟩
  | ok p =>
    obtain ⟨wh, W1⟩ := p
    have HWH := Lib.hid ((wholeP_no y48).trans hx)
    have HDG := Lib.hid hx
    clear hx
    go_wp2_with fail
    refine (rdigits_calls HR.out).mono ?_
    rintro e wn ⟨nd, rfl, hA, hn0, hn1, hR⟩
    rw [show digS (.ok L1) = .ok (wh, W1) from HDG.out] at hR
    have hnd : nd = (wh.length : Int) := hR.1
    have HA := Lib.hid (At.trans HA.out hA)
    have HR := Lib.hid hR.2
    clear hR hA
    obtain ⟨kw, gw, hkw, hdw, -⟩ := HR.out.ok1
    have HDkw := Lib.hid hdw
    clear hdw
    by_cases x46 : headV (.ok W1) = 46
    · skip
      go_wp2_with fail
      refine (next_calls HR.out).mono ?_
      rintro e wn ⟨rfl, hR, hB⟩
      rw [x46]
      have HA := Lib.hid (At.below' HA.out hB)
      have HR := Lib.hid hR
      clear hR hB
      obtain ⟨F1, hf⟩ : ∃ F1, W1 = 46 :: F1 := by
        obtain ⟨q, hq⟩ := headV_hit (c := 46) (by decide) (s := .ok W1) x46
        injection hq with hq
        exact ⟨q, hq⟩
      have HR := Lib.hid (show RS _ rb b (.ok (46 :: F1)) from hf ▸ HR.out)
      have hvf : headV (.ok W1) = 46 := x46
      obtain ⟨kf, gkf, fkf, hkf, hR2, hA2, hdkf, hlkf⟩ := HR.out.step2
      have HA := Lib.hid (At.trans HA.out hA2)
      have HR := Lib.hid hR2
      have HDkf := Lib.hid hdkf
      clear hR2 hA2 hdkf
      cases hx : digitsP F1 with
      | error dd =>
        have HFR := Lib.hid (show fracP W1 = .error dd by rw [hf]; exact fracP_bad hx)
        have HDG := Lib.hid hx
        clear hx
        go_wp2_with fail
        refine (rdigits_calls HR.out).mono ?_
        rintro e wn ⟨nd, rfl, hA, hn0, hn1, hR⟩
        have hR : RS wn rb b (.error dd) := by rw [show digS (.ok F1) = .error dd from HDG.out] at hR; exact hR
        have HA := Lib.hid (At.trans HA.out hA)
        have HR := Lib.hid hR
        clear hR hA
        have hz : headV (.error dd) = 0 := rfl
        go_wp2_with fail
        refine (next_calls HR.out).mono ?_
        rintro e wn ⟨rfl, hR, hB⟩
        rw [hz]
        have HA := Lib.hid (At.below' HA.out hB)
        have HR := Lib.hid hR
        clear hR hB
        go_wp2_with fail
        refine (next_calls HR.out).mono ?_
        rintro e wn ⟨rfl, hR, hB⟩
        rw [hz]
        have HA := Lib.hid (At.below' HA.out hB)
        have HR := Lib.hid hR
        clear hR hB
        obtain ⟨g6, e6⟩ := HR.out.e2
        go_wp2_with fail
        go_ret
        refine ⟨0, rfl, HA.out, ?_⟩
        rw [show numS (.ok L) = .error dd from num_f_err HNG.out HWH.out HFR.out]
        exact ⟨rfl, HR.out⟩
      | ok p =>
        obtain ⟨d1, M1⟩ := p
        have HFR := Lib.hid (show fracP W1 = .ok (true, M1) by rw [hf]; exact fracP_hit hx)
        have HDG := Lib.hid hx
        clear hx
        go_wp2_with fail
        refine (rdigits_calls HR.out).mono ?_
        rintro e wn ⟨nd, rfl, hA, hn0, hn1, hR⟩
        rw [show digS (.ok F1) = .ok (d1, M1) from HDG.out] at hR
        have hnd : nd = (d1.length : Int) := hR.1
        have HA := Lib.hid (At.trans HA.out hA)
        have HR := Lib.hid hR.2
        clear hR hA
        by_cases x101 : headV (.ok M1) = 101
        · skip
          go_wp2_with fail
          refine (next_calls HR.out).mono ?_
          rintro e wn ⟨rfl, hR, hB⟩
          rw [x101]
          have HA := Lib.hid (At.below' HA.out hB)
          have HR := Lib.hid hR
          clear hR hB
          obtain ⟨E1, he⟩ : ∃ E1, M1 = 101 :: E1 := by
            obtain ⟨q, hq⟩ := headV_hit (c := 101) (by decide) (s := .ok M1) x101
            injection hq with hq
            exact ⟨q, hq⟩
          have HR := Lib.hid (show RS _ rb b (.ok (101 :: E1)) from he ▸ HR.out)
          have hve : headV (.ok M1) = 101 := x101
          obtain ⟨ke, gke, fke, hke, hR2, hA2, hdke, hlke⟩ := HR.out.step2
          have HA := Lib.hid (At.trans HA.out hA2)
          have HR := Lib.hid hR2
          have HDke := Lib.hid hdke
          clear hR2 hA2 hdke
          by_cases z43 : headV (.ok E1) = 43
          · skip
            go_wp2_with fail
            refine (next_calls HR.out).mono ?_
            rintro e wn ⟨rfl, hR, hB⟩
            rw [z43]
            have HA := Lib.hid (At.below' HA.out hB)
            have HR := Lib.hid hR
            clear hR hB
            obtain ⟨E2, hs⟩ : ∃ E2, E1 = 43 :: E2 := by
              obtain ⟨q, hq⟩ := headV_hit (c := 43) (by decide) (s := .ok E1) z43
              injection hq with hq
              exact ⟨q, hq⟩
            have HR := Lib.hid (show RS _ rb b (.ok (43 :: E2)) from hs ▸ HR.out)
            have hvs : headV (.ok E1) = 43 := z43
            have HSG := Lib.hid (show signP E1 = E2 by rw [hs]; rfl)
            obtain ⟨ks, gks, fks, hks, hR2, hA2, hdks, hlks⟩ := HR.out.step2
            have HA := Lib.hid (At.trans HA.out hA2)
            have HR := Lib.hid hR2
            have HDks := Lib.hid hdks
            clear hR2 hA2 hdks
            cases hx : digitsP E2 with
            | error dd =>
              have HEX := Lib.hid (show expP M1 = .error dd by rw [he]; exact expP_bad (by decide) (by rw [HSG.out]; exact hx))
              have HDG := Lib.hid hx
              clear hx
              go_wp2_with fail
              refine (rdigits_calls HR.out).mono ?_
              rintro e wn ⟨nd, rfl, hA, hn0, hn1, hR⟩
              have hR : RS wn rb b (.error dd) := by rw [show digS (.ok E2) = .error dd from HDG.out] at hR; exact hR
              have HA := Lib.hid (At.trans HA.out hA)
              have HR := Lib.hid hR
              clear hR hA
              have hz : headV (.error dd) = 0 := rfl
              obtain ⟨g6, e6⟩ := HR.out.e2
              go_wp2_with fail
              go_ret
              refine ⟨0, rfl, HA.out, ?_⟩
              rw [show numS (.ok L) = .error dd from num_e_err HNG.out HWH.out HFR.out HEX.out]
              exact ⟨rfl, HR.out⟩
            | ok p =>
              obtain ⟨d2, M2⟩ := p
              have HEX := Lib.hid (show expP M1 = .ok (true, M2) by rw [he]; exact expP_hit (by decide) (by rw [HSG.out]; exact hx))
              have HDG := Lib.hid hx
              clear hx
              go_wp2_with fail
              refine (rdigits_calls HR.out).mono ?_
              rintro e wn ⟨nd, rfl, hA, hn0, hn1, hR⟩
              rw [show digS (.ok E2) = .ok (d2, M2) from HDG.out] at hR
              have hnd : nd = (d2.length : Int) := hR.1
              have HA := Lib.hid (At.trans HA.out hA)
              have HR := Lib.hid hR.2
              clear hR hA
              obtain ⟨k9, g9, hk9, hd9, e9⟩ := HR.out.ok1
              clear hd9
              go_wp2_with fail
              refine (fail_calls HR.out (d := 1) (by decide)).mono ?_
              rintro e wn ⟨rfl, hR, hA⟩
              have HA := Lib.hid (At.trans HA.out hA)
              have HR := Lib.hid hR
              clear hR hA
              go_wp2
              go_ret
              refine ⟨0, rfl, HA.out, ?_⟩
              rw [show numS (.ok L) = .error 1 from (num_ok HNG.out HWH.out HFR.out HEX.out).trans (if_pos (by simp))]
              exact ⟨rfl, HR.out⟩
          by_cases z45 : headV (.ok E1) = 45
          · skip
            go_wp2_with fail
            refine (next_calls HR.out).mono ?_
            rintro e wn ⟨rfl, hR, hB⟩
            rw [z45]
            have HA := Lib.hid (At.below' HA.out hB)
            have HR := Lib.hid hR
            clear hR hB
            go_wp2_with fail
            refine (next_calls HR.out).mono ?_
            rintro e wn ⟨rfl, hR, hB⟩
            rw [z45]
            have HA := Lib.hid (At.below' HA.out hB)
            have HR := Lib.hid hR
            clear hR hB
            obtain ⟨E2, hs⟩ : ∃ E2, E1 = 45 :: E2 := by
              obtain ⟨q, hq⟩ := headV_hit (c := 45) (by decide) (s := .ok E1) z45
              injection hq with hq
              exact ⟨q, hq⟩
            have HR := Lib.hid (show RS _ rb b (.ok (45 :: E2)) from hs ▸ HR.out)
            have hvs : headV (.ok E1) = 45 := z45
            have HSG := Lib.hid (show signP E1 = E2 by rw [hs]; rfl)
            obtain ⟨ks, gks, fks, hks, hR2, hA2, hdks, hlks⟩ := HR.out.step2
            have HA := Lib.hid (At.trans HA.out hA2)
            have HR := Lib.hid hR2
            have HDks := Lib.hid hdks
            clear hR2 hA2 hdks
            cases hx : digitsP E2 with
            | error dd =>
              have HEX := Lib.hid (show expP M1 = .error dd by rw [he]; exact expP_bad (by decide) (by rw [HSG.out]; exact hx))
              have HDG := Lib.hid hx
              clear hx
              go_wp2_with fail
              refine (rdigits_calls HR.out).mono ?_
              rintro e wn ⟨nd, rfl, hA, hn0, hn1, hR⟩
              have hR : RS wn rb b (.error dd) := by rw [show digS (.ok E2) = .error dd from HDG.out] at hR; exact hR
              have HA := Lib.hid (At.trans HA.out hA)
              have HR := Lib.hid hR
              clear hR hA
              have hz : headV (.error dd) = 0 := rfl
              obtain ⟨g6, e6⟩ := HR.out.e2
              go_wp2_with fail
              go_ret
              refine ⟨0, rfl, HA.out, ?_⟩
              rw [show numS (.ok L) = .error dd from num_e_err HNG.out HWH.out HFR.out HEX.out]
              exact ⟨rfl, HR.out⟩
            | ok p =>
              obtain ⟨d2, M2⟩ := p
              have HEX := Lib.hid (show expP M1 = .ok (true, M2) by rw [he]; exact expP_hit (by decide) (by rw [HSG.out]; exact hx))
              have HDG := Lib.hid hx
              clear hx
              go_wp2_with fail
              refine (rdigits_calls HR.out).mono ?_
              rintro e wn ⟨nd, rfl, hA, hn0, hn1, hR⟩
              rw [show digS (.ok E2) = .ok (d2, M2) from HDG.out] at hR
              have hnd : nd = (d2.length : Int) := hR.1
              have HA := Lib.hid (At.trans HA.out hA)
              have HR := Lib.hid hR.2
              clear hR hA
              obtain ⟨k9, g9, hk9, hd9, e9⟩ := HR.out.ok1
              clear hd9
              go_wp2_with fail
              refine (fail_calls HR.out (d := 1) (by decide)).mono ?_
              rintro e wn ⟨rfl, hR, hA⟩
              have HA := Lib.hid (At.trans HA.out hA)
              have HR := Lib.hid hR
              clear hR hA
              go_wp2
              go_ret
              refine ⟨0, rfl, HA.out, ?_⟩
              rw [show numS (.ok L) = .error 1 from (num_ok HNG.out HWH.out HFR.out HEX.out).trans (if_pos (by simp))]
              exact ⟨rfl, HR.out⟩
          have y43 := (beq_eq_false_iff_ne.2 z43)
          have y45 := (beq_eq_false_iff_ne.2 z45)
          have HSG := Lib.hid (signP_no y43 y45)
          go_wp2_with fail
          refine (next_calls HR.out).mono ?_
          rintro e wn ⟨rfl, hR, hB⟩
          have HA := Lib.hid (At.below' HA.out hB)
          have HR := Lib.hid hR
          clear hR hB
          go_wp2_with fail
          refine (next_calls HR.out).mono ?_
          rintro e wn ⟨rfl, hR, hB⟩
          have HA := Lib.hid (At.below' HA.out hB)
          have HR := Lib.hid hR
          clear hR hB
          cases hx : digitsP E1 with
          | error dd =>
            have HEX := Lib.hid (show expP M1 = .error dd by rw [he]; exact expP_bad (by decide) (by rw [HSG.out]; exact hx))
            have HDG := Lib.hid hx
            clear hx
            go_wp2_with fail
            refine (rdigits_calls HR.out).mono ?_
            rintro e wn ⟨nd, rfl, hA, hn0, hn1, hR⟩
            have hR : RS wn rb b (.error dd) := by rw [show digS (.ok E1) = .error dd from HDG.out] at hR; exact hR
            have HA := Lib.hid (At.trans HA.out hA)
            have HR := Lib.hid hR
            clear hR hA
            have hz : headV (.error dd) = 0 := rfl
            obtain ⟨g6, e6⟩ := HR.out.e2
            go_wp2_with fail
            go_ret
            refine ⟨0, rfl, HA.out, ?_⟩
            rw [show numS (.ok L) = .error dd from num_e_err HNG.out HWH.out HFR.out HEX.out]
            exact ⟨rfl, HR.out⟩
          | ok p =>
            obtain ⟨d2, M2⟩ := p
            have HEX := Lib.hid (show expP M1 = .ok (true, M2) by rw [he]; exact expP_hit (by decide) (by rw [HSG.out]; exact hx))
            have HDG := Lib.hid hx
            clear hx
            go_wp2_with fail
            refine (rdigits_calls HR.out).mono ?_
            rintro e wn ⟨nd, rfl, hA, hn0, hn1, hR⟩
            rw [show digS (.ok E1) = .ok (d2, M2) from HDG.out] at hR
            have hnd : nd = (d2.length : Int) := hR.1
            have HA := Lib.hid (At.trans HA.out hA)
            have HR := Lib.hid hR.2
            clear hR hA
            obtain ⟨k9, g9, hk9, hd9, e9⟩ := HR.out.ok1
            clear hd9
            go_wp2_with fail
            refine (fail_calls HR.out (d := 1) (by decide)).mono ?_
            rintro e wn ⟨rfl, hR, hA⟩
            have HA := Lib.hid (At.trans HA.out hA)
            have HR := Lib.hid hR
            clear hR hA
            go_wp2
            go_ret
            refine ⟨0, rfl, HA.out, ?_⟩
            rw [show numS (.ok L) = .error 1 from (num_ok HNG.out HWH.out HFR.out HEX.out).trans (if_pos (by simp))]
            exact ⟨rfl, HR.out⟩
        by_cases x69 : headV (.ok M1) = 69
        · skip
          go_wp2_with fail
          refine (next_calls HR.out).mono ?_
          rintro e wn ⟨rfl, hR, hB⟩
          rw [x69]
          have HA := Lib.hid (At.below' HA.out hB)
          have HR := Lib.hid hR
          clear hR hB
          go_wp2_with fail
          refine (next_calls HR.out).mono ?_
          rintro e wn ⟨rfl, hR, hB⟩
          rw [x69]
          have HA := Lib.hid (At.below' HA.out hB)
          have HR := Lib.hid hR
          clear hR hB
          obtain ⟨E1, he⟩ : ∃ E1, M1 = 69 :: E1 := by
            obtain ⟨q, hq⟩ := headV_hit (c := 69) (by decide) (s := .ok M1) x69
            injection hq with hq
            exact ⟨q, hq⟩
          have HR := Lib.hid (show RS _ rb b (.ok (69 :: E1)) from he ▸ HR.out)
          have hve : headV (.ok M1) = 69 := x69
          obtain ⟨ke, gke, fke, hke, hR2, hA2, hdke, hlke⟩ := HR.out.step2
          have HA := Lib.hid (At.trans HA.out hA2)
          have HR := Lib.hid hR2
          have HDke := Lib.hid hdke
          clear hR2 hA2 hdke
          by_cases z43 : headV (.ok E1) = 43
          · skip
            go_wp2_with fail
            refine (next_calls HR.out).mono ?_
            rintro e wn ⟨rfl, hR, hB⟩
            rw [z43]
            have HA := Lib.hid (At.below' HA.out hB)
            have HR := Lib.hid hR
            clear hR hB
            obtain ⟨E2, hs⟩ : ∃ E2, E1 = 43 :: E2 := by
              obtain ⟨q, hq⟩ := headV_hit (c := 43) (by decide) (s := .ok E1) z43
              injection hq with hq
              exact ⟨q, hq⟩
            have HR := Lib.hid (show RS _ rb b (.ok (43 :: E2)) from hs ▸ HR.out)
            have hvs : headV (.ok E1) = 43 := z43
            have HSG := Lib.hid (show signP E1 = E2 by rw [hs]; rfl)
            obtain ⟨ks, gks, fks, hks, hR2, hA2, hdks, hlks⟩ := HR.out.step2
            have HA := Lib.hid (At.trans HA.out hA2)
            have HR := Lib.hid hR2
            have HDks := Lib.hid hdks
            clear hR2 hA2 hdks
            cases hx : digitsP E2 with
            | error dd =>
              have HEX := Lib.hid (show expP M1 = .error dd by rw [he]; exact expP_bad (by decide) (by rw [HSG.out]; exact hx))
              have HDG := Lib.hid hx
              clear hx
              go_wp2_with fail
              refine (rdigits_calls HR.out).mono ?_
              rintro e wn ⟨nd, rfl, hA, hn0, hn1, hR⟩
              have hR : RS wn rb b (.error dd) := by rw [show digS (.ok E2) = .error dd from HDG.out] at hR; exact hR
              have HA := Lib.hid (At.trans HA.out hA)
              have HR := Lib.hid hR
              clear hR hA
              have hz : headV (.error dd) = 0 := rfl
              obtain ⟨g6, e6⟩ := HR.out.e2
              go_wp2_with fail
              go_ret
              refine ⟨0, rfl, HA.out, ?_⟩
              rw [show numS (.ok L) = .error dd from num_e_err HNG.out HWH.out HFR.out HEX.out]
              exact ⟨rfl, HR.out⟩
            | ok p =>
              obtain ⟨d2, M2⟩ := p
              have HEX := Lib.hid (show expP M1 = .ok (true, M2) by rw [he]; exact expP_hit (by decide) (by rw [HSG.out]; exact hx))
              have HDG := Lib.hid hx
              clear hx
              go_wp2_with fail
              refine (rdigits_calls HR.out).mono ?_
              rintro e wn ⟨nd, rfl, hA, hn0, hn1, hR⟩
              rw [show digS (.ok E2) = .ok (d2, M2) from HDG.out] at hR
              have hnd : nd = (d2.length : Int) := hR.1
              have HA := Lib.hid (At.trans HA.out hA)
              have HR := Lib.hid hR.2
              clear hR hA
              obtain ⟨k9, g9, hk9, hd9, e9⟩ := HR.out.ok1
              clear hd9
              go_wp2_with fail
              refine (fail_calls HR.out (d := 1) (by decide)).mono ?_
              rintro e wn ⟨rfl, hR, hA⟩
              have HA := Lib.hid (At.trans HA.out hA)
              have HR := Lib.hid hR
              clear hR hA
              go_wp2
              go_ret
              refine ⟨0, rfl, HA.out, ?_⟩
              rw [show numS (.ok L) = .error 1 from (num_ok HNG.out HWH.out HFR.out HEX.out).trans (if_pos (by simp))]
              exact ⟨rfl, HR.out⟩
          by_cases z45 : headV (.ok E1) = 45
          · skip
            go_wp2_with fail
            refine (next_calls HR.out).mono ?_
            rintro e wn ⟨rfl, hR, hB⟩
            rw [z45]
            have HA := Lib.hid (At.below' HA.out hB)
            have HR := Lib.hid hR
            clear hR hB
            go_wp2_with fail
            refine (next_calls HR.out).mono ?_
            rintro e wn ⟨rfl, hR, hB⟩
            rw [z45]
            have HA := Lib.hid (At.below' HA.out hB)
            have HR := Lib.hid hR
            clear hR hB
            obtain ⟨E2, hs⟩ : ∃ E2, E1 = 45 :: E2 := by
              obtain ⟨q, hq⟩ := headV_hit (c := 45) (by decide) (s := .ok E1) z45
              injection hq with hq
              exact ⟨q, hq⟩
            have HR := Lib.hid (show RS _ rb b (.ok (45 :: E2)) from hs ▸ HR.out)
            have hvs : headV (.ok E1) = 45 := z45
            have HSG := Lib.hid (show signP E1 = E2 by rw [hs]; rfl)
            obtain ⟨ks, gks, fks, hks, hR2, hA2, hdks, hlks⟩ := HR.out.step2
            have HA := Lib.hid (At.trans HA.out hA2)
            have HR := Lib.hid hR2
            have HDks := Lib.hid hdks
            clear hR2 hA2 hdks
            cases hx : digitsP E2 with
            | error dd =>
              have HEX := Lib.hid (show expP M1 = .error dd by rw [he]; exact expP_bad (by decide) (by rw [HSG.out]; exact hx))
              have HDG := Lib.hid hx
              clear hx
              go_wp2_with fail
              refine (rdigits_calls HR.out).mono ?_
              rintro e wn ⟨nd, rfl, hA, hn0, hn1, hR⟩
              have hR : RS wn rb b (.error dd) := by rw [show digS (.ok E2) = .error dd from HDG.out] at hR; exact hR
              have HA := Lib.hid (At.trans HA.out hA)
              have HR := Lib.hid hR
              clear hR hA
              have hz : headV (.error dd) = 0 := rfl
              obtain ⟨g6, e6⟩ := HR.out.e2
              go_wp2_with fail
              go_ret
              refine ⟨0, rfl, HA.out, ?_⟩
              rw [show numS (.ok L) = .error dd from num_e_err HNG.out HWH.out HFR.out HEX.out]
              exact ⟨rfl, HR.out⟩
            | ok p =>
              obtain ⟨d2, M2⟩ := p
              have HEX := Lib.hid (show expP M1 = .ok (true, M2) by rw [he]; exact expP_hit (by decide) (by rw [HSG.out]; exact hx))
              have HDG := Lib.hid hx
              clear hx
              go_wp2_with fail
              refine (rdigits_calls HR.out).mono ?_
              rintro e wn ⟨nd, rfl, hA, hn0, hn1, hR⟩
              rw [show digS (.ok E2) = .ok (d2, M2) from HDG.out] at hR
              have hnd : nd = (d2.length : Int) := hR.1
              have HA := Lib.hid (At.trans HA.out hA)
              have HR := Lib.hid hR.2
              clear hR hA
              obtain ⟨k9, g9, hk9, hd9, e9⟩ := HR.out.ok1
              clear hd9
              go_wp2_with fail
              refine (fail_calls HR.out (d := 1) (by decide)).mono ?_
              rintro e wn ⟨rfl, hR, hA⟩
              have HA := Lib.hid (At.trans HA.out hA)
              have HR := Lib.hid hR
              clear hR hA
              go_wp2
              go_ret
              refine ⟨0, rfl, HA.out, ?_⟩
              rw [show numS (.ok L) = .error 1 from (num_ok HNG.out HWH.out HFR.out HEX.out).trans (if_pos (by simp))]
              exact ⟨rfl, HR.out⟩
          have y43 := (beq_eq_false_iff_ne.2 z43)
          have y45 := (beq_eq_false_iff_ne.2 z45)
          have HSG := Lib.hid (signP_no y43 y45)
          go_wp2_with fail
          refine (next_calls HR.out).mono ?_
          rintro e wn ⟨rfl, hR, hB⟩
          have HA := Lib.hid (At.below' HA.out hB)
          have HR := Lib.hid hR
          clear hR hB
          go_wp2_with fail
          refine (next_calls HR.out).mono ?_
          rintro e wn ⟨rfl, hR, hB⟩
          have HA := Lib.hid (At.below' HA.out hB)
          have HR := Lib.hid hR
          clear hR hB
          cases hx : digitsP E1 with
          | error dd =>
            have HEX := Lib.hid (show expP M1 = .error dd by rw [he]; exact expP_bad (by decide) (by rw [HSG.out]; exact hx))
            have HDG := Lib.hid hx
            clear hx
            go_wp2_with fail
            refine (rdigits_calls HR.out).mono ?_
            rintro e wn ⟨nd, rfl, hA, hn0, hn1, hR⟩
            have hR : RS wn rb b (.error dd) := by rw [show digS (.ok E1) = .error dd from HDG.out] at hR; exact hR
            have HA := Lib.hid (At.trans HA.out hA)
            have HR := Lib.hid hR
            clear hR hA
            have hz : headV (.error dd) = 0 := rfl
            obtain ⟨g6, e6⟩ := HR.out.e2
            go_wp2_with fail
            go_ret
            refine ⟨0, rfl, HA.out, ?_⟩
            rw [show numS (.ok L) = .error dd from num_e_err HNG.out HWH.out HFR.out HEX.out]
            exact ⟨rfl, HR.out⟩
          | ok p =>
            obtain ⟨d2, M2⟩ := p
            have HEX := Lib.hid (show expP M1 = .ok (true, M2) by rw [he]; exact expP_hit (by decide) (by rw [HSG.out]; exact hx))
            have HDG := Lib.hid hx
            clear hx
            go_wp2_with fail
            refine (rdigits_calls HR.out).mono ?_
            rintro e wn ⟨nd, rfl, hA, hn0, hn1, hR⟩
            rw [show digS (.ok E1) = .ok (d2, M2) from HDG.out] at hR
            have hnd : nd = (d2.length : Int) := hR.1
            have HA := Lib.hid (At.trans HA.out hA)
            have HR := Lib.hid hR.2
            clear hR hA
            obtain ⟨k9, g9, hk9, hd9, e9⟩ := HR.out.ok1
            clear hd9
            go_wp2_with fail
            refine (fail_calls HR.out (d := 1) (by decide)).mono ?_
            rintro e wn ⟨rfl, hR, hA⟩
            have HA := Lib.hid (At.trans HA.out hA)
            have HR := Lib.hid hR
            clear hR hA
            go_wp2
            go_ret
            refine ⟨0, rfl, HA.out, ?_⟩
            rw [show numS (.ok L) = .error 1 from (num_ok HNG.out HWH.out HFR.out HEX.out).trans (if_pos (by simp))]
            exact ⟨rfl, HR.out⟩
        have y101 := (beq_eq_false_iff_ne.2 x101)
        have y69 := (beq_eq_false_iff_ne.2 x69)
        have HEX := Lib.hid (expP_no y101 y69)
        go_wp2_with fail
        refine (next_calls HR.out).mono ?_
        rintro e wn ⟨rfl, hR, hB⟩
        have HA := Lib.hid (At.below' HA.out hB)
        have HR := Lib.hid hR
        clear hR hB
        go_wp2_with fail
        refine (next_calls HR.out).mono ?_
        rintro e wn ⟨rfl, hR, hB⟩
        have HA := Lib.hid (At.below' HA.out hB)
        have HR := Lib.hid hR
        clear hR hB
        obtain ⟨k9, g9, hk9, hd9, e9⟩ := HR.out.ok1
        clear hd9
        go_wp2_with fail
        refine (fail_calls HR.out (d := 1) (by decide)).mono ?_
        rintro e wn ⟨rfl, hR, hA⟩
        have HA := Lib.hid (At.trans HA.out hA)
        have HR := Lib.hid hR
        clear hR hA
        go_wp2
        go_ret
        refine ⟨0, rfl, HA.out, ?_⟩
        rw [show numS (.ok L) = .error 1 from (num_ok HNG.out HWH.out HFR.out HEX.out).trans (if_pos (by simp))]
        exact ⟨rfl, HR.out⟩
    have HFR := Lib.hid (fracP_no (beq_eq_false_iff_ne.2 x46))
    have y46 := (beq_eq_false_iff_ne.2 x46)
    go_wp2_with fail
    refine (next_calls HR.out).mono ?_
    rintro e wn ⟨rfl, hR, hB⟩
    have HA := Lib.hid (At.below' HA.out hB)
    have HR := Lib.hid hR
    clear hR hB
    by_cases x101 : headV (.ok W1) = 101
    · skip
      go_wp2_with fail
      refine (next_calls HR.out).mono ?_
      rintro e wn ⟨rfl, hR, hB⟩
      rw [x101]
      have HA := Lib.hid (At.below' HA.out hB)
      have HR := Lib.hid hR
      clear hR hB
      obtain ⟨E1, he⟩ : ∃ E1, W1 = 101 :: E1 := by
        obtain ⟨q, hq⟩ := headV_hit (c := 101) (by decide) (s := .ok W1) x101
        injection hq with hq
        exact ⟨q, hq⟩
      have HR := Lib.hid (show RS _ rb b (.ok (101 :: E1)) from he ▸ HR.out)
      have hve : headV (.ok W1) = 101 := x101
      obtain ⟨ke, gke, fke, hke, hR2, hA2, hdke, hlke⟩ := HR.out.step2
      have HA := Lib.hid (At.trans HA.out hA2)
      have HR := Lib.hid hR2
      have HDke := Lib.hid hdke
      clear hR2 hA2 hdke
      by_cases z43 : headV (.ok E1) = 43
      · skip
        go_wp2_with fail
        refine (next_calls HR.out).mono ?_
        rintro e wn ⟨rfl, hR, hB⟩
        rw [z43]
        have HA := Lib.hid (At.below' HA.out hB)
        have HR := Lib.hid hR
        clear hR hB
        obtain ⟨E2, hs⟩ : ∃ E2, E1 = 43 :: E2 := by
          obtain ⟨q, hq⟩ := headV_hit (c := 43) (by decide) (s := .ok E1) z43
          injection hq with hq
          exact ⟨q, hq⟩
        have HR := Lib.hid (show RS _ rb b (.ok (43 :: E2)) from hs ▸ HR.out)
        have hvs : headV (.ok E1) = 43 := z43
        have HSG := Lib.hid (show signP E1 = E2 by rw [hs]; rfl)
        obtain ⟨ks, gks, fks, hks, hR2, hA2, hdks, hlks⟩ := HR.out.step2
        have HA := Lib.hid (At.trans HA.out hA2)
        have HR := Lib.hid hR2
        have HDks := Lib.hid hdks
        clear hR2 hA2 hdks
        cases hx : digitsP E2 with
        | error dd =>
          have HEX := Lib.hid (show expP W1 = .error dd by rw [he]; exact expP_bad (by decide) (by rw [HSG.out]; exact hx))
          have HDG := Lib.hid hx
          clear hx
          go_wp2_with fail
          refine (rdigits_calls HR.out).mono ?_
          rintro e wn ⟨nd, rfl, hA, hn0, hn1, hR⟩
          have hR : RS wn rb b (.error dd) := by rw [show digS (.ok E2) = .error dd from HDG.out] at hR; exact hR
          have HA := Lib.hid (At.trans HA.out hA)
          have HR := Lib.hid hR
          clear hR hA
          have hz : headV (.error dd) = 0 := rfl
          obtain ⟨g6, e6⟩ := HR.out.e2
          go_wp2_with fail
          go_ret
          refine ⟨0, rfl, HA.out, ?_⟩
          rw [show numS (.ok L) = .error dd from num_e_err HNG.out HWH.out HFR.out HEX.out]
          exact ⟨rfl, HR.out⟩
        | ok p =>
          obtain ⟨d2, M2⟩ := p
          have HEX := Lib.hid (show expP W1 = .ok (true, M2) by rw [he]; exact expP_hit (by decide) (by rw [HSG.out]; exact hx))
          have HDG := Lib.hid hx
          clear hx
          go_wp2_with fail
          refine (rdigits_calls HR.out).mono ?_
          rintro e wn ⟨nd, rfl, hA, hn0, hn1, hR⟩
          rw [show digS (.ok E2) = .ok (d2, M2) from HDG.out] at hR
          have hnd : nd = (d2.length : Int) := hR.1
          have HA := Lib.hid (At.trans HA.out hA)
          have HR := Lib.hid hR.2
          clear hR hA
          obtain ⟨k9, g9, hk9, hd9, e9⟩ := HR.out.ok1
          clear hd9
          go_wp2_with fail
          refine (fail_calls HR.out (d := 1) (by decide)).mono ?_
          rintro e wn ⟨rfl, hR, hA⟩
          have HA := Lib.hid (At.trans HA.out hA)
          have HR := Lib.hid hR
          clear hR hA
          go_wp2
          go_ret
          refine ⟨0, rfl, HA.out, ?_⟩
          rw [show numS (.ok L) = .error 1 from (num_ok HNG.out HWH.out HFR.out HEX.out).trans (if_pos (by simp))]
          exact ⟨rfl, HR.out⟩
      by_cases z45 : headV (.ok E1) = 45
      · skip
        go_wp2_with fail
        refine (next_calls HR.out).mono ?_
        rintro e wn ⟨rfl, hR, hB⟩
        rw [z45]
        have HA := Lib.hid (At.below' HA.out hB)
        have HR := Lib.hid hR
        clear hR hB
        go_wp2_with fail
        refine (next_calls HR.out).mono ?_
        rintro e wn ⟨rfl, hR, hB⟩
        rw [z45]
        have HA := Lib.hid (At.below' HA.out hB)
        have HR := Lib.hid hR
        clear hR hB
        obtain ⟨E2, hs⟩ : ∃ E2, E1 = 45 :: E2 := by
          obtain ⟨q, hq⟩ := headV_hit (c := 45) (by decide) (s := .ok E1) z45
          injection hq with hq
          exact ⟨q, hq⟩
        have HR := Lib.hid (show RS _ rb b (.ok (45 :: E2)) from hs ▸ HR.out)
        have hvs : headV (.ok E1) = 45 := z45
        have HSG := Lib.hid (show signP E1 = E2 by rw [hs]; rfl)
        obtain ⟨ks, gks, fks, hks, hR2, hA2, hdks, hlks⟩ := HR.out.step2
        have HA := Lib.hid (At.trans HA.out hA2)
        have HR := Lib.hid hR2
        have HDks := Lib.hid hdks
        clear hR2 hA2 hdks
        cases hx : digitsP E2 with
        | error dd =>
          have HEX := Lib.hid (show expP W1 = .error dd by rw [he]; exact expP_bad (by decide) (by rw [HSG.out]; exact hx))
          have HDG := Lib.hid hx
          clear hx
          go_wp2_with fail
          refine (rdigits_calls HR.out).mono ?_
          rintro e wn ⟨nd, rfl, hA, hn0, hn1, hR⟩
          have hR : RS wn rb b (.error dd) := by rw [show digS (.ok E2) = .error dd from HDG.out] at hR; exact hR
          have HA := Lib.hid (At.trans HA.out hA)
          have HR := Lib.hid hR
          clear hR hA
          have hz : headV (.error dd) = 0 := rfl
          obtain ⟨g6, e6⟩ := HR.out.e2
          go_wp2_with fail
          go_ret
          refine ⟨0, rfl, HA.out, ?_⟩
          rw [show numS (.ok L) = .error dd from num_e_err HNG.out HWH.out HFR.out HEX.out]
          exact ⟨rfl, HR.out⟩
        | ok p =>
          obtain ⟨d2, M2⟩ := p
          have HEX := Lib.hid (show expP W1 = .ok (true, M2) by rw [he]; exact expP_hit (by decide) (by rw [HSG.out]; exact hx))
          have HDG := Lib.hid hx
          clear hx
          go_wp2_with fail
          refine (rdigits_calls HR.out).mono ?_
          rintro e wn ⟨nd, rfl, hA, hn0, hn1, hR⟩
          rw [show digS (.ok E2) = .ok (d2, M2) from HDG.out] at hR
          have hnd : nd = (d2.length : Int) := hR.1
          have HA := Lib.hid (At.trans HA.out hA)
          have HR := Lib.hid hR.2
          clear hR hA
          obtain ⟨k9, g9, hk9, hd9, e9⟩ := HR.out.ok1
          clear hd9
          go_wp2_with fail
          refine (fail_calls HR.out (d := 1) (by decide)).mono ?_
          rintro e wn ⟨rfl, hR, hA⟩
          have HA := Lib.hid (At.trans HA.out hA)
          have HR := Lib.hid hR
          clear hR hA
          go_wp2
          go_ret
          refine ⟨0, rfl, HA.out, ?_⟩
          rw [show numS (.ok L) = .error 1 from (num_ok HNG.out HWH.out HFR.out HEX.out).trans (if_pos (by simp))]
          exact ⟨rfl, HR.out⟩
      have y43 := (beq_eq_false_iff_ne.2 z43)
      have y45 := (beq_eq_false_iff_ne.2 z45)
      have HSG := Lib.hid (signP_no y43 y45)
      go_wp2_with fail
      refine (next_calls HR.out).mono ?_
      rintro e wn ⟨rfl, hR, hB⟩
      have HA := Lib.hid (At.below' HA.out hB)
      have HR := Lib.hid hR
      clear hR hB
      go_wp2_with fail
      refine (next_calls HR.out).mono ?_
      rintro e wn ⟨rfl, hR, hB⟩
      have HA := Lib.hid (At.below' HA.out hB)
      have HR := Lib.hid hR
      clear hR hB
      cases hx : digitsP E1 with
      | error dd =>
        have HEX := Lib.hid (show expP W1 = .error dd by rw [he]; exact expP_bad (by decide) (by rw [HSG.out]; exact hx))
        have HDG := Lib.hid hx
        clear hx
        go_wp2_with fail
        refine (rdigits_calls HR.out).mono ?_
        rintro e wn ⟨nd, rfl, hA, hn0, hn1, hR⟩
        have hR : RS wn rb b (.error dd) := by rw [show digS (.ok E1) = .error dd from HDG.out] at hR; exact hR
        have HA := Lib.hid (At.trans HA.out hA)
        have HR := Lib.hid hR
        clear hR hA
        have hz : headV (.error dd) = 0 := rfl
        obtain ⟨g6, e6⟩ := HR.out.e2
        go_wp2_with fail
        go_ret
        refine ⟨0, rfl, HA.out, ?_⟩
        rw [show numS (.ok L) = .error dd from num_e_err HNG.out HWH.out HFR.out HEX.out]
        exact ⟨rfl, HR.out⟩
      | ok p =>
        obtain ⟨d2, M2⟩ := p
        have HEX := Lib.hid (show expP W1 = .ok (true, M2) by rw [he]; exact expP_hit (by decide) (by rw [HSG.out]; exact hx))
        have HDG := Lib.hid hx
        clear hx
        go_wp2_with fail
        refine (rdigits_calls HR.out).mono ?_
        rintro e wn ⟨nd, rfl, hA, hn0, hn1, hR⟩
        rw [show digS (.ok E1) = .ok (d2, M2) from HDG.out] at hR
        have hnd : nd = (d2.length : Int) := hR.1
        have HA := Lib.hid (At.trans HA.out hA)
        have HR := Lib.hid hR.2
        clear hR hA
        obtain ⟨k9, g9, hk9, hd9, e9⟩ := HR.out.ok1
        clear hd9
        go_wp2_with fail
        refine (fail_calls HR.out (d := 1) (by decide)).mono ?_
        rintro e wn ⟨rfl, hR, hA⟩
        have HA := Lib.hid (At.trans HA.out hA)
        have HR := Lib.hid hR
        clear hR hA
        go_wp2
        go_ret
        refine ⟨0, rfl, HA.out, ?_⟩
        rw [show numS (.ok L) = .error 1 from (num_ok HNG.out HWH.out HFR.out HEX.out).trans (if_pos (by simp))]
        exact ⟨rfl, HR.out⟩
    by_cases x69 : headV (.ok W1) = 69
    · skip
      go_wp2_with fail
      refine (next_calls HR.out).mono ?_
      rintro e wn ⟨rfl, hR, hB⟩
      rw [x69]
      have HA := Lib.hid (At.below' HA.out hB)
      have HR := Lib.hid hR
      clear hR hB
      go_wp2_with fail
      refine (next_calls HR.out).mono ?_
      rintro e wn ⟨rfl, hR, hB⟩
      rw [x69]
      have HA := Lib.hid (At.below' HA.out hB)
      have HR := Lib.hid hR
      clear hR hB
      obtain ⟨E1, he⟩ : ∃ E1, W1 = 69 :: E1 := by
        obtain ⟨q, hq⟩ := headV_hit (c := 69) (by decide) (s := .ok W1) x69
        injection hq with hq
        exact ⟨q, hq⟩
      have HR := Lib.hid (show RS _ rb b (.ok (69 :: E1)) from he ▸ HR.out)
      have hve : headV (.ok W1) = 69 := x69
      obtain ⟨ke, gke, fke, hke, hR2, hA2, hdke, hlke⟩ := HR.out.step2
      have HA := Lib.hid (At.trans HA.out hA2)
      have HR := Lib.hid hR2
      have HDke := Lib.hid hdke
      clear hR2 hA2 hdke
      by_cases z43 : headV (.ok E1) = 43
      · skip
        go_wp2_with fail
        refine (next_calls HR.out).mono ?_
        rintro e wn ⟨rfl, hR, hB⟩
        rw [z43]
        have HA := Lib.hid (At.below' HA.out hB)
        have HR := Lib.hid hR
        clear hR hB
        obtain ⟨E2, hs⟩ : ∃ E2, E1 = 43 :: E2 := by
          obtain ⟨q, hq⟩ := headV_hit (c := 43) (by decide) (s := .ok E1) z43
          injection hq with hq
          exact ⟨q, hq⟩
        have HR := Lib.hid (show RS _ rb b (.ok (43 :: E2)) from hs ▸ HR.out)
        have hvs : headV (.ok E1) = 43 := z43
        have HSG := Lib.hid (show signP E1 = E2 by rw [hs]; rfl)
        obtain ⟨ks, gks, fks, hks, hR2, hA2, hdks, hlks⟩ := HR.out.step2
        have HA := Lib.hid (At.trans HA.out hA2)
        have HR := Lib.hid hR2
        have HDks := Lib.hid hdks
        clear hR2 hA2 hdks
        cases hx : digitsP E2 with
        | error dd =>
          have HEX := Lib.hid (show expP W1 = .error dd by rw [he]; exact expP_bad (by decide) (by rw [HSG.out]; exact hx))
          have HDG := Lib.hid hx
          clear hx
          go_wp2_with fail
          refine (rdigits_calls HR.out).mono ?_
          rintro e wn ⟨nd, rfl, hA, hn0, hn1, hR⟩
          have hR : RS wn rb b (.error dd) := by rw [show digS (.ok E2) = .error dd from HDG.out] at hR; exact hR
          have HA := Lib.hid (At.trans HA.out hA)
          have HR := Lib.hid hR
          clear hR hA
          have hz : headV (.error dd) = 0 := rfl
          obtain ⟨g6, e6⟩ := HR.out.e2
          go_wp2_with fail
          go_ret
          refine ⟨0, rfl, HA.out, ?_⟩
          rw [show numS (.ok L) = .error dd from num_e_err HNG.out HWH.out HFR.out HEX.out]
          exact ⟨rfl, HR.out⟩
        | ok p =>
          obtain ⟨d2, M2⟩ := p
          have HEX := Lib.hid (show expP W1 = .ok (true, M2) by rw [he]; exact expP_hit (by decide) (by rw [HSG.out]; exact hx))
          have HDG := Lib.hid hx
          clear hx
          go_wp2_with fail
          refine (rdigits_calls HR.out).mono ?_
          rintro e wn ⟨nd, rfl, hA, hn0, hn1, hR⟩
          rw [show digS (.ok E2) = .ok (d2, M2) from HDG.out] at hR
          have hnd : nd = (d2.length : Int) := hR.1
          have HA := Lib.hid (At.trans HA.out hA)
          have HR := Lib.hid hR.2
          clear hR hA
          obtain ⟨k9, g9, hk9, hd9, e9⟩ := HR.out.ok1
          clear hd9
          go_wp2_with fail
          refine (fail_calls HR.out (d := 1) (by decide)).mono ?_
          rintro e wn ⟨rfl, hR, hA⟩
          have HA := Lib.hid (At.trans HA.out hA)
          have HR := Lib.hid hR
          clear hR hA
          go_wp2
          go_ret
          refine ⟨0, rfl, HA.out, ?_⟩
          rw [show numS (.ok L) = .error 1 from (num_ok HNG.out HWH.out HFR.out HEX.out).trans (if_pos (by simp))]
          exact ⟨rfl, HR.out⟩
      by_cases z45 : headV (.ok E1) = 45
      · skip
        go_wp2_with fail
        refine (next_calls HR.out).mono ?_
        rintro e wn ⟨rfl, hR, hB⟩
        rw [z45]
        have HA := Lib.hid (At.below' HA.out hB)
        have HR := Lib.hid hR
        clear hR hB
        go_wp2_with fail
        refine (next_calls HR.out).mono ?_
        rintro e wn ⟨rfl, hR, hB⟩
        rw [z45]
        have HA := Lib.hid (At.below' HA.out hB)
        have HR := Lib.hid hR
        clear hR hB
        obtain ⟨E2, hs⟩ : ∃ E2, E1 = 45 :: E2 := by
          obtain ⟨q, hq⟩ := headV_hit (c := 45) (by decide) (s := .ok E1) z45
          injection hq with hq
          exact ⟨q, hq⟩
        have HR := Lib.hid (show RS _ rb b (.ok (45 :: E2)) from hs ▸ HR.out)
        have hvs : headV (.ok E1) = 45 := z45
        have HSG := Lib.hid (show signP E1 = E2 by rw [hs]; rfl)
        obtain ⟨ks, gks, fks, hks, hR2, hA2, hdks, hlks⟩ := HR.out.step2
        have HA := Lib.hid (At.trans HA.out hA2)
        have HR := Lib.hid hR2
        have HDks := Lib.hid hdks
        clear hR2 hA2 hdks
        cases hx : digitsP E2 with
        | error dd =>
          have HEX := Lib.hid (show expP W1 = .error dd by rw [he]; exact expP_bad (by decide) (by rw [HSG.out]; exact hx))
          have HDG := Lib.hid hx
          clear hx
          go_wp2_with fail
          refine (rdigits_calls HR.out).mono ?_
          rintro e wn ⟨nd, rfl, hA, hn0, hn1, hR⟩
          have hR : RS wn rb b (.error dd) := by rw [show digS (.ok E2) = .error dd from HDG.out] at hR; exact hR
          have HA := Lib.hid (At.trans HA.out hA)
          have HR := Lib.hid hR
          clear hR hA
          have hz : headV (.error dd) = 0 := rfl
          obtain ⟨g6, e6⟩ := HR.out.e2
          go_wp2_with fail
          go_ret
          refine ⟨0, rfl, HA.out, ?_⟩
          rw [show numS (.ok L) = .error dd from num_e_err HNG.out HWH.out HFR.out HEX.out]
          exact ⟨rfl, HR.out⟩
        | ok p =>
          obtain ⟨d2, M2⟩ := p
          have HEX := Lib.hid (show expP W1 = .ok (true, M2) by rw [he]; exact expP_hit (by decide) (by rw [HSG.out]; exact hx))
          have HDG := Lib.hid hx
          clear hx
          go_wp2_with fail
          refine (rdigits_calls HR.out).mono ?_
          rintro e wn ⟨nd, rfl, hA, hn0, hn1, hR⟩
          rw [show digS (.ok E2) = .ok (d2, M2) from HDG.out] at hR
          have hnd : nd = (d2.length : Int) := hR.1
          have HA := Lib.hid (At.trans HA.out hA)
          have HR := Lib.hid hR.2
          clear hR hA
          obtain ⟨k9, g9, hk9, hd9, e9⟩ := HR.out.ok1
          clear hd9
          go_wp2_with fail
          refine (fail_calls HR.out (d := 1) (by decide)).mono ?_
          rintro e wn ⟨rfl, hR, hA⟩
          have HA := Lib.hid (At.trans HA.out hA)
          have HR := Lib.hid hR
          clear hR hA
          go_wp2
          go_ret
          refine ⟨0, rfl, HA.out, ?_⟩
          rw [show numS (.ok L) = .error 1 from (num_ok HNG.out HWH.out HFR.out HEX.out).trans (if_pos (by simp))]
          exact ⟨rfl, HR.out⟩
      have y43 := (beq_eq_false_iff_ne.2 z43)
      have y45 := (beq_eq_false_iff_ne.2 z45)
      have HSG := Lib.hid (signP_no y43 y45)
      go_wp2_with fail
      refine (next_calls HR.out).mono ?_
      rintro e wn ⟨rfl, hR, hB⟩
      have HA := Lib.hid (At.below' HA.out hB)
      have HR := Lib.hid hR
      clear hR hB
      go_wp2_with fail
      refine (next_calls HR.out).mono ?_
      rintro e wn ⟨rfl, hR, hB⟩
      have HA := Lib.hid (At.below' HA.out hB)
      have HR := Lib.hid hR
      clear hR hB
      cases hx : digitsP E1 with
      | error dd =>
        have HEX := Lib.hid (show expP W1 = .error dd by rw [he]; exact expP_bad (by decide) (by rw [HSG.out]; exact hx))
        have HDG := Lib.hid hx
        clear hx
        go_wp2_with fail
        refine (rdigits_calls HR.out).mono ?_
        rintro e wn ⟨nd, rfl, hA, hn0, hn1, hR⟩
        have hR : RS wn rb b (.error dd) := by rw [show digS (.ok E1) = .error dd from HDG.out] at hR; exact hR
        have HA := Lib.hid (At.trans HA.out hA)
        have HR := Lib.hid hR
        clear hR hA
        have hz : headV (.error dd) = 0 := rfl
        obtain ⟨g6, e6⟩ := HR.out.e2
        go_wp2_with fail
        go_ret
        refine ⟨0, rfl, HA.out, ?_⟩
        rw [show numS (.ok L) = .error dd from num_e_err HNG.out HWH.out HFR.out HEX.out]
        exact ⟨rfl, HR.out⟩
      | ok p =>
        obtain ⟨d2, M2⟩ := p
        have HEX := Lib.hid (show expP W1 = .ok (true, M2) by rw [he]; exact expP_hit (by decide) (by rw [HSG.out]; exact hx))
        have HDG := Lib.hid hx
        clear hx
        go_wp2_with fail
        refine (rdigits_calls HR.out).mono ?_
        rintro e wn ⟨nd, rfl, hA, hn0, hn1, hR⟩
        rw [show digS (.ok E1) = .ok (d2, M2) from HDG.out] at hR
        have hnd : nd = (d2.length : Int) := hR.1
        have HA := Lib.hid (At.trans HA.out hA)
        have HR := Lib.hid hR.2
        clear hR hA
        obtain ⟨k9, g9, hk9, hd9, e9⟩ := HR.out.ok1
        clear hd9
        go_wp2_with fail
        refine (fail_calls HR.out (d := 1) (by decide)).mono ?_
        rintro e wn ⟨rfl, hR, hA⟩
        have HA := Lib.hid (At.trans HA.out hA)
        have HR := Lib.hid hR
        clear hR hA
        go_wp2
        go_ret
        refine ⟨0, rfl, HA.out, ?_⟩
        rw [show numS (.ok L) = .error 1 from (num_ok HNG.out HWH.out HFR.out HEX.out).trans (if_pos (by simp))]
        exact ⟨rfl, HR.out⟩
    have y101 := (beq_eq_false_iff_ne.2 x101)
    have y69 := (beq_eq_false_iff_ne.2 x69)
    have HEX := Lib.hid (expP_no y101 y69)
    go_wp2_with fail
    refine (next_calls HR.out).mono ?_
    rintro e wn ⟨rfl, hR, hB⟩
    have HA := Lib.hid (At.below' HA.out hB)
    have HR := Lib.hid hR
    clear hR hB
    go_wp2_with fail
    refine (next_calls HR.out).mono ?_
    rintro e wn ⟨rfl, hR, hB⟩
    have HA := Lib.hid (At.below' HA.out hB)
    have HR := Lib.hid hR
    clear hR hB
    obtain ⟨k9, g9, hk9, hd9, e9⟩ := HR.out.ok1
    clear hd9
    by_cases h15 : 15 < wh.length
    · skip
      have h15i : (15 : Int) < (wh.length : Int) := by omega
      subst hnd
      go_wp2_with fail
      refine (fail_calls HR.out (d := 1) (by decide)).mono ?_
      rintro e wn ⟨rfl, hR, hA⟩
      have HA := Lib.hid (At.trans HA.out hA)
      have HR := Lib.hid hR
      clear hR hA
      go_wp2
      go_ret
      refine ⟨0, rfl, HA.out, ?_⟩
      rw [show numS (.ok L) = .error 1 from (num_ok HNG.out HWH.out HFR.out HEX.out).trans (if_pos (by simp [h15]))]
      exact ⟨rfl, HR.out⟩
    have h15i : ¬ (15 : Int) < (wh.length : Int) := by omega
    subst hnd
    obtain ⟨hw0, hwd, hwe⟩ := dig_ok HDG.out
    obtain ⟨N, hN⟩ : ∃ N, k0 + 1 = N := ⟨_, rfl⟩
    have hsN : (k0 : Int) + 1 = (N : Int) := by omega
    have HDN := Lib.hid (hN ▸ HDk0.out)
    have hk0 : N ≤ b.length := by omega
    rw [hsN]
    have HDM := HDkw
    have hke : kw = N + wh.length := ends_at (HDN.out.trans hwe) HDM.out hk0 hkw
    have hwp : 0 < wh.length := List.length_pos_iff.2 hw0
    have HR' := HR.out
    obtain ⟨k9, ⟨A9, cp9, hg, hsl, hkb9, hb59, hcap9⟩, hdr⟩ := HR'
    obtain ⟨g0, g1, g2⟩ := three_of hg
    obtain ⟨x, hx⟩ : ∃ x, b[N]? = some x := ⟨b[N]'(by omega), List.getElem?_eq_getElem (by omega)⟩
    obtain ⟨ad, p, rfl, -, -, -⟩ := by_cell hsl hx
    have hsd := sl_drop hsl N
    have hMs : kw - N = wh.length := by omega
    have hcv := sl_conv hsd (kw - N) (by rw [List.length_drop]; omega) (cp9 - N)
    rw [HDN.out.trans hwe, List.take_left' hMs.symm] at hcv
    have hle : N ≤ kw := by omega
    have hlc : kw ≤ cp9 := by omega
    have hlb : kw ≤ b.length := by omega
    have hne9 : ¬ cp9 = N := by omega
    obtain ⟨m, hm1, hm2⟩ := dec_parse hwd
    have hmb : m < 100000000000000000 := Lib.decFrom_take_lt (l := wh) (k := wh.length) (by rw [List.take_length]; exact hm1) (by omega)
    have HP := Lib.hid (fun W => dparse_calls ⟨wh.toArray⟩ m hm1 (by rw [sz]; exact hwp) (by rw [sz]; omega) (no_zero hwe x48 (by rw [sz]; exact hwp) _) W)
    have HM := Lib.hid hm2
    clear hg hsl hsd hdr hx hw0 hwd hwe hm1 hm2 hMs hke
    go_wp2_with fail
    refine (HP.out _).mono ?_
    rintro e wm ⟨rfl, rfl⟩
    go_wp2
    go_ret
    refine ⟨_, rfl, HA.out, ?_⟩
    rw [show numS (.ok L) = .ok (- decV wh, W1) from (num_ok HNG.out HWH.out HFR.out HEX.out).trans (if_neg (by simpa using h15))]
    exact ⟨by rw [← HM.out], HR.out⟩
end Go.Proofs.YtminegmjklehnaaGreatDoor.J

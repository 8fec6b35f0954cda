/-
  HTTP, the document's: the first line; values.
-/
import Derived.Test.YtomancadpdccaaaGreatDoorHtF
namespace Go.Proofs.YtomancadpdccaaaGreatDoor.Ht
open Go.RowKit Go.Proofs.YtomancadpdccaaaGreatDoor.B
open Go.Proofs.YtomancadpdccaaaGreatDoor.M hiding Bs
open Go.Proofs.YtomancadpdccaaaGreatDoor.C (QRow Turn)
set_option linter.unusedVariables false
set_option linter.unusedSimpArgs false

theorem SOwn.cells {w : World} {base : Nat} {v : Value} {l : List Bs} (h : SOwn w base v l) (h0 : 0 < l.length) : ∃ g cap, v = .slice (some ⟨g, 0, none⟩) l.length cap ∧ l.length ≤ cap ∧ ∀ j, j < l.length → w.cell? ⟨g, j, none⟩ = some (vs (l.getD j [])) := by
  rcases h.2 with ⟨_, h1⟩ | ⟨g, cap, cur, rfl, hb, hg, hn, hc, hs, ht⟩
  · omega
  · refine ⟨g, cap, rfl, hn, fun j hj => ?_⟩
    rw [cell_of_row w g j cur _ (0, 0) hg]
    have e := congrArg (fun l : List Value => l[j]?) ht
    simp only [List.getElem?_take, List.getElem?_map] at e
    rw [if_pos (by omega), List.getElem?_eq_getElem hj] at e
    rw [← Array.getElem?_toList, e, List.getD_eq_getElem?_getD, List.getElem?_eq_getElem hj]
    rfl
theorem pre_one (b : Bs) : Lib.hasPrefix b [47] = (b.head? == some 47) := by
  cases b with
  | nil => rfl
  | cons c t =>
    show ((47 : UInt8) == c && ([] : Bs).isPrefixOf t) = (some c == some 47)
    rw [Bool.eq_iff_iff]
    simp
    exact eq_comm
set_option maxRecDepth 100000 in
set_option maxHeartbeats 8000000 in
theorem dfirst_calls (s : Bs) (hs : s.length ≤ 1000000) (w : World) : Calls Tryz.prog 27 #[vs s] w (FRet w (fstF s)) := by
  have HS := Lib.hid (split_calls s [32] hs (by simp) (by decide) w)
  have hcnt := split_count (s := s) (t := [32]) (by simp)
  go_enter Tryz.func27, Tryz.ntmps27
  go_wp2_with fail
  refine HS.out.mono ?_
  rintro e w1 ⟨v, rfl, hown, hb1⟩
  have HB1 := Lib.hid hb1
  clear hb1 HS
  have hpos : 0 < (Lib.split s [32]).length := List.length_pos_iff.2 (spl_ne _ _ (by simp))
  obtain ⟨g, cap, rfl, hcap, hcl⟩ := hown.cells hpos
  obtain ⟨n, hn⟩ : ∃ n, (Lib.split s [32]).length = n := ⟨_, rfl⟩
  rw [hn] at hcap hcl hcnt ⊢
  clear hown hpos
  rcases three_or (Lib.split s [32]) with h3 | ⟨a, b, c, h3⟩
  · have HF := Lib.hid (fst_not h3)
    have hn3 : ((n : Int) != 3) = true := by rw [bne_iff_ne]; omega
    clear h3 hn hcl
    go_wp2
    go_ret2
    exact ⟨by rw [HF.out]; rfl, HB1.out⟩
  · have HF := Lib.hid (fst_is h3)
    have hla := part_le (s := s) (t := [32]) (x := a) (by simp) (by rw [h3]; simp)
    have hlb := part_le (s := s) (t := [32]) (x := b) (by simp) (by rw [h3]; simp)
    have hlc := part_le (s := s) (t := [32]) (x := c) (by simp) (by rw [h3]; simp)
    rw [h3] at hn hcl
    obtain rfl : n = 3 := hn.symm
    have c0 : w1.cell? ⟨g, 0, none⟩ = some (vs a) := hcl 0 (by decide)
    have c1 : w1.cell? ⟨g, 1, none⟩ = some (vs b) := hcl 1 (by decide)
    have c2 : w1.cell? ⟨g, 2, none⟩ = some (vs c) := hcl 2 (by decide)
    clear hcl hn h3 hcnt
    have HV := Lib.hid (fun W => dvisible_calls b (by omega) W)
    have hsa := sz a
    have hsb := sz b
    have hsc := sz c
    rw [pre_one] at HF
    cases a with
    | nil =>
      have HF2 := Lib.hid (show fstF s = ([], 400) by rw [HF.out]; rfl)
      go_wp2
      go_ret2
      exact ⟨by rw [HF2.out]; rfl, HB1.out⟩
    | cons a0 at_ =>
    rw [show (a0 :: at_).isEmpty = false from rfl] at HF
    obtain ⟨a, ha⟩ : ∃ x, a0 :: at_ = x := ⟨_, rfl⟩
    have hapos : 0 < a.length := by rw [← ha]; simp
    rw [ha] at HF hla c0 hsa
    have hap0 : ¬ (a.length : Int) = 0 := by omega
    have hap1 : ((a.length : Int) == 0) = false := by rw [beq_eq_false_iff_ne]; exact hap0
    clear ha
    cases b with
    | nil =>
      have HF2 := Lib.hid (show fstF s = ([], 400) by
        rw [HF.out]
        cases a.all great <;> rfl)
      go_wp2
      go_ret2
      exact ⟨by rw [HF2.out]; rfl, HB1.out⟩
    | cons b0 bt =>
    rw [show (b0 :: bt).head? = some b0 from rfl] at HF
    have hg0 := get_ub (b0 :: bt) (k := 0) (by simp)
    rw [show (b0 :: bt).getD 0 0 = b0 from rfl] at hg0
    obtain ⟨b, hb⟩ : ∃ x, b0 :: bt = x := ⟨_, rfl⟩
    have hbpos : 0 < b.length := by rw [← hb]; simp
    rw [hb] at HF hlb c1 hsb HV hg0
    have hbp0 : ¬ (b.length : Int) = 0 := by omega
    have hbp1 : ((b.length : Int) == 0) = false := by rw [beq_eq_false_iff_ne]; exact hbp0
    have hbp2 : (0 : Int) < (b.length : Int) := by omega
    clear hb
    obtain ⟨ag, hag⟩ : ∃ x, a.all great = x := ⟨_, rfl⟩
    obtain ⟨bv, hbv⟩ : ∃ x, b.all vis = x := ⟨_, rfl⟩
    have HAG := Lib.hid hag
    rw [hag] at HF
    rw [hbv] at HV HF
    clear hag hbv
    by_cases h47 : b0 = 47
    · subst h47
      have hg0' : ∀ h', ((((⟨b.toArray⟩ : ByteArray)[0]'h').toNat : Nat) : Int) = 47 := fun h' => by rw [hg0 h']; rfl
      clear hg0
      by_cases h100 : 100 < b.length
      · have h100' : (100 : Int) < (b.length : Int) := by omega
        have HF2 := Lib.hid (show fstF s = ([], 400) by rw [HF.out, decide_eq_true h100]; cases ag <;> rfl)
        go_wp2
        go_ret2
        exact ⟨by rw [HF2.out]; rfl, HB1.out⟩
      · have h100' : ¬ (100 : Int) < (b.length : Int) := by omega
        have HF2 := Lib.hid (show fstF s = if ag = true then (if bv = true then (if (c != version) = true then ([], 505) else if (a != post) = true then ([], 405) else (b, 0)) else ([], 400)) else ([], 400) by
          rw [HF.out, decide_eq_false h100]; cases ag <;> cases bv <;> rfl)
        clear HF
        go_wp2_with fail
        go_loopw [5] (fun v5 wr => ∃ k : Nat, k ≤ a.length ∧ v5 = .int .i64 k ∧ Hid ((a.take k).all great = true) ∧ wr = w1) (fun v5 _ => a.length - (intOf v5).toNat)
        case atStart => exact ⟨0, Nat.zero_le _, rfl, Lib.hid rfl, rfl⟩
        case round =>
          obtain ⟨k, hk, rfl, HA, rfl⟩ := hrel
          have k0 : (0 : Int) ≤ (k : Int) := by omega
          by_cases hlt : k < a.length
          · have hlt' : (k : Int) < (a.length : Int) := by omega
            have HT := Lib.hid (all_take great a hlt)
            have HN := Lib.hid (fun h => all_not great a hlt h)
            have hg := get_ub a hlt
            obtain ⟨x0, hc⟩ : ∃ c, a.getD k 0 = c := ⟨_, rfl⟩
            rw [hc] at HT HN hg
            clear hc
            have HGR := Lib.hid (show great x0 = (decide (65 ≤ x0.toNat) && decide (x0.toNat ≤ 90)) from rfl)
            obtain ⟨x, hx⟩ : ∃ x, x0.toNat = x := ⟨_, rfl⟩
            have hgx : ∀ h', ((((⟨a.toArray⟩ : ByteArray)[k]'h').toNat : Nat) : Int) = (x : Int) := fun h' => by rw [hg h', hx]
            rw [hx] at HGR
            clear hg hx
            by_cases h1 : x < 65
            · have h1' : (x : Int) < 65 := by omega
              have HF3 := Lib.hid (show fstF s = ([], 400) by
                have h := HN.out (by rw [HGR.out]; simp; omega)
                rw [HAG.out] at h
                rw [HF2.out, h]; rfl)
              go_wp2
              go_ret2
              exact ⟨by rw [HF3.out]; rfl, HB1.out⟩
            · have h1' : ¬ (x : Int) < 65 := by omega
              by_cases h2 : 90 < x
              · have h2' : (90 : Int) < (x : Int) := by omega
                have HF3 := Lib.hid (show fstF s = ([], 400) by
                  have h := HN.out (by rw [HGR.out]; simp; omega)
                  rw [HAG.out] at h
                  rw [HF2.out, h]; rfl)
                go_wp2
                go_ret2
                exact ⟨by rw [HF3.out]; rfl, HB1.out⟩
              · have h2' : ¬ (90 : Int) < (x : Int) := by omega
                have HT2 := Lib.hid (show (a.take (k + 1)).all great = true by rw [HT.out, HA.out, HGR.out]; simp; omega)
                go_wp2
                exact ⟨⟨k + 1, by omega, by go_num, HT2, by trivial⟩, by simp [intOf]; omega⟩
          · have hke : k = a.length := by omega
            have HF3 := Lib.hid (show fstF s = if bv = true then (if (c != version) = true then ([], 505) else if (a != post) = true then ([], 405) else (b, 0)) else ([], 400) by
              have h := HA.out
              rw [hke, List.take_length, HAG.out] at h
              rw [HF2.out, h]; rfl)
            clear HF2 HA
            subst hke
            have hlt' : ¬ (a.length : Int) < (a.length : Int) := by omega
            go_wp2_with fail
            refine (HV.out _).mono ?_
            rintro e w4 ⟨rfl, rfl⟩
            cases bv with
            | false =>
              go_wp2
              go_ret2
              exact ⟨by rw [HF3.out]; rfl, HB1.out⟩
            | true =>
              cases hcv : c != version with
              | true =>
                rw [hcv] at HF3
                have hcv' : (c == [72, 84, 84, 80, 47, 49, 46, 49]) = false := Eq.mp (Bool.not_eq_true' _) hcv
                clear hcv
                go_wp2
                go_ret2
                exact ⟨by rw [HF3.out]; rfl, HB1.out⟩
              | false =>
                rw [hcv] at HF3
                have hcv' : (c == [72, 84, 84, 80, 47, 49, 46, 49]) = true := Eq.mp (Bool.not_eq_false' _) hcv
                clear hcv
                cases hap : a != post with
                | true =>
                  rw [hap] at HF3
                  have hap' : (a == [80, 79, 83, 84]) = false := Eq.mp (Bool.not_eq_true' _) hap
                  clear hap
                  go_wp2
                  go_ret2
                  exact ⟨by rw [HF3.out]; rfl, HB1.out⟩
                | false =>
                  rw [hap] at HF3
                  have hap' : (a == [80, 79, 83, 84]) = true := Eq.mp (Bool.not_eq_false' _) hap
                  clear hap
                  go_wp2
                  go_ret2
                  exact ⟨by rw [HF3.out]; rfl, HB1.out⟩
    · have hbn : ¬ b0.toNat = 47 := fun e => h47 (by rw [← UInt8.toNat_inj]; exact e)
      obtain ⟨x, hx⟩ : ∃ x, b0.toNat = x := ⟨_, rfl⟩
      have hg0' : ∀ h', ((((⟨b.toArray⟩ : ByteArray)[0]'h').toNat : Nat) : Int) = (x : Int) := fun h' => by rw [hg0 h', hx]
      have hx47 : ((x : Int) != 47) = true := by rw [bne_iff_ne]; omega
      have HF2 := Lib.hid (show fstF s = ([], 400) by
        rw [HF.out, show (some b0 == some (47 : UInt8)) = false by rw [beq_eq_false_iff_ne]; exact fun e => h47 (Option.some.inj e)]
        cases ag <;> rfl)
      clear hg0 hx hbn
      go_wp2
      go_ret2
      exact ⟨by rw [HF2.out]; rfl, HB1.out⟩
end Go.Proofs.YtomancadpdccaaaGreatDoor.Ht

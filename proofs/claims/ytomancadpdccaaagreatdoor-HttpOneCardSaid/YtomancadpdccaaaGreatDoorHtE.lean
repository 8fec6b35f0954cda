/-
  HTTP: the first line, a token: the program's and the document's.
-/
import Derived.Test.YtomancadpdccaaaGreatDoorHtD
namespace Go.Proofs.YtomancadpdccaaaGreatDoor.Ht
open Go.RowKit Go.Proofs.YtomancadpdccaaaGreatDoor.B
open Go.Proofs.YtomancadpdccaaaGreatDoor.M hiding Bs
open Go.Proofs.YtomancadpdccaaaGreatDoor.C (QRow Turn)
set_option linter.unusedVariables false
set_option linter.unusedSimpArgs false

theorem three_or (l : List Bs) : l.length ≠ 3 ∨ ∃ a b c, l = [a, b, c] := by
  match l with
  | [] => left; simp
  | [_] => left; simp
  | [_, _] => left; simp
  | [a, b, c] => exact .inr ⟨a, b, c, rfl⟩
  | _ :: _ :: _ :: _ :: _ => left; simp
theorem fst_not {s : Bs} (h : (Lib.split s [32]).length ≠ 3) : fstF s = ([], 400) := by
  unfold fstF
  split
  · rename_i h2; rw [h2] at h; simp at h
  · rfl
theorem fst_is {s a b c : Bs} (h : Lib.split s [32] = [a, b, c]) : fstF s = if (a.isEmpty || !a.all great) = true then ([], 400) else if (!Lib.hasPrefix b [47] || decide (100 < b.length) || !b.all vis) = true then ([], 400) else if (c != version) = true then ([], 505) else if (a != post) = true then ([], 405) else (b, 0) := by
  unfold fstF
  rw [h]
def FRet (w : World) (r : Bs × Nat) (e : Ending) (w' : World) : Prop := e = .returned (.tuple #[vs r.1, .int .i64 (r.2 : Int)]) ∧ Below w.heap.size w w'
theorem split_part {t x : Bs} (ht : t ≠ []) : ∀ (k : Nat) (s : Bs), s.length ≤ k → x ∈ Lib.split s t → x.length ≤ s.length
  | k, s, hk, hx => by
    by_cases h : Lib.index s t < 0
    · rw [spl_miss h] at hx
      rw [List.mem_singleton.1 hx]; exact Nat.le_refl _
    · obtain ⟨i, hi⟩ : ∃ i : Nat, Lib.index s t = i := ⟨(Lib.index s t).toNat, by omega⟩
      have hr := idx_room hi
      have hp := List.length_pos_iff.2 ht
      rw [spl_hit ht hi] at hx
      rcases List.mem_cons.1 hx with rfl | hx
      · rw [List.length_take]; omega
      · match k, hk with
        | 0, hk => omega
        | k + 1, hk =>
          have := split_part (x := x) ht k (s.drop (i + t.length)) (by rw [List.length_drop]; omega) hx
          (repeat rw [List.length_drop] at this)
          omega
theorem part_le {s t x : Bs} (ht : t ≠ []) (hx : x ∈ Lib.split s t) : x.length ≤ s.length := split_part ht s.length s (Nat.le_refl _) hx
theorem split_count {s t : Bs} (ht : t ≠ []) : (Lib.split s t).length ≤ s.length + 2 := by
  have h1 : 1 ≤ (ba t).size := by rw [sz]; exact List.length_pos_iff.2 ht
  have hl := Lib.splitB_all (ba t) h1 0 _ (ba s) rfl
  have hb := congrArg List.length (splitB_is s t)
  rw [List.length_map, List.length_map, hl] at hb
  have := Lib.countB_le (ba t) h1 (ba s).size (ba s) (Nat.le_refl _)
  have : (ba s).size = s.length := sz s
  omega
set_option maxRecDepth 100000 in
set_option maxHeartbeats 4000000 in
theorem first_calls (s : Bs) (hs : s.length ≤ 1000000) (w : World) (hm : Mx w) : Calls Tryz.prog 44 #[vs s] w (FRet w (fstF s)) := by
  have HS := Lib.hid (Split_c s [32] w (by omega) (by simp) hm)
  have hcnt := split_count (s := s) (t := [32]) (by simp)
  go_enter Tryz.func44, Tryz.ntmps44
  go_wp2_with fail
  refine HS.out.mono ?_
  rintro e w1 ⟨g, n, rfl, hn, hr, hb1⟩
  have HB1 := Lib.hid hb1
  clear hb1 HS hm
  rcases three_or (Lib.split s [32]) with h3 | ⟨a, b, c, h3⟩
  · have HF := Lib.hid (fst_not h3)
    have hn3 : ((n : Int) != 3) = true := by rw [bne_iff_ne]; omega
    clear h3 hn hr
    go_wp2
    go_ret2
    exact ⟨by rw [HF.out]; rfl, HB1.out⟩
  · have HF := Lib.hid (fst_is h3)
    have hla := part_le (s := s) (t := [32]) (x := a) (by simp) (by rw [h3]; simp)
    have hlb := part_le (s := s) (t := [32]) (x := b) (by simp) (by rw [h3]; simp)
    have hlc := part_le (s := s) (t := [32]) (x := c) (by simp) (by rw [h3]; simp)
    rw [h3] at hn hr hcnt
    obtain rfl : n = 3 := hn.symm
    have c0 := hr.get (i := 0) (by simp)
    have c1 := hr.get (i := 1) (by simp)
    have c2 := hr.get (i := 2) (by simp)
    rw [Addr.add_lit] at c0 c1 c2
    have c0 : w1.cell? ⟨g, 0, none⟩ = some (vs a) := c0
    have c1 : w1.cell? ⟨g, 1, none⟩ = some (vs b) := c1
    have c2 : w1.cell? ⟨g, 2, none⟩ = some (vs c) := c2
    clear hr hn h3 hcnt
    have HG := Lib.hid (fun W => all_great a (by omega) W)
    have HV := Lib.hid (fun W => all_visible b (by omega) W)
    have HP := Lib.hid (fun W => HasPrefix_c b [47] W)
    have hsa := sz a
    have hsb := sz b
    have hsc := sz c
    obtain ⟨ag, hag⟩ : ∃ x, a.all great = x := ⟨_, rfl⟩
    obtain ⟨bv, hbv⟩ : ∃ x, b.all vis = x := ⟨_, rfl⟩
    obtain ⟨bp, hbp⟩ : ∃ x, Lib.hasPrefix b [47] = x := ⟨_, rfl⟩
    rw [hag] at HG HF
    rw [hbv] at HV HF
    rw [hbp] at HP HF
    clear hag hbv hbp
    cases hae : a.isEmpty with
    | true =>
      rw [hae] at HF
      go_wp2
      go_ret2
      exact ⟨by rw [HF.out]; rfl, HB1.out⟩
    | false =>
      rw [hae] at HF
      cases ag with
      | false =>
        go_wp2_with fail
        refine (HG.out _).mono ?_
        rintro e w2 ⟨rfl, rfl⟩
        go_wp2
        go_ret2
        exact ⟨by rw [HF.out]; rfl, HB1.out⟩
      | true =>
        go_wp2_with fail
        refine (HG.out _).mono ?_
        rintro e w2 ⟨rfl, rfl⟩
        go_wp2_with fail
        refine (HP.out _).mono ?_
        rintro e w3 ⟨rfl, rfl⟩
        cases bp with
        | false =>
          go_wp2
          go_ret2
          exact ⟨by rw [HF.out]; rfl, HB1.out⟩
        | true =>
          by_cases h100 : 100 < b.length
          · have h100' : (100 : Int) < (b.length : Int) := by omega
            have HF2 := Lib.hid (show fstF s = ([], 400) by rw [HF.out]; simp [h100])
            go_wp2
            go_ret2
            exact ⟨by rw [HF2.out]; rfl, HB1.out⟩
          · have h100' : ¬ (100 : Int) < (b.length : Int) := by omega
            cases bv with
            | false =>
              have HF2 := Lib.hid (show fstF s = ([], 400) by rw [HF.out]; simp)
              go_wp2_with fail
              refine (HV.out _).mono ?_
              rintro e w4 ⟨rfl, rfl⟩
              go_wp2
              go_ret2
              exact ⟨by rw [HF2.out]; rfl, HB1.out⟩
            | true =>
              have HF2 := Lib.hid (show fstF s = if (c != version) = true then ([], 505) else if (a != post) = true then ([], 405) else (b, 0) by rw [HF.out]; simp [h100])
              clear HF
              go_wp2_with fail
              refine (HV.out _).mono ?_
              rintro e w4 ⟨rfl, rfl⟩
              cases hcv : c != version with
              | true =>
                rw [hcv] at HF2
                have hcv' : (c == [72, 84, 84, 80, 47, 49, 46, 49]) = false := Eq.mp (Bool.not_eq_true' _) hcv
                clear hcv
                go_wp2
                go_ret2
                exact ⟨by rw [HF2.out]; rfl, HB1.out⟩
              | false =>
                rw [hcv] at HF2
                have hcv' : (c == [72, 84, 84, 80, 47, 49, 46, 49]) = true := Eq.mp (Bool.not_eq_false' _) hcv
                clear hcv
                cases hap : a != post with
                | true =>
                  rw [hap] at HF2
                  have hap' : (a == [80, 79, 83, 84]) = false := Eq.mp (Bool.not_eq_true' _) hap
                  clear hap
                  go_wp2
                  go_ret2
                  exact ⟨by rw [HF2.out]; rfl, HB1.out⟩
                | false =>
                  rw [hap] at HF2
                  have hap' : (a == [80, 79, 83, 84]) = true := Eq.mp (Bool.not_eq_false' _) hap
                  clear hap
                  go_wp2
                  go_ret2
                  exact ⟨by rw [HF2.out]; rfl, HB1.out⟩
end Go.Proofs.YtomancadpdccaaaGreatDoor.Ht

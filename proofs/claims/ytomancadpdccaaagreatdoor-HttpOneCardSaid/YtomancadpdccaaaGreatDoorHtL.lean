/-
  HTTP: framed, parse, Parse (the program's).
-/
import Derived.Test.YtomancadpdccaaaGreatDoorHtK
namespace Go.Proofs.YtomancadpdccaaaGreatDoor.Ht
open Go.RowKit Go.Proofs.YtomancadpdccaaaGreatDoor.B
open Go.Proofs.YtomancadpdccaaaGreatDoor.M hiding Bs
open Go.Proofs.YtomancadpdccaaaGreatDoor.C (QRow Turn OwnF Elem upd)
set_option linter.unusedVariables false
set_option linter.unusedSimpArgs false

theorem NParse_c (q : Bs) (w : World) (hq : q.length ≤ 1000000) (ht : Nu.Tab w) (he : Nu.Errs w) : Calls Tryz.prog 39 #[vs q] w fun e w' => e = .returned (.tuple #[.int .i64 (((Nu.parseF q).getD 0 : Nat) : Int), .bool (Nu.parseF q).isSome]) ∧ Below w.heap.size w w' := by
  refine (Nu.Parse_calls (ba q) w (by rw [sz]; omega) ht he).mono ?_
  rintro e w' ⟨rfl, hb⟩
  refine ⟨?_, hb⟩
  rw [show (ba q).data.toList = q from rfl, Nu.parse_same]
  cases Nu.parseF q <;> rfl
theorem fr_dup {pf : Bs → Option Nat} {l : List Hd} {n : Nat} (h : 1 < (valsF l kSize).length ∨ 1 < (valsF l kAuth).length ∨ 0 < (valsF l kChunk).length) : frF pf l n = 400 := by
  unfold frF
  rw [if_pos]
  simp only [Bool.or_eq_true, decide_eq_true_eq]
  rcases h with h | h | h
  · exact .inl (.inl h)
  · exact .inl (.inr h)
  · exact .inr h
theorem fr_none {pf : Bs → Option Nat} {l : List Hd} {n : Nat} (h1 : (valsF l kSize).length = 0) (h2 : ¬ 1 < (valsF l kAuth).length) (h3 : ¬ 0 < (valsF l kChunk).length) : frF pf l n = 411 := by
  unfold frF
  rw [if_neg (by simp only [Bool.or_eq_true, decide_eq_true_eq]; omega), List.eq_nil_of_length_eq_zero h1]
theorem fr_one {pf : Bs → Option Nat} {l : List Hd} {n : Nat} (h1 : (valsF l kSize).length = 1) (h2 : ¬ 1 < (valsF l kAuth).length) (h3 : ¬ 0 < (valsF l kChunk).length) : frF pf l n = match pf ((valsF l kSize).getD 0 []) with
      | none => 400
      | some m => if 8192 < m then 413 else if m = n then 0 else 400 := by
  unfold frF
  rw [if_neg (by simp only [Bool.or_eq_true, decide_eq_true_eq]; omega)]
  match hv : valsF l kSize with
  | [] => rw [hv] at h1; simp at h1
  | x :: t => rfl
theorem vals_mem {l : List Hd} {q x : Bs} (h : x ∈ valsF l q) : ∃ d ∈ l, d.value = x := by
  unfold valsF at h
  obtain ⟨d, hd, rfl⟩ := List.mem_map.1 h
  exact ⟨d, (List.mem_filter.1 hd).1, rfl⟩
set_option maxRecDepth 100000 in
set_option maxHeartbeats 8000000 in
theorem framed_calls (hs : List Hd) (B mb : Nat) (body : Bs) (w : World) (hM : MapS w B mb hs) (hb : body.length ≤ 1000000) (hl : hs.length ≤ 1000000) (hv : ∀ d ∈ hs, d.value.length ≤ 1000000) (ht : Nu.Tab w) (he : Nu.Errs w) :
    Calls Tryz.prog 46 #[.map (some mb), vs body] w fun e w' => e = .returned (.int .i64 ((frF Nu.parseF hs body.length : Nat) : Int)) ∧ Below w.heap.size w w' := by
  have hsz := sz body
  obtain ⟨A1, c1, hk1, hc1, hr1⟩ := hM.look kSize (by decide)
  obtain ⟨A2, c2, hk2, hc2, hr2⟩ := hM.look kAuth (by decide)
  obtain ⟨A3, c3, hk3, hc3, hr3⟩ := hM.look kChunk (by decide)
  have l1 := vals_len hs kSize
  have l2 := vals_len hs kAuth
  have l3 := vals_len hs kChunk
  have HD := Lib.hid (fun h => fr_dup (pf := Nu.parseF) (l := hs) (n := body.length) h)
  have HN := Lib.hid (fun h1 h2 h3 => fr_none (pf := Nu.parseF) (l := hs) (n := body.length) h1 h2 h3)
  have HO := Lib.hid (fun h1 h2 h3 => fr_one (pf := Nu.parseF) (l := hs) (n := body.length) h1 h2 h3)
  have HX := Lib.hid (show ∀ h : (valsF hs kSize).length = 1, ∃ ad, A1 = some ad ∧ w.cell? ad = some (vs ((valsF hs kSize).getD 0 [])) ∧ ((valsF hs kSize).getD 0 []).length ≤ 1000000 from fun h => by
    obtain ⟨ad, rfl⟩ := hr1.at_ (by omega)
    have := hr1.get (i := 0) (by omega)
    rw [M.add_zero] at this
    refine ⟨ad, rfl, this, ?_⟩
    obtain ⟨d, hd, e⟩ := vals_mem (getD_mem (valsF hs kSize) (i := 0) (by omega))
    rw [← e]
    exact hv d hd)
  generalize valsF hs kSize = V1 at *
  generalize (valsF hs kAuth).length = n2 at *
  generalize (valsF hs kChunk).length = n3 at *
  obtain ⟨F, hF⟩ : ∃ F, frF Nu.parseF hs body.length = F := ⟨_, rfl⟩
  rw [hF] at HD HN HO ⊢
  clear hF hr1 hr2 hr3 hM hv
  obtain ⟨n1, hn1⟩ : ∃ n, V1.length = n := ⟨_, rfl⟩
  rw [hn1] at HD HN HO HX hk1 hc1 l1
  have hk1' : (Instr.lookup 65 (.map (some mb)) (.string ⟨#[99, 111, 110, 116, 101, 110, 116, 45, 108, 101, 110, 103, 116, 104]⟩) false).run Tryz.prog w = .ok (.slice A1 n1 c1) w := hk1
  have hk2' : (Instr.lookup 65 (.map (some mb)) (.string ⟨#[97, 117, 116, 104, 111, 114, 105, 122, 97, 116, 105, 111, 110]⟩) false).run Tryz.prog w = .ok (.slice A2 n2 c2) w := hk2
  have hk3' : (Instr.lookup 65 (.map (some mb)) (.string ⟨#[116, 114, 97, 110, 115, 102, 101, 114, 45, 101, 110, 99, 111, 100, 105, 110, 103]⟩) false).run Tryz.prog w = .ok (.slice A3 n3 c3) w := hk3
  clear hk1 hk2 hk3 hn1
  go_enter Tryz.func46, Tryz.ntmps46
  by_cases h1 : 1 < n1
  · have h1' : (1 : Int) < (n1 : Int) := by omega
    have HE := Lib.hid (HD.out (.inl h1))
    go_wp2
    go_ret
    exact ⟨by rw [HE.out]; rfl, Below.refl _ _⟩
  have h1' : ¬ (1 : Int) < (n1 : Int) := by omega
  by_cases h2 : 1 < n2
  · have h2' : (1 : Int) < (n2 : Int) := by omega
    have HE := Lib.hid (HD.out (.inr (.inl h2)))
    go_wp2
    go_ret
    exact ⟨by rw [HE.out]; rfl, Below.refl _ _⟩
  have h2' : ¬ (1 : Int) < (n2 : Int) := by omega
  by_cases h3 : 0 < n3
  · have h3' : (0 : Int) < (n3 : Int) := by omega
    have HE := Lib.hid (HD.out (.inr (.inr h3)))
    go_wp2
    go_ret
    exact ⟨by rw [HE.out]; rfl, Below.refl _ _⟩
  have h3' : ¬ (0 : Int) < (n3 : Int) := by omega
  by_cases h0 : n1 = 0
  · have HE := Lib.hid (HN.out h0 h2 h3)
    subst h0
    go_wp2
    go_ret
    exact ⟨by rw [HE.out]; rfl, Below.refl _ _⟩
  · have hone : n1 = 1 := by omega
    have HE := Lib.hid (HO.out hone h2 h3)
    obtain ⟨ad, rfl, hcell, hlen⟩ := HX.out hone
    obtain ⟨x, hx⟩ : ∃ x, V1.getD 0 [] = x := ⟨_, rfl⟩
    rw [hx] at HE hcell hlen
    subst hone
    have HP := Lib.hid (NParse_c x w hlen ht he)
    obtain ⟨r, hrr⟩ : ∃ r, Nu.parseF x = r := ⟨_, rfl⟩
    rw [hrr] at HE HP
    clear hx hrr HD HN HO HX ht he
    go_wp2_with fail
    refine HP.out.mono ?_
    rintro e w1 ⟨rfl, hb1⟩
    have HB := Lib.hid hb1
    clear hb1
    cases r with
    | none =>
      go_wp2
      go_ret
      exact ⟨by rw [HE.out]; rfl, HB.out⟩
    | some m =>
      rw [show ((some m).getD 0 : Nat) = m from rfl, show (some m).isSome = true from rfl]
      by_cases hbig : 8192 < m
      · have hbig' : (8192 : Int) < (m : Int) := by omega
        have HE2 := Lib.hid (show F = 413 by rw [HE.out]; exact if_pos hbig)
        go_wp2
        go_ret
        exact ⟨by rw [HE2.out]; rfl, HB.out⟩
      · have hbig' : ¬ (8192 : Int) < (m : Int) := by omega
        by_cases hm : m = body.length
        · have HE2 := Lib.hid (show F = 0 by rw [HE.out]; exact (if_neg hbig).trans (if_pos hm))
          have hm' : ((m : Int) != (body.length : Int)) = false := by rw [bne_eq_false_iff_eq]; omega
          go_wp2
          go_ret
          exact ⟨by rw [HE2.out]; rfl, HB.out⟩
        · have HE2 := Lib.hid (show F = 400 by rw [HE.out]; exact (if_neg hbig).trans (if_neg hm))
          have hm' : ((m : Int) != (body.length : Int)) = true := by rw [bne_iff_ne]; omega
          go_wp2
          go_ret
          exact ⟨by rw [HE2.out]; rfl, HB.out⟩
end Go.Proofs.YtomancadpdccaaaGreatDoor.Ht

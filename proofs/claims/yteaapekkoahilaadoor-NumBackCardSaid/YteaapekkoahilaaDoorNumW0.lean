/-
  What was told as text, or put into bytes, is read as it was: the plain laws.
-/
import Derived.Test.YteaapekkoahilaaDoorNumV
namespace Go.Proofs.YteaapekkoahilaaDoor.Nu
open Go.RowKit Go.Proofs.YteaapekkoahilaaDoor.B Go.Proofs.YteaapekkoahilaaDoor.S01
set_option linter.unusedVariables false
set_option linter.unusedSimpArgs false

theorem half_sgn : ∀ d : Fin 16, halfF ((sgn d.val).toNat : Int) = some (d.val : Int) := by decide +kernel
theorem half_sgn' {d : Nat} (h : d < 16) : halfF ((sgn d).toNat : Int) = some (d : Int) := half_sgn ⟨d, h⟩
theorem hex_get : ∀ (l : List UInt8) (i : Nat), i < l.length → (hexF l).getD (2 * i) 0 = sgn ((l.getD i 0).toNat / 16) ∧ (hexF l).getD (2 * i + 1) 0 = sgn ((l.getD i 0).toNat % 16)
  | [], i, h => by simp at h
  | c :: l, 0, h => by
    have e : hexF (c :: l) = sgn (c.toNat / 16) :: sgn (c.toNat % 16) :: hexF l := by simp [hexF, hexB]
    rw [e]; exact ⟨rfl, rfl⟩
  | c :: l, i + 1, h => by
    have e : hexF (c :: l) = sgn (c.toNat / 16) :: sgn (c.toNat % 16) :: hexF l := by simp [hexF, hexB]
    have ih := hex_get l i (by simpa using h)
    rw [e, show 2 * (i + 1) = 2 * i + 1 + 1 by omega]
    exact ih
theorem pair_hex (l : List UInt8) (i : Nat) (h : i < l.length) : pairB (hexF l) i = some (l.getD i 0) := by
  obtain ⟨h1, h2⟩ := hex_get l i h
  have hlt := (l.getD i 0).toNat_lt
  unfold pairB by'
  rw [h1, h2, half_sgn' (by omega), half_sgn' (by omega)]
  dsimp only
  congr 1
  rw [show (16 * (((l.getD i 0).toNat / 16 : Nat) : Int) + (((l.getD i 0).toNat % 16 : Nat) : Int)) = ((l.getD i 0).toNat : Int) by omega]
  unfold toB
  rw [Int.toNat_natCast, UInt8.ofNat_toNat]
theorem unhex_hex (l : List UInt8) : unhexF (hexF l) = some l := by
  have hl := hexF_len l
  have h2 : (hexF l).length / 2 = l.length := by omega
  unfold unhexF
  rw [if_pos ⟨by omega, fun i hi => by rw [pair_hex l i (by omega)]; rfl⟩, h2]
  congr 1
  apply List.ext_getElem?
  intro j
  unfold preB
  by_cases hj : j < l.length
  · simp [hj, pair_hex l j hj, List.getD_eq_getElem?_getD]
  · rw [List.getElem?_eq_none (by simp; omega), List.getElem?_eq_none (by omega)]
theorem wrap_rng (x : Int) : 0 ≤ IntKind.u64.wrap x ∧ IntKind.u64.wrap x ≤ 18446744073709551615 := by
  simp [IntKind.wrap, IntKind.bits, IntKind.signed]; omega
theorem wrap_back {x : Int} (h0 : -9223372036854775808 ≤ x) (h1 : x ≤ 9223372036854775807) : IntKind.i64.wrap (IntKind.u64.wrap x) = x := by
  simp [IntKind.wrap, IntKind.bits, IntKind.signed]
  split <;> omega
theorem acc_wide (x : Int) : ∀ k, k ≤ 8 → (accN (wideF x) k : Int) = IntKind.u64.wrap x / (256 ^ (8 - k) : Nat) := by
  have hu0 : 0 ≤ IntKind.u64.wrap x := (wrap_rng x).1
  have hu1 : IntKind.u64.wrap x ≤ 18446744073709551615 := (wrap_rng x).2
  obtain ⟨u, hu⟩ := Int.eq_ofNat_of_zero_le hu0
  intro k
  induction k with
  | zero =>
    intro _
    rw [hu]
    have : u / 256 ^ 8 = 0 := Nat.div_eq_of_lt (by rw [show (256 : Nat) ^ 8 = 18446744073709551616 by decide]; omega)
    have e : ((u : Int) / ((256 ^ (8 - 0) : Nat) : Int)) = ((u / 256 ^ 8 : Nat) : Int) := (Int.natCast_ediv _ _).symm
    rw [e, this]
    rfl
  | succ k ih =>
    intro hk
    have ih := ih (by omega)
    have hw : ((wideF x).getD k 0).toNat = u / 256 ^ (7 - k) % 256 := by
      have e : (wideF x).getD k 0 = toB (wb x k) := by
        unfold wideF
        simp [List.getD_eq_getElem?_getD, show k < 8 by omega]
      have r := wb_range x k
      have t := toB_nat r.1 r.2
      rw [e]
      have : ((toB (wb x k)).toNat : Int) = ((u / 256 ^ (7 - k) % 256 : Nat) : Int) := by
        rw [t]; unfold wb; rw [hu, Int.natCast_emod, Int.natCast_ediv]; rfl
      exact_mod_cast this
    rw [hu] at ih ⊢
    have ih' : accN (wideF x) k = u / 256 ^ (8 - k) := by exact_mod_cast ih
    show ((accN (wideF x) k * 256 + ((wideF x).getD k 0).toNat : Nat) : Int) = _
    rw [ih', hw, show 8 - (k + 1) = 7 - k by omega, show 8 - k = (7 - k) + 1 by omega, Nat.pow_succ, ← Nat.div_div_eq_div_mul]
    have : u / 256 ^ (7 - k) / 256 * 256 + u / 256 ^ (7 - k) % 256 = u / 256 ^ (7 - k) := by omega
    rw [this]
    exact Int.natCast_ediv _ _
theorem narrow_wide {x : Int} (h0 : -9223372036854775808 ≤ x) (h1 : x ≤ 9223372036854775807) : narrowF (wideF x) = (x, 0) := by
  unfold narrowF
  rw [if_pos (by simp [wideF])]
  have h := acc_wide x 8 (Nat.le_refl _)
  rw [h]
  simp only [Nat.sub_self, Nat.pow_zero]
  congr 1
  rw [show ((1 : Nat) : Int) = 1 from rfl, Int.ediv_one]
  exact wrap_back h0 h1
theorem least (x : Int) : ∀ m, (∀ j, j < m → 128 ≤ x / (128 ^ j : Nat)) ∨ ∃ k, k < m ∧ (∀ j, j < k → 128 ≤ x / (128 ^ j : Nat)) ∧ ¬ 128 ≤ x / (128 ^ k : Nat)
  | 0 => .inl fun j hj => by omega
  | m + 1 => by
    rcases least x m with h | ⟨k, hk, h1, h2⟩
    · by_cases hm : 128 ≤ x / (128 ^ m : Nat)
      · left
        intro j hj
        rcases Nat.lt_or_ge j m with h' | h'
        · exact h j h'
        · have : j = m := by omega
          rw [this]; exact hm
      · exact .inr ⟨m, by omega, h, hm⟩
    · exact .inr ⟨k, by omega, h1, h2⟩
theorem groups {x : Int} (h0 : 0 ≤ x) (h1 : x ≤ 9223372036854775807) : ∃ k, k < 9 ∧ (∀ j, j < k → 128 ≤ x / (128 ^ j : Nat)) ∧ ¬ 128 ≤ x / (128 ^ k : Nat) := by
  rcases least x 9 with h | h
  · exfalso
    have h8 := h 8 (by omega)
    obtain ⟨a, rfl⟩ := Int.eq_ofNat_of_zero_le h0
    have h' : 128 ≤ a / 128 ^ 8 := by exact_mod_cast h8
    rw [show (128 : Nat) ^ 8 = 72057594037927936 by decide] at h'
    omega
  · exact h
theorem get_put {x : Int} (h0 : 0 ≤ x) (h1 : x ≤ 9223372036854775807) (tail : List UInt8) : ((getF (putF [] x ++ tail)).1 : Int) = x ∧ (getF (putF [] x ++ tail)).2 = (putF [] x).length := by
  obtain ⟨k, hk, ha, hn⟩ := groups h0 h1
  rw [putF_at [] h0 (by omega) ha hn, List.nil_append]
  obtain ⟨a, rfl⟩ := Int.eq_ofNat_of_zero_le h0
  have hdiv : ∀ i : Nat, ((a : Int) / (128 ^ i : Nat)) = ((a / 128 ^ i : Nat) : Int) := fun i => by exact_mod_cast rfl
  have hP : ∀ j, j < k → ((grp (a : Int) k ++ [toB ((a : Int) / (128 ^ k : Nat))] ++ tail).getD j 0).toNat = a / 128 ^ j % 128 + 128 := by
    intro j hj
    have e : (grp (a : Int) k ++ [toB ((a : Int) / (128 ^ k : Nat))] ++ tail).getD j 0 = toB ((a : Int) / (128 ^ j : Nat) % 128 + 128) := by
      rw [List.append_assoc, List.getD_eq_getElem?_getD, List.getElem?_append_left (by rw [grp_len]; exact hj)]
      simp [grp, hj]
    rw [e]
    rw [hdiv]
    have : ((toB (((a / 128 ^ j : Nat) : Int) % 128 + 128)).toNat : Int) = ((a / 128 ^ j : Nat) : Int) % 128 + 128 := toB_nat (by omega) (by omega)
    omega
  have hK : ((grp (a : Int) k ++ [toB ((a : Int) / (128 ^ k : Nat))] ++ tail).getD k 0).toNat = a / 128 ^ k := by
    have e : (grp (a : Int) k ++ [toB ((a : Int) / (128 ^ k : Nat))] ++ tail).getD k 0 = toB ((a : Int) / (128 ^ k : Nat)) := by
      rw [List.append_assoc, List.getD_eq_getElem?_getD, List.getElem?_append_right (by rw [grp_len]; omega), grp_len, Nat.sub_self]
      rfl
    rw [e]
    have hn' := hn
    rw [hdiv] at hn' ⊢
    have : ((toB ((a / 128 ^ k : Nat) : Int)).toNat : Int) = ((a / 128 ^ k : Nat) : Int) := toB_nat (Int.natCast_nonneg _) (by omega)
    exact Int.ofNat.inj this
  have hV : ∀ m, m ≤ k → valN (grp (a : Int) k ++ [toB ((a : Int) / (128 ^ k : Nat))] ++ tail) m = a % 128 ^ m := by
    intro m
    induction m with
    | zero => intro _; simp [valN, Nat.mod_one]
    | succ m ih =>
      intro hm
      show valN _ m + _ % 128 * 128 ^ m = _
      rw [ih (by omega), hP m (by omega), Nat.pow_succ, Nat.mod_mul, Nat.add_mod_right, Nat.mod_mod]
      rw [Nat.mul_comm]
  have hnk : ¬ 128 ≤ a / 128 ^ k := by
    intro h; apply hn; rw [hdiv]; exact_mod_cast h
  have hlen : k < (grp (a : Int) k ++ [toB ((a : Int) / (128 ^ k : Nat))] ++ tail).length := by simp [grp_len]
  have hg := getF_hit hk hlen (fun j hj => by rw [hP j hj]; omega) (by rw [hK]; omega)
  rw [hg, if_neg (by
    rintro ⟨hz, hkp⟩
    rw [hK] at hz
    have h128 := ha (k - 1) (by omega)
    rw [hdiv] at h128
    have h128 : 128 ≤ a / 128 ^ (k - 1) := by exact_mod_cast h128
    have : a / 128 ^ k = a / 128 ^ (k - 1) / 128 := by
      rw [Nat.div_div_eq_div_mul, ← Nat.pow_succ, show (k - 1).succ = k by omega]
    omega)]
  refine ⟨?_, by simp [grp_len]⟩
  show ((valN _ k + _ % 128 * 128 ^ k : Nat) : Int) = _
  rw [hV k (Nat.le_refl _), hK, Nat.mod_eq_of_lt (show a / 128 ^ k < 128 by omega)]
  congr 1
  have := Nat.mod_add_div a (128 ^ k)
  rw [Nat.mul_comm] at this
  exact this
theorem parse_show {n : Nat} (h : n ≤ 999999999999999999) : parseF (Lib.itoa (n : Int)) = some n := by
  rw [Lib.itoa_nonneg]
  have hd := decFrom_digits n n (Nat.le_refl _)
  have hl : (Lib.decDigits n).length ≤ 18 := by
    rw [Lib.decDigits_length]
    rcases Nat.lt_or_ge 18 (Lib.nDigits n) with h' | h'
    · exfalso
      have : 10 ^ 18 ≤ n := by
        have hb : ∀ (m u : Nat), Lib.nDigits u = m + 1 → 1 ≤ m → 10 ^ m ≤ u := by
          intro m
          induction m with
          | zero => intro u _ h; omega
          | succ m ih =>
            intro u hu _
            by_cases hs : u < 10
            · rw [Lib.nDigits_small hs] at hu; omega
            · rw [Lib.nDigits_big hs] at hu
              rcases Nat.eq_zero_or_pos m with h0 | h0
              · subst h0; simp; omega
              · have := ih (u / 10) (by omega) h0
                rw [Nat.pow_succ]; omega
        have hn : Lib.nDigits n = (Lib.nDigits n - 1) + 1 := by omega
        have := hb _ n hn (by omega)
        exact Nat.le_trans (Nat.pow_le_pow_right (by omega) (by omega)) this
      rw [show (10 : Nat) ^ 18 = 1000000000000000000 by decide] at this
      omega
    · exact h'
  unfold parseF
  rw [if_neg, hd]
  rintro (hc | hc | ⟨hc, hc2⟩)
  · exact decDigits_ne n (List.eq_nil_of_length_eq_zero hc)
  · omega
  · rcases Nat.eq_zero_or_pos n with h0 | h0
    · rw [h0, Lib.decDigits_one (by omega)] at hc2; simp at hc2
    · exact head_digits n n (Nat.le_refl _) h0 hc
end Go.Proofs.YteaapekkoahilaaDoor.Nu

/-
  Numbers as decimal text: the plain laws.
-/
import Derived.Test.YteaapekkoahilaaDoorNumJ
namespace Go.Proofs.YteaapekkoahilaaDoor.Nu
open Go.RowKit Go.Proofs.YteaapekkoahilaaDoor.B Go.Proofs.YteaapekkoahilaaDoor.S01
set_option linter.unusedVariables false
set_option linter.unusedSimpArgs false

/-- What the document says of a text: the number, or none. -/
def parseF (l : List UInt8) : Option Nat :=
  if l.length = 0 ∨ 18 < l.length ∨ (l.head? = some 48 ∧ 1 < l.length) then none else Lib.decFrom 0 l
/-- What the program says. -/
def parseP (l : List UInt8) : Option Int :=
  if 18 < l.length then none else match Lib.atoiAll l with
  | .ok v => if v < 0 ∨ Lib.itoa v ≠ l then none else some v
  | _ => none
theorem decFrom_snoc : ∀ (l : List UInt8) (acc : Nat) (b : UInt8), Lib.decFrom acc (l ++ [b]) = (Lib.decFrom acc l).bind fun m => (Lib.digitVal b).map fun d => m * 10 + d
  | [], acc, b => by
    simp only [List.nil_append, Lib.decFrom, Option.bind_some]
    cases Lib.digitVal b <;> simp [Lib.decFrom]
  | a :: l, acc, b => by
    simp only [List.cons_append, Lib.decFrom]
    cases Lib.digitVal a with
    | none => rfl
    | some d => exact decFrom_snoc l _ b
theorem digitVal_mk {d : Nat} (h : d < 10) : Lib.digitVal (UInt8.ofNat (48 + d)) = some d := by
  unfold Lib.digitVal
  rw [UInt8.toNat_ofNat']
  have : (48 + d) % 2 ^ 8 = 48 + d := Nat.mod_eq_of_lt (by omega)
  rw [this, if_pos (by omega)]
  congr 1; omega
theorem digit_byte {b : UInt8} {d : Nat} (h : Lib.digitVal b = some d) : d < 10 ∧ b = UInt8.ofNat (48 + d) := by
  obtain ⟨h1, h2, h3⟩ := Lib.digitVal_eq h
  refine ⟨by omega, ?_⟩
  rw [h3, show 48 + (b.toNat - 48) = b.toNat by omega, UInt8.ofNat_toNat]
theorem decFrom_digits : ∀ (k u : Nat), u ≤ k → Lib.decFrom 0 (Lib.decDigits u) = some u
  | 0, u, h => by
    obtain rfl : u = 0 := by omega
    rw [Lib.decDigits_one (by omega)]
    rfl
  | k + 1, u, h => by
    by_cases hu : u < 10
    · rw [Lib.decDigits_one hu]
      simp only [Lib.decFrom, digitVal_mk hu]
      simp
    · rw [Lib.decDigits, dif_neg hu, decFrom_snoc, decFrom_digits k (u / 10) (by omega), digitVal_mk (by omega)]
      simp only [Option.bind_some, Option.map_some]
      congr 1; omega
theorem decDigits_ne (u : Nat) : Lib.decDigits u ≠ [] := by
  rw [Lib.decDigits]
  split <;> simp
theorem head_append {l m : List UInt8} (h : l ≠ []) : (l ++ m).head? = l.head? := by
  cases l with
  | nil => exact absurd rfl h
  | cons a l => rfl
theorem head_digits : ∀ (k u : Nat), u ≤ k → 1 ≤ u → (Lib.decDigits u).head? ≠ some 48
  | 0, u, h, h1 => by omega
  | k + 1, u, h, h1 => by
    by_cases hu : u < 10
    · rw [Lib.decDigits_one hu]
      simp only [List.head?_cons, ne_eq, Option.some.injEq]
      intro e
      have := congrArg UInt8.toNat e
      rw [UInt8.toNat_ofNat'] at this
      have e2 : (48 + u) % 2 ^ 8 = 48 + u := Nat.mod_eq_of_lt (by omega)
      rw [e2] at this
      have : 48 + u = 48 := this
      omega
    · rw [Lib.decDigits, dif_neg hu, head_append (decDigits_ne _)]
      exact head_digits k (u / 10) (by omega) (by omega)
theorem digits_unique : ∀ (k : Nat) (l : List UInt8) (n : Nat), l.length = k + 1 → Lib.decFrom 0 l = some n → (l.head? ≠ some 48 ∨ k = 0) → l = Lib.decDigits n
  | k, l, n, hl, hd, hh => by
    obtain ⟨m, b, rfl⟩ : ∃ m b, l = m ++ [b] := ⟨l.dropLast, l.getLast (by intro e; rw [e] at hl; simp at hl), (List.dropLast_concat_getLast _).symm⟩
    have hm : m.length = k := by simpa using hl
    rw [decFrom_snoc] at hd
    cases hq : Lib.decFrom 0 m with
    | none => rw [hq] at hd; simp at hd
    | some q =>
      rw [hq] at hd
      simp only [Option.bind_some, Option.map_eq_some_iff] at hd
      obtain ⟨d, hd1, rfl⟩ := hd
      obtain ⟨h10, rfl⟩ := digit_byte hd1
      cases k with
      | zero =>
        obtain rfl : m = [] := List.eq_nil_of_length_eq_zero hm
        simp only [Lib.decFrom, Option.some.injEq] at hq
        subst hq
        rw [show 0 * 10 + d = d by omega, Lib.decDigits_one h10]
        rfl
      | succ k =>
        have hne : m ≠ [] := by intro e; rw [e] at hm; simp at hm
        have hhd : m.head? ≠ some 48 := by
          rcases hh with hh | hh
          · rw [head_append hne] at hh; exact hh
          · omega
        have ih := digits_unique k m q hm hq (.inl hhd)
        have hq1 : 1 ≤ q := by
          rcases Nat.eq_zero_or_pos q with h0 | h0
          · exfalso
            apply hhd
            rw [ih, h0, Lib.decDigits_one (by omega)]
            rfl
          · exact h0
        have hb : ¬ q * 10 + d < 10 := by omega
        rw [Lib.decDigits, dif_neg hb, show (q * 10 + d) / 10 = q by omega, show (q * 10 + d) % 10 = d by omega, ← ih]
theorem parseUint_ok : ∀ (l : List UInt8) (acc n : Nat), Lib.decFrom acc l = some n → n < 1000000000000000000 → Lib.parseUint10 acc l = .ok n
  | [], acc, n, h, hn => by
    simp only [Lib.decFrom, Option.some.injEq] at h
    rw [h]; rfl
  | c :: r, acc, n, h, hn => by
    simp only [Lib.decFrom] at h
    cases hc : Lib.digitVal c with
    | none => rw [hc] at h; cases h
    | some d =>
      rw [hc] at h
      obtain ⟨h1, h2, rfl⟩ := Lib.digitVal_eq hc
      have hle : acc * 10 + (c.toNat - 48) ≤ n := by
        have : ∀ (l : List UInt8) (a n : Nat), Lib.decFrom a l = some n → a ≤ n := by
          intro l
          induction l with
          | nil => intro a n h; simp only [Lib.decFrom, Option.some.injEq] at h; omega
          | cons b l ih =>
            intro a n h
            simp only [Lib.decFrom] at h
            cases hb : Lib.digitVal b with
            | none => rw [hb] at h; cases h
            | some d => rw [hb] at h; have := ih _ _ h; omega
        exact this _ _ _ h
      simp only [Lib.parseUint10]
      rw [if_pos ⟨h1, h2⟩, if_neg (by omega), if_neg (by omega)]
      exact parseUint_ok r _ n h hn
theorem atoi_digits {l : List UInt8} {n : Nat} (hl : l.length ≤ 18) (h0 : l ≠ []) (h : Lib.decFrom 0 l = some n) : Lib.atoiAll l = .ok (n : Int) := by
  cases l with
  | nil => exact absurd rfl h0
  | cons c r =>
    have hd : ∃ d, Lib.digitVal c = some d := Lib.digit_of_decFrom _ _ _ h 0 c rfl
    obtain ⟨d, hd⟩ := hd
    obtain ⟨h1, h2, _⟩ := Lib.digitVal_eq hd
    have hn := Lib.decFrom_lt18 h hl
    unfold Lib.atoiAll
    have e1 : ¬ c.toNat = 43 := by omega
    have e2 : ¬ c.toNat = 45 := by omega
    simp only [e1, e2, or_self, if_false, Lib.parseMag]
    rw [if_neg (by simp), parseUint_ok _ _ _ h hn]
    simp only [not_false_eq_true, true_and, false_and, if_false]
    rw [if_neg (by omega)]
theorem parse_same (l : List UInt8) : parseP l = Option.map (fun n : Nat => (n : Int)) (parseF l) := by
  unfold parseP parseF
  by_cases h18 : 18 < l.length
  · simp [h18]
  · rw [if_neg h18]
    by_cases h0 : l.length = 0
    · obtain rfl : l = [] := List.eq_nil_of_length_eq_zero h0
      simp [Lib.atoiAll]
    · have hne : l ≠ [] := fun e => h0 (by rw [e]; rfl)
      by_cases hz : l.head? = some 48 ∧ 1 < l.length
      · rw [if_pos (.inr (.inr hz))]
        simp only [Option.map_none]
        cases ha : Lib.atoiAll l with
        | ok v =>
          dsimp only
          rw [if_pos]
          by_cases hv : v < 0
          · exact .inl hv
          · right
            intro e
            obtain ⟨u, rfl⟩ : ∃ u : Nat, v = u := ⟨v.toNat, by omega⟩
            rw [Lib.itoa_nonneg] at e
            rw [← e] at hz
            rcases Nat.eq_zero_or_pos u with h0 | h0
            · rw [h0, Lib.decDigits_one (by omega)] at hz
              simp at hz
            · exact head_digits u u (Nat.le_refl _) h0 hz.1
        | _ => rfl
      · rw [if_neg (by intro hc; rcases hc with hc | hc | hc; exact h0 hc; exact h18 hc; exact hz hc)]
        cases hd : Lib.decFrom 0 l with
        | some n =>
          rw [atoi_digits (by omega) hne hd]
          have hu : l = Lib.decDigits n := by
            refine digits_unique (l.length - 1) l n (by omega) hd ?_
            by_cases h1 : l.length = 1
            · right; omega
            · left; intro e; exact hz ⟨e, by omega⟩
          simp only [Option.map_some]
          rw [if_neg]
          intro hc
          rcases hc with hc | hc
          · omega
          · rw [Lib.itoa_nonneg] at hc; exact hc hu.symm
        | none =>
          simp only [Option.map_none]
          cases ha : Lib.atoiAll l with
          | ok v =>
            dsimp only
            rw [if_pos]
            by_cases hv : v < 0
            · exact .inl hv
            · right
              intro e
              obtain ⟨u, rfl⟩ : ∃ u : Nat, v = u := ⟨v.toNat, by omega⟩
              rw [Lib.itoa_nonneg] at e
              rw [← e, decFrom_digits u u (Nat.le_refl _)] at hd
              cases hd
          | _ => rfl
end Go.Proofs.YteaapekkoahilaaDoor.Nu

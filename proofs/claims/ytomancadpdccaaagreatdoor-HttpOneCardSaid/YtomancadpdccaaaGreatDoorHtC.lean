/-
  HTTP, plain: the case of letters in the names of the head.
-/
import Derived.Test.YtomancadpdccaaaGreatDoorHtP
namespace Go.Proofs.YtomancadpdccaaaGreatDoor.Ht
open Go.RowKit Go.Proofs.YtomancadpdccaaaGreatDoor.B
set_option linter.unusedVariables false
set_option linter.unusedSimpArgs false

abbrev lowB (c : UInt8) : UInt8 := Lib.lowerB c
def isLow (c : UInt8) : Bool := decide (97 ≤ c.toNat) && decide (c.toNat ≤ 122)
/-- may this byte be changed? -/
def chg (nm : Bool) (x y : UInt8) : Prop := x = y ∨ (isLow y = true ∧ x = y - 32 ∧ nm = true ∧ y ≠ 58)
/-- is a name behind this byte? -/
def nmN (nm cr : Bool) (y : UInt8) : Bool := if cr && y == 10 then true else if y == 58 then false else nm
def rel : Bool → Bool → Bs → Bs → Prop
  | _, _, [], [] => True
  | nm, cr, x :: a, y :: b => chg nm x y ∧ rel (nmN nm cr y) (y == 13) a b
  | _, _, _, _ => False
def rl : Bool → Bs → Bs → Prop
  | _, [], [] => True
  | nm, x :: a, y :: b => chg nm x y ∧ rl (nm && !(y == 58)) a b
  | _, _, _ => False
/-! ### bytes -/
theorem all256 (p : UInt8 → Bool) (h : ∀ k : Fin 256, p (UInt8.ofNat k.val) = true) (c : UInt8) : p c = true := by
  have := h ⟨c.toNat, c.toNat_lt⟩
  simpa using this
theorem chg_low {nm : Bool} {x y : UInt8} (h : chg nm x y) : lowB x = lowB y := by
  rcases h with rfl | ⟨h1, rfl, _⟩
  · rfl
  · have := all256 (fun y => !isLow y || lowB (y - 32) == lowB y) (by decide +kernel) y
    simp only [Bool.or_eq_true, Bool.not_eq_true', beq_iff_eq] at this
    rcases this with h | h
    · rw [h1] at h; cases h
    · exact h
theorem low_is (c d : UInt8) (hd : isLow d = false) (hg : great d = false) : lowB c = d ↔ c = d := by
  have h1 := all256 (fun c => lowB c == c || (great c && isLow (lowB c))) (by decide +kernel) c
  simp only [Bool.or_eq_true, Bool.and_eq_true, beq_iff_eq] at h1
  rcases h1 with h1 | ⟨h1, h2⟩
  · rw [h1]
  · constructor
    · intro e
      rw [e, hd] at h2; cases h2
    · rintro rfl
      rw [hg] at h1; cases h1
theorem named_low (c : UInt8) : named (lowB c) = named c := by
  have := all256 (fun c => named (lowB c) == named c) (by decide +kernel) c
  simpa using this
theorem low_low (c : UInt8) : lowB (lowB c) = lowB c := by
  have := all256 (fun c => lowB (lowB c) == lowB c) (by decide +kernel) c
  simpa using this
/-! ### the search does not see the case -/
def plainT (t : Bs) : Prop := ∀ d ∈ t, isLow d = false ∧ great d = false
theorem pre_low : ∀ {t : Bs}, plainT t → ∀ (s : Bs), t.isPrefixOf (low s) = t.isPrefixOf s
  | [], _, s => rfl
  | d :: t, ht, [] => rfl
  | d :: t, ht, c :: s => by
    have h1 := ht d (by simp)
    have ih := pre_low (t := t) (fun e he => ht e (by simp [he])) s
    show (d == lowB c && t.isPrefixOf (low s)) = (d == c && t.isPrefixOf s)
    rw [ih]
    congr 1
    rw [Bool.eq_iff_iff, beq_iff_eq, beq_iff_eq]
    have := low_is c d h1.1 h1.2
    constructor
    · intro e; exact (this.1 e.symm).symm
    · intro e; exact (this.2 e.symm).symm
theorem idx_low {t : Bs} (ht : plainT t) : ∀ (s : Bs), Lib.index (low s) t = Lib.index s t
  | [] => rfl
  | c :: s => by
    have h1 := pre_low ht (c :: s)
    have ih := idx_low ht s
    show Lib.index (lowB c :: low s) t = _
    rw [Lib.index, Lib.index, ih]
    rw [show t.isPrefixOf (lowB c :: low s) = t.isPrefixOf (c :: s) from h1]
theorem low_length (s : Bs) : (low s).length = s.length := by simp [Lib.toLowerA]
theorem low_take (s : Bs) (n : Nat) : low (s.take n) = (low s).take n := by simp [Lib.toLowerA]
theorem low_drop (s : Bs) (n : Nat) : low (s.drop n) = (low s).drop n := by simp [Lib.toLowerA]
theorem plain_crlf : plainT crlf := by intro d hd; simp [crlf] at hd; rcases hd with rfl | rfl <;> exact ⟨rfl, rfl⟩
theorem plain_crlf2 : plainT crlf2 := by intro d hd; simp [crlf2] at hd; rcases hd with rfl | rfl | rfl | rfl <;> exact ⟨rfl, rfl⟩
theorem plain_58 : plainT [58] := by intro d hd; simp at hd; subst hd; exact ⟨rfl, rfl⟩
theorem named_all : ∀ (s : Bs), (low s).all named = s.all named
  | [] => rfl
  | c :: s => by
    show (named (lowB c) && (low s).all named) = (named c && s.all named)
    rw [named_low, named_all s]
/-! ### lines -/
theorem rel_low : ∀ {nm cr : Bool} {a b : Bs}, rel nm cr a b → low a = low b
  | _, _, [], [], _ => rfl
  | nm, cr, x :: a, y :: b, h => by
    show lowB x :: low a = lowB y :: low b
    rw [chg_low h.1, rel_low h.2]
  | _, _, [], _ :: _, h => h.elim
  | _, _, _ :: _, [], h => h.elim
theorem rl_low : ∀ {nm : Bool} {a b : Bs}, rl nm a b → low a = low b
  | _, [], [], _ => rfl
  | nm, x :: a, y :: b, h => by
    show lowB x :: low a = lowB y :: low b
    rw [chg_low h.1, rl_low h.2]
  | _, [], _ :: _, h => h.elim
  | _, _ :: _, [], h => h.elim
theorem rl_false : ∀ {a b : Bs}, rl false a b → a = b
  | [], [], _ => rfl
  | x :: a, y :: b, h => by
    rcases h.1 with h1 | h1
    · rw [h1, rl_false h.2]
    · cases h1.2.2.1
  | [], _ :: _, h => h.elim
  | _ :: _, [], h => h.elim
theorem rl_value : ∀ {nm : Bool} {a b : Bs} {i : Nat}, rl nm a b → Lib.index b [58] = i → a.drop (i + 1) = b.drop (i + 1)
  | _, [], [], _, _, _ => rfl
  | nm, x :: a, y :: b, i, h, hi => by
    by_cases hy : y = 58
    · subst hy
      have : Lib.index ((58 : UInt8) :: b) [58] = 0 := by rw [Lib.index]; rfl
      have hi0 : i = 0 := by omega
      subst hi0
      have h2 := h.2
      rw [show (nm && !((58 : UInt8) == 58)) = false by simp] at h2
      simp [rl_false h2]
    · have hp : ([58] : Bs).isPrefixOf (y :: b) = false := by
        show ((58 : UInt8) == y && true) = false
        rw [show ((58 : UInt8) == y) = false by rw [beq_eq_false_iff_ne]; exact fun e => hy e.symm]; rfl
      rw [Lib.index, hp] at hi
      simp only [Bool.false_eq_true, if_false] at hi
      split at hi
      · omega
      · have hge := Lib.index_ge b [58]
        rename_i hne
        have hne' : Lib.index b [58] ≠ -1 := by simpa using hne
        obtain ⟨j, hj⟩ : ∃ j : Nat, Lib.index b [58] = j := ⟨(Lib.index b [58]).toNat, by omega⟩
        have hij : i = j + 1 := by omega
        subst hij
        simpa using rl_value h.2 hj
  | _, [], _ :: _, _, h, _ => h.elim
  | _, _ :: _, [], _, h, _ => h.elim
theorem hd_same {nm : Bool} {a b : Bs} (h : rl nm a b) : hdF a = hdF b := by
  have hl := rl_low h
  have hi : Lib.index a [58] = Lib.index b [58] := by rw [← idx_low plain_58 a, ← idx_low plain_58 b, hl]
  unfold hdF
  rw [hi]
  by_cases h1 : Lib.index b [58] < 1
  · rw [if_pos h1, if_pos h1]
  · rw [if_neg h1, if_neg h1]
    obtain ⟨i, hi⟩ : ∃ i : Nat, Lib.index b [58] = i := ⟨(Lib.index b [58]).toNat, by omega⟩
    rw [hi, Int.toNat_natCast, rl_value h hi]
    have e : low (a.take i) = low (b.take i) := by rw [low_take, low_take, hl]
    have e2 : (a.take i).all named = (b.take i).all named := by rw [← named_all, e, named_all]
    rw [e, e2]
def rls : List Bs → List Bs → Prop
  | [], [] => True
  | a :: xs, b :: ys => rl true a b ∧ rls xs ys
  | _, _ => False
theorem hds_same : ∀ {xs ys : List Bs}, rls xs ys → hdsF xs = hdsF ys
  | [], [], _ => rfl
  | a :: xs, b :: ys, h => by
    rw [hdsF, hdsF, hd_same h.1, hds_same h.2]
  | [], _ :: _, h => h.elim
  | _ :: _, [], h => h.elim
theorem rls_length : ∀ {xs ys : List Bs}, rls xs ys → xs.length = ys.length
  | [], [], _ => rfl
  | a :: xs, b :: ys, h => by simp [rls_length h.2]
  | [], _ :: _, h => h.elim
  | _ :: _, [], h => h.elim
theorem rel_len {nm cr : Bool} {a b : Bs} (h : rel nm cr a b) : a.length = b.length := by
  have := congrArg List.length (rel_low h)
  rwa [low_length, low_length] at this
theorem rel_take : ∀ {nm cr : Bool} {a b : Bs} (n : Nat), rel nm cr a b → rel nm cr (a.take n) (b.take n)
  | _, _, _, _, 0, _ => trivial
  | _, _, [], [], n + 1, _ => trivial
  | nm, cr, x :: a, y :: b, n + 1, h => ⟨h.1, rel_take n h.2⟩
  | _, _, [], _ :: _, _ + 1, h => h.elim
  | _, _, _ :: _, [], _ + 1, h => h.elim
/-- up to the first end of a line. -/
theorem rel_line : ∀ {nm cr : Bool} {a b : Bs} {i : Nat}, rel nm cr a b → Lib.index b crlf = i → (cr = true → b.head? ≠ some 10) → rl nm (a.take i) (b.take i) ∧ rel true false (a.drop (i + 2)) (b.drop (i + 2))
  | nm, cr, x :: a, y :: b, i, h, hi, hc => by
    rw [Lib.index] at hi
    split at hi
    · rename_i hp
      have hi0 : i = 0 := by omega
      subst hi0
      match b, hp with
      | [], hp => simp [crlf, List.isPrefixOf] at hp
      | z :: b, hp =>
        have hy : y = 13 := by simp [crlf, List.isPrefixOf] at hp; exact hp.1.symm
        have hz : z = 10 := by simp [crlf, List.isPrefixOf] at hp; exact hp.2.symm
        subst hy hz
        match a, h with
        | w :: a, h =>
          have h2 := h.2.2
          exact ⟨trivial, h2⟩
    · rename_i hp
      split at hi
      · omega
      · rename_i hne
        have hne' : Lib.index b crlf ≠ -1 := by simpa using hne
        have hge := Lib.index_ge b crlf
        obtain ⟨j, hj⟩ : ∃ j : Nat, Lib.index b crlf = j := ⟨(Lib.index b crlf).toNat, by omega⟩
        have hij : i = j + 1 := by omega
        subst hij
        have hn : nmN nm cr y = (nm && !(y == 58)) := by
          unfold nmN
          have : (cr && y == 10) = false := by
            cases cr with
            | false => rfl
            | true =>
              have := hc rfl
              simp at this
              simpa using this
          rw [this]
          cases hy : y == 58 <;> cases nm <;> simp
        have h2 := h.2
        rw [hn] at h2
        obtain ⟨r1, r2⟩ := rel_line h2 hj (fun h13 h10 => by
          have hy : y = 13 := by simpa using h13
          subst hy
          match b, h10 with
          | z :: b, h10 =>
            have hz : z = 10 := by simpa using h10
            subst hz
            exact hp (by simp [crlf, List.isPrefixOf]))
        exact ⟨⟨h.1, r1⟩, by simpa using r2⟩
  | _, _, [], [], i, _, hi, _ => by
    have : Lib.index [] crlf = -1 := rfl
    omega
  | _, _, [], _ :: _, _, h, _, _ => h.elim
  | _, _, _ :: _, [], _, h, _, _ => h.elim
theorem rel_all : ∀ {nm cr : Bool} {a b : Bs}, rel nm cr a b → Lib.index b crlf < 0 → (cr = true → b.head? ≠ some 10) → rl nm a b
  | nm, cr, x :: a, y :: b, h, hi, hc => by
    rw [Lib.index] at hi
    split at hi
    · omega
    · rename_i hp
      have hn : nmN nm cr y = (nm && !(y == 58)) := by
        unfold nmN
        have : (cr && y == 10) = false := by
          cases cr with
          | false => rfl
          | true =>
            have := hc rfl
            simp at this
            simpa using this
        rw [this]
        cases hy : y == 58 <;> cases nm <;> simp
      have h2 := h.2
      rw [hn] at h2
      refine ⟨h.1, rel_all h2 ?_ (fun h13 h10 => ?_)⟩
      · split at hi
        · rename_i hne
          have hne' : Lib.index b crlf = -1 := by simpa using hne
          omega
        · have hge := Lib.index_ge b crlf
          omega
      · have hy : y = 13 := by simpa using h13
        subst hy
        match b, h10 with
        | z :: b, h10 =>
          have hz : z = 10 := by simpa using h10
          subst hz
          exact hp (by simp [crlf, List.isPrefixOf])
  | _, _, [], [], _, _, _ => trivial
  | _, _, [], _ :: _, h, _, _ => h.elim
  | _, _, _ :: _, [], h, _, _ => h.elim
theorem crlf_ne : crlf ≠ [] := by decide
theorem rel_split : ∀ (k : Nat) {nm : Bool} {a b : Bs}, b.length ≤ k → rel nm false a b → ∃ x y xs ys, Lib.split a crlf = x :: xs ∧ Lib.split b crlf = y :: ys ∧ rl nm x y ∧ rls xs ys
  | k, nm, a, b, hk, h => by
    have hi : Lib.index a crlf = Lib.index b crlf := by rw [← idx_low plain_crlf a, ← idx_low plain_crlf b, rel_low h]
    by_cases h0 : Lib.index b crlf < 0
    · rw [spl_miss h0, spl_miss (by omega : Lib.index a crlf < 0)]
      exact ⟨a, b, [], [], rfl, rfl, rel_all h h0 (fun h => by cases h), trivial⟩
    · obtain ⟨i, hib⟩ : ∃ i : Nat, Lib.index b crlf = i := ⟨(Lib.index b crlf).toNat, by omega⟩
      obtain ⟨r1, r2⟩ := rel_line h hib (fun h => by cases h)
      rw [spl_hit crlf_ne hib, spl_hit crlf_ne (hi.trans hib)]
      have hr := idx_room hib
      have hl : crlf.length = 2 := rfl
      match k, hk with
      | 0, hk => omega
      | k + 1, hk =>
        obtain ⟨x, y, xs, ys, e1, e2, r3, r4⟩ := rel_split k (b := b.drop (i + 2)) (by rw [List.length_drop]; omega) r2
        refine ⟨_, _, _, _, rfl, rfl, r1, ?_⟩
        rw [hl, e1, e2]
        exact ⟨r3, r4⟩
theorem rel_head {pf : Bs → Option Nat} {a b c : Bs} (h : rel false false a b) : headF pf a c = headF pf b c := by
  obtain ⟨x, y, xs, ys, e1, e2, r1, r2⟩ := rel_split _ (Nat.le_refl _) h
  unfold headF
  rw [e1, e2, rl_false r1]
  unfold linesF
  simp only
  rw [hds_same r2, rls_length r2]
/-- behind the head nothing is changed. -/
def sameFrom (a b : Bs) (n : Nat) : Prop := a.drop n = b.drop n
theorem parse_case {pf : Bs → Option Nat} {a b : Bs} (h : rel false false a b) (hs : ∀ i : Nat, Lib.index b crlf2 = i → a.drop (i + 4) = b.drop (i + 4)) : parseB pf a = parseB pf b := by
  have hi : Lib.index a crlf2 = Lib.index b crlf2 := by rw [← idx_low plain_crlf2 a, ← idx_low plain_crlf2 b, rel_low h]
  unfold parseB
  rw [rel_len h, hi]
  by_cases h0 : Lib.index b crlf2 < 0
  · rw [if_pos h0, if_pos h0]
  · rw [if_neg h0, if_neg h0]
    obtain ⟨i, hib⟩ : ∃ i : Nat, Lib.index b crlf2 = i := ⟨(Lib.index b crlf2).toNat, by omega⟩
    rw [hib, Int.toNat_natCast, hs i hib, rel_head (rel_take i h)]
end Go.Proofs.YtomancadpdccaaaGreatDoor.Ht

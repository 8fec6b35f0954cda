/-
  JSON, plain: texts and numbers that are written are read again; what is read may be written.
-/
import Derived.Test.YtminegmjklehnaaGreatDoorJsonU
namespace Go.Proofs.YtminegmjklehnaaGreatDoor.J
set_option linter.unusedVariables false
set_option linter.unusedSimpArgs false

/-! ### texts -/
theorem hexP_4 (a b c d : UInt8) (L : Bs) : hexP (a :: b :: c :: d :: L) = match hexD a, hexD b, hexD c, hexD d with
    | some x, some y, some z, some u => .ok (((x * 16 + y) * 16 + z) * 16 + u, L)
    | _, _, _, _ => .error 3 := rfl
theorem escP_cons (c : UInt8) (L : Bs) : escP (c :: L) = match escOf c with
    | some m => .ok ([m], L)
    | none => if c == 117 then uniP L else .error 3 := rfl
theorem textP_cons (c : UInt8) (L : Bs) : textP (c :: L) = if c == 34 then textGo (L.length + 1) [] L else .error 3 := rfl
set_option maxRecDepth 100000 in
theorem hex_less {L M : Bs} {n : Nat} (h : hexP L = .ok (n, M)) : ∃ a b c d, L = a :: b :: c :: d :: M := by
  unfold hexP at h
  split at h
  · split at h
    · cases h; exact ⟨_, _, _, _, rfl⟩
    · cases h
  · cases h
set_option maxRecDepth 100000 in
theorem esc_less {L M m : Bs} (h : escP L = .ok (m, M)) : M.length < L.length := by
  cases L with
  | nil => cases h
  | cons c L =>
    rw [escP_cons] at h
    split at h
    · cases h; simp
    · split at h
      · unfold uniP at h
        split at h
        · cases h
        · rename_i n M' hx
          obtain ⟨a, b, c, d, rfl⟩ := hex_less hx
          split at h
          · cases h
          · split at h
            · unfold lowP at h
              split at h
              · split at h
                · split at h
                  · cases h
                  · rename_i m' M2 hy
                    obtain ⟨a', b', c', d', rfl⟩ := hex_less hy
                    split at h
                    · cases h
                    · have h := Except.ok.inj h
                      rw [Prod.mk.injEq] at h
                      obtain ⟨-, rfl⟩ := h
                      simp; omega
                · cases h
              · cases h
            · cases h; simp; omega
      · cases h
theorem textGo_fuel : ∀ (f g : Nat) (acc L : Bs), L.length < f → L.length < g → textGo f acc L = textGo g acc L
  | 0, _, _, _, h, _ => by omega
  | _ + 1, 0, _, _, _, h => by omega
  | f + 1, g + 1, acc, [], _, _ => rfl
  | f + 1, g + 1, acc, c :: L, h1, h2 => by
    rw [textGo, textGo]
    split
    · rfl
    split
    · cases he : escP L with
      | error e => rfl
      | ok p =>
        obtain ⟨m, M⟩ := p
        have := esc_less he
        simp at h1 h2
        exact textGo_fuel f g _ _ (by omega) (by omega)
    split
    · rfl
    · rename_i hc
      have : 0 < charN (c :: L) := by omega
      have hl : ((c :: L).drop (charN (c :: L))).length < (c :: L).length := by rw [List.length_drop]; simp; omega
      exact textGo_fuel f g _ _ (by omega) (by omega)
theorem textGo_end (f : Nat) (acc L : Bs) : textGo (f + 1) acc (34 :: L) = .ok (acc, L) := rfl
theorem textGo_esc (f : Nat) (acc L : Bs) {m M : Bs} (h : escP L = .ok (m, M)) : textGo (f + 1) acc (92 :: L) = textGo f (acc ++ m) M := by
  rw [textGo, if_neg (by decide), if_pos (by decide), h]
theorem textGo_chr (f : Nat) (acc L : Bs) (c : UInt8) (h1 : c ≠ 34) (h2 : c ≠ 92) (h3 : 0 < charN (c :: L)) (h4 : 32 ≤ c.toNat) : textGo (f + 1) acc (c :: L) = textGo f (acc ++ (c :: L).take (charN (c :: L))) ((c :: L).drop (charN (c :: L))) := by
  rw [textGo, if_neg (by simpa using h1), if_neg (by simpa using h2), if_neg (by omega)]
theorem hexD_hexC : ∀ n : Fin 16, hexD (hexC n.val) = some n.val := by decide
theorem quoteC_high {c : UInt8} (h : 128 ≤ c.toNat) : quoteC c = [c] := by
  have hne : ∀ k : Nat, k < 128 → (c == UInt8.ofNat k) = false := by
    intro k hk
    rw [beq_eq_false_iff_ne]
    intro e
    rw [e, ofNat_toNat (by omega)] at h
    omega
  unfold quoteC
  rw [if_neg (by rw [show (34 : UInt8) = UInt8.ofNat 34 from rfl, hne 34 (by omega)]; simp), if_neg (by rw [show (92 : UInt8) = UInt8.ofNat 92 from rfl, hne 92 (by omega)]; simp),
    if_neg (by rw [show (10 : UInt8) = UInt8.ofNat 10 from rfl, hne 10 (by omega)]; simp), if_neg (by rw [show (13 : UInt8) = UInt8.ofNat 13 from rfl, hne 13 (by omega)]; simp),
    if_neg (by rw [show (9 : UInt8) = UInt8.ofNat 9 from rfl, hne 9 (by omega)]; simp), if_neg (by omega)]
theorem quote_high {m : Bs} (h : ∀ b ∈ m, 128 ≤ b.toNat) : m.flatMap quoteC = m := by
  induction m with
  | nil => rfl
  | cons a l ih =>
    rw [List.flatMap_cons, quoteC_high (h a (by simp)), ih (fun b hb => h b (by simp [hb]))]
    rfl
theorem uni_low (c : UInt8) (h : c.toNat < 32) (X : Bs) : escP (117 :: 48 :: 48 :: hexC (c.toNat / 16) :: hexC (c.toNat % 16) :: X) = .ok ([c], X) := by
  have e1 := hexD_hexC ⟨c.toNat / 16, by omega⟩
  have e2 := hexD_hexC ⟨c.toNat % 16, by omega⟩
  have h0 : hexD 48 = some 0 := rfl
  have hx : hexP (48 :: 48 :: hexC (c.toNat / 16) :: hexC (c.toNat % 16) :: X) = .ok (c.toNat, X) := by
    dsimp only at e1 e2
    rw [hexP_4, h0, e1, e2]
    show Except.ok (((0 * 16 + 0) * 16 + c.toNat / 16) * 16 + c.toNat % 16, X) = _
    congr 2
    omega
  have h1 : escOf 117 = none := rfl
  rw [escP_cons, h1]
  dsimp only
  rw [if_pos (by decide)]
  unfold uniP
  rw [hx]
  dsimp only
  rw [if_neg (by omega), if_neg (by omega)]
  unfold utfB
  rw [if_pos (by omega)]
  simp
/-- a character that is written is read again. -/
theorem textGo_low (c : UInt8) (h : c.toNat < 128) (f : Nat) (acc X : Bs) : textGo (f + 1) acc (quoteC c ++ X) = textGo f (acc ++ [c]) X := by
  unfold quoteC
  by_cases c1 : c = 34
  · subst c1; exact textGo_esc f acc _ rfl
  rw [if_neg (by simpa using c1)]
  by_cases c2 : c = 92
  · subst c2; exact textGo_esc f acc _ rfl
  rw [if_neg (by simpa using c2)]
  by_cases c3 : c = 10
  · subst c3; exact textGo_esc f acc _ rfl
  rw [if_neg (by simpa using c3)]
  by_cases c4 : c = 13
  · subst c4; exact textGo_esc f acc _ rfl
  rw [if_neg (by simpa using c4)]
  by_cases c5 : c = 9
  · subst c5; exact textGo_esc f acc _ rfl
  rw [if_neg (by simpa using c5)]
  by_cases c6 : c.toNat < 32
  · rw [if_pos c6]
    exact textGo_esc f acc _ (uni_low c c6 X)
  rw [if_neg c6]
  have hc := charN_cons c X h
  show textGo (f + 1) acc (c :: X) = _
  rw [textGo_chr f acc X c c1 c2 (by omega) (by omega), hc]
  rfl
theorem textGo_quote {t : Bs} (h : Chs t) : ∀ (acc rest : Bs) (f : Nat), (t.flatMap quoteC ++ 34 :: rest).length < f → textGo f acc (t.flatMap quoteC ++ 34 :: rest) = .ok (acc ++ t, rest) := by
  induction h with
  | nil =>
    intro acc rest f hf
    cases f with
    | zero => omega
    | succ f => rw [List.append_nil]; exact textGo_end f acc rest
  | @cons m t hm ht ih =>
    intro acc rest f hf
    cases f with
    | zero => omega
    | succ f =>
      by_cases h0 : bN m 0 < 128
      · obtain ⟨c, rfl, hc⟩ := hm.low h0
        have e : ([c] ++ t).flatMap quoteC ++ 34 :: rest = quoteC c ++ (t.flatMap quoteC ++ 34 :: rest) := by simp
        have hq : 0 < (quoteC c).length := by
          unfold quoteC
          repeat' split
          all_goals simp
        rw [e, textGo_low c hc f acc]
        rw [e, List.length_append] at hf
        rw [ih (acc ++ [c]) rest f (by omega), List.append_assoc]
      · have hh := hm.high (by omega)
        have e : (m ++ t).flatMap quoteC ++ 34 :: rest = m ++ (t.flatMap quoteC ++ 34 :: rest) := by rw [List.flatMap_append, quote_high hh, List.append_assoc]
        rw [e] at hf ⊢
        have hmore := hm.more (t.flatMap quoteC ++ 34 :: rest)
        cases m with
        | nil => exact absurd rfl hm.1
        | cons c m =>
          have h1 := hh c (by simp)
          have e34 : c ≠ 34 := by rintro rfl; exact absurd h1 (by decide)
          have e92 : c ≠ 92 := by rintro rfl; exact absurd h1 (by decide)
          rw [List.cons_append] at hf hmore ⊢
          rw [textGo_chr f acc _ c e34 e92 (by rw [hmore]; simp) (by omega), hmore, ← List.cons_append, List.take_left, List.drop_left]
          rw [ih (acc ++ c :: m) rest f (by simp at hf ⊢; omega), List.append_assoc]
theorem textP_quote {t : Bs} (h : validT t = true) (rest : Bs) : textP (quoteT t ++ rest) = .ok (t, rest) := by
  have e : quoteT t ++ rest = 34 :: (t.flatMap quoteC ++ 34 :: rest) := by unfold quoteT; simp
  rw [e, textP_cons, if_pos (by decide), textGo_quote (validT_chs h) [] rest _ (Nat.lt_succ_self _)]
  rfl
set_option maxRecDepth 100000 in
theorem esc_chs {L M m : Bs} (h : escP L = .ok (m, M)) : Chs m := by
  cases L with
  | nil => cases h
  | cons c L =>
    rw [escP_cons] at h
    split at h
    · rename_i m' hm
      cases h
      refine Chs.one (isCh_low ?_)
      unfold escOf at hm
      repeat' (split at hm)
      all_goals first | cases hm; decide | cases hm
    · split at h
      · unfold uniP at h
        split at h
        · cases h
        · rename_i n M' hx
          have hn : n < 65536 := by
            unfold hexP at hx
            have hd : ∀ (c : UInt8) (x : Nat), hexD c = some x → x < 16 := by
              intro c x hc
              unfold hexD at hc
              repeat' (split at hc)
              all_goals first | cases hc; omega | cases hc
            split at hx
            · split at hx
              · rename_i x1 x2 x3 x4
                cases hx
                have := hd _ _ x1
                have := hd _ _ x2
                have := hd _ _ x3
                have := hd _ _ x4
                omega
              · cases hx
            · cases hx
          split at h
          · cases h
          · rename_i h1
            split at h
            · unfold lowP at h
              split at h
              · split at h
                · split at h
                  · cases h
                  · rename_i m' M2 hy
                    split at h
                    · cases h
                    · rename_i h2
                      have h := Except.ok.inj h
                      rw [Prod.mk.injEq] at h
                      obtain ⟨rfl, -⟩ := h
                      exact Chs.one (utfB_ch (by omega) (by omega))
                · cases h
              · cases h
            · cases h
              exact Chs.one (utfB_ch (by omega) (by omega))
      · cases h
theorem textGo_chs : ∀ (f : Nat) (acc L t M : Bs), textGo f acc L = .ok (t, M) → Chs acc → Chs t
  | 0, _, _, _, _, h, _ => by cases h
  | _ + 1, _, [], _, _, h, _ => by cases h
  | f + 1, acc, c :: L, t, M, h, ha => by
    rw [textGo] at h
    split at h
    · cases h; exact ha
    split at h
    · split at h
      · cases h
      · rename_i m M' he
        exact textGo_chs f _ _ _ _ h (ha.app (esc_chs he))
    split at h
    · cases h
    · rename_i hc
      exact textGo_chs f _ _ _ _ h (ha.app (Chs.one (isCh_take (by omega))))
theorem textP_valid {L t M : Bs} (h : textP L = .ok (t, M)) : validT t = true := by
  cases L with
  | nil => cases h
  | cons c L =>
    rw [textP_cons] at h
    split at h
    · exact (textGo_chs _ _ _ _ _ h .nil).valid
    · cases h
theorem textGo_less : ∀ (f : Nat) (acc L t M : Bs), textGo f acc L = .ok (t, M) → M.length < L.length
  | 0, _, _, _, _, h => by cases h
  | _ + 1, _, [], _, _, h => by cases h
  | f + 1, acc, c :: L, t, M, h => by
    rw [textGo] at h
    split at h
    · cases h; simp
    split at h
    · split at h
      · cases h
      · rename_i m M' he
        have := esc_less he
        have := textGo_less f _ _ _ _ h
        simp; omega
    split at h
    · cases h
    · have := textGo_less f _ _ _ _ h
      rw [List.length_drop] at this
      omega
theorem textP_less {L t M : Bs} (h : textP L = .ok (t, M)) : M.length < L.length := by
  cases L with
  | nil => cases h
  | cons c L =>
    rw [textP_cons] at h
    split at h
    · have := textGo_less _ _ _ _ _ h
      simp; omega
    · cases h

/-! ### numbers -/
def NumEnd (L : Bs) : Prop := ∀ c r, L = c :: r → isDig c = false ∧ c ≠ 46 ∧ c ≠ 101 ∧ c ≠ 69
theorem isDig_iff (c : UInt8) : isDig c = true ↔ 48 ≤ c.toNat ∧ c.toNat ≤ 57 := by
  have key : ∀ x : Fin 256, (isDig (UInt8.ofNat x.val) = true ↔ 48 ≤ x.val ∧ x.val ≤ 57) := by decide +kernel
  have := key ⟨c.toNat, c.toNat_lt⟩
  simpa using this
theorem take_digits {d rest : Bs} (h : ∀ c ∈ d, isDig c = true) (hr : ∀ c r, rest = c :: r → isDig c = false) : (d ++ rest).takeWhile isDig = d ∧ (d ++ rest).dropWhile isDig = rest := by
  induction d with
  | nil =>
    cases rest with
    | nil => exact ⟨rfl, rfl⟩
    | cons c r =>
      have := hr c r rfl
      exact ⟨by rw [List.nil_append, List.takeWhile_cons, this]; rfl, by rw [List.nil_append, List.dropWhile_cons, this]; rfl⟩
  | cons a d ih =>
    have ha := h a (by simp)
    obtain ⟨h1, h2⟩ := ih (fun c hc => h c (by simp [hc]))
    refine ⟨?_, ?_⟩
    · rw [List.cons_append, List.takeWhile_cons, ha, if_pos rfl, h1]
    · rw [List.cons_append, List.dropWhile_cons, ha, if_pos rfl, h2]
theorem decV_snoc (l : Bs) (c : UInt8) : decV (l ++ [c]) = decV l * 10 + ((c.toNat : Int) - 48) := by
  unfold decV; rw [List.foldl_append]; rfl
theorem natT_dec : ∀ (f n : Nat), n < f → decV (natT f n) = n ∧ (∀ c ∈ natT f n, isDig c = true) ∧ natT f n ≠ []
  | 0, n, h => by omega
  | f + 1, n, h => by
    unfold natT
    by_cases hn : n < 10
    · rw [if_pos hn]
      have e : (UInt8.ofNat (48 + n)).toNat = 48 + n := ofNat_toNat (by omega)
      refine ⟨?_, ?_, by simp⟩
      · show (0 : Int) * 10 + (((UInt8.ofNat (48 + n)).toNat : Int) - 48) = n
        rw [e]; omega
      · intro c hc
        rw [List.mem_singleton.1 hc, isDig_iff, e]
        omega
    · rw [if_neg hn]
      obtain ⟨h1, h2, h3⟩ := natT_dec f (n / 10) (by omega)
      have e : (UInt8.ofNat (48 + n % 10)).toNat = 48 + n % 10 := ofNat_toNat (by omega)
      refine ⟨?_, ?_, by simp⟩
      · rw [decV_snoc, h1, e]; omega
      · intro c hc
        rw [List.mem_append] at hc
        rcases hc with hc | hc
        · exact h2 c hc
        · rw [List.mem_singleton.1 hc, isDig_iff, e]
          omega
theorem natT_len : ∀ (k f n : Nat), n < f → n < 10 ^ (k + 1) → (natT f n).length ≤ k + 1
  | k, 0, n, h, _ => by omega
  | k, f + 1, n, h, hk => by
    unfold natT
    by_cases hn : n < 10
    · rw [if_pos hn]; simp
    · rw [if_neg hn]
      cases k with
      | zero => simp at hk; omega
      | succ k =>
        have := natT_len k f (n / 10) (by omega) (by rw [Nat.pow_succ] at hk; omega)
        simp; omega
theorem natT_head : ∀ (f n : Nat), n < f → 0 < n → ∃ c r, natT f n = c :: r ∧ c ≠ 48
  | 0, n, h, _ => by omega
  | f + 1, n, h, h0 => by
    unfold natT
    by_cases hn : n < 10
    · rw [if_pos hn]
      refine ⟨_, _, rfl, fun e => ?_⟩
      have := congrArg UInt8.toNat e
      rw [ofNat_toNat (by omega)] at this
      have h48 : (48 : UInt8).toNat = 48 := rfl
      omega
    · rw [if_neg hn]
      obtain ⟨c, r, h1, h2⟩ := natT_head f (n / 10) (by omega) (by omega)
      exact ⟨c, r ++ [UInt8.ofNat (48 + n % 10)], by rw [h1]; rfl, h2⟩
theorem numTail_end (neg : Bool) (wh rest : Bs) (hr : NumEnd rest) (hl : wh.length ≤ 15) : numTail neg wh rest = .ok (if neg then - decV wh else decV wh, rest) := by
  have h1 : fracP rest = .ok (false, rest) := by
    cases rest with
    | nil => rfl
    | cons c r =>
      obtain ⟨-, h, -⟩ := hr c r rfl
      show (if c == 46 then _ else _) = _
      rw [if_neg (by simpa using h)]
  have h2 : expP rest = .ok (false, rest) := by
    cases rest with
    | nil => rfl
    | cons c r =>
      obtain ⟨-, -, h, h'⟩ := hr c r rfl
      show (if (c == 101 || c == 69) then _ else _) = _
      rw [if_neg (by simp [h, h'])]
  unfold numTail
  rw [h1]
  dsimp only
  rw [h2]
  dsimp only
  rw [if_neg (by simp; omega)]
theorem whole_nat (n : Nat) (hn : n < 1000000000000000) (rest : Bs) (hr : NumEnd rest) : ∃ wh, wholeP (natT (n + 1) n ++ rest) = .ok (wh, rest) ∧ decV wh = n ∧ wh.length ≤ 15 := by
  obtain ⟨h1, h2, h3⟩ := natT_dec (n + 1) n (Nat.lt_succ_self n)
  have hl := natT_len 14 (n + 1) n (Nat.lt_succ_self n) (by omega)
  by_cases h0 : n = 0
  · subst h0
    exact ⟨[48], rfl, rfl, by simp⟩
  · obtain ⟨c, r, e1, e2⟩ := natT_head (n + 1) n (Nat.lt_succ_self n) (by omega)
    obtain ⟨k1, k2⟩ := take_digits h2 (fun c r e => (hr c r e).1)
    refine ⟨natT (n + 1) n, ?_, h1, hl⟩
    have e : wholeP (natT (n + 1) n ++ rest) = digitsP (natT (n + 1) n ++ rest) := by
      rw [e1]
      show (if c == 48 then _ else _) = _
      rw [if_neg (by simpa using e2)]
      rfl
    rw [e]
    unfold digitsP
    rw [k1, k2, if_neg (by simpa using h3)]
theorem numP_int (n : Int) (h1 : n < 1000000000000000) (h2 : -1000000000000000 < n) (rest : Bs) (hr : NumEnd rest) : numP (intT n ++ rest) = .ok (n, rest) := by
  unfold intT numP
  obtain ⟨wh, k1, k2, k3⟩ := whole_nat n.natAbs (by omega) rest hr
  by_cases h : n < 0
  · rw [if_pos h]
    show (match wholeP (natT (n.natAbs + 1) n.natAbs ++ rest) with | .error e => Except.error e | .ok (wh, L2) => numTail true wh L2) = _
    rw [k1]
    show numTail true wh rest = _
    rw [numTail_end _ _ _ hr k3, k2]
    show Except.ok (- (n.natAbs : Int), rest) = _
    congr 2
    omega
  · rw [if_neg h]
    obtain ⟨-, hd, hne⟩ := natT_dec (n.natAbs + 1) n.natAbs (Nat.lt_succ_self _)
    have hneg : negP (natT (n.natAbs + 1) n.natAbs ++ rest) = (false, natT (n.natAbs + 1) n.natAbs ++ rest) := by
      cases hq : natT (n.natAbs + 1) n.natAbs with
      | nil => exact absurd hq hne
      | cons c r =>
        have hc := hd c (by rw [hq]; simp)
        rw [isDig_iff] at hc
        refine if_neg (fun e => ?_)
        have e : c = 45 := by simpa using e
        subst e
        exact absurd hc (by decide)
    rw [hneg]
    show (match wholeP (natT (n.natAbs + 1) n.natAbs ++ rest) with | .error e => Except.error e | .ok (wh, L2) => numTail false wh L2) = _
    rw [k1]
    show numTail false wh rest = _
    rw [numTail_end _ _ _ hr k3, k2]
    show Except.ok ((n.natAbs : Int), rest) = _
    congr 2
    omega
theorem decV_bound : ∀ (n : Nat) (l : Bs), l.length = n → (∀ c ∈ l, isDig c = true) → 0 ≤ decV l ∧ decV l < 10 ^ n
  | 0, l, hl, _ => by
    obtain rfl : l = [] := List.eq_nil_of_length_eq_zero hl
    exact ⟨by decide, by decide⟩
  | n + 1, l, hl, h => by
    have hne : l ≠ [] := by intro e; rw [e] at hl; simp at hl
    have e := List.dropLast_concat_getLast hne
    obtain ⟨h1, h2⟩ := decV_bound n l.dropLast (by simp [hl]) (fun c hc => h c ((List.dropLast_sublist l).subset hc))
    have hc := h _ (List.getLast_mem hne)
    rw [isDig_iff] at hc
    rw [← e, decV_snoc, Int.pow_succ]
    omega
end Go.Proofs.YtminegmjklehnaaGreatDoor.J

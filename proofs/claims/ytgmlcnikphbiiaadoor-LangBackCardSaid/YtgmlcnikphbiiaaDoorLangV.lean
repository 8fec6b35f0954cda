/-
  Brackets around an expression: the plain law.
-/
import Derived.Test.YtgmlcnikphbiiaaDoorLangU
namespace Go.Proofs.YtgmlcnikphbiiaaDoor.L
open Go.RowKit Go.Proofs.YtgmlcnikphbiiaaDoor.B Go.Proofs.YtgmlcnikphbiiaaDoor.S10 Go.Proofs.YtgmlcnikphbiiaaDoor.Nm
set_option linter.unusedVariables false
set_option linter.unusedSimpArgs false

/-! ### tokens of a text that is put together -/
theorem takeWhile_app {p : UInt8 → Bool} : ∀ (wd : Bs) (l : Bs), (∀ c ∈ wd, p c = true) → (∀ c r, l = c :: r → p c = false) → (wd ++ l).takeWhile p = wd
  | [], [], _, _ => rfl
  | [], c :: l, _, h => by rw [List.nil_append, List.takeWhile_cons, h c l rfl]; rfl
  | c :: wd, l, h1, h2 => by
    rw [List.cons_append, List.takeWhile_cons, h1 c (by simp), if_pos rfl, takeWhile_app wd l (fun x hx => h1 x (by simp [hx])) h2]
theorem low_space {c : UInt8} (h : lowC c = true) : spaceC c = false := by
  unfold lowC at h
  simp at h
  unfold spaceC
  simp
  refine ⟨fun e => ?_, fun e => ?_, fun e => ?_⟩ <;> (subst e; simp at h)
/-- a word at the head. -/
theorem tokens_word (c : UInt8) (wd l : Bs) (line col : Int) (hc : lowC c = true) (h1 : ∀ x ∈ wd, wc x = true) (h2 : ∀ x r, l = x :: r → wc x = false) :
    tokens (c :: wd ++ l) line col = ⟨c :: wd, line, col⟩ :: tokens l line (col + (c :: wd).length) := by
  have hw : wordN (c :: (wd ++ l)) = (c :: wd).length := by
    rw [wordN_cons, hc, if_pos rfl]
    have := takeWhile_app (p := wc) (c :: wd) l (fun x hx => by
      rcases List.mem_cons.1 hx with rfl | hx
      · exact wc_low hc
      · exact h1 x hx) h2
    rw [List.cons_append] at this
    rw [this]
  have ht : tokN (c :: (wd ++ l)) = (c :: wd).length := by
    show (if 0 < wordN (c :: (wd ++ l)) then wordN (c :: (wd ++ l)) else if signC c then 1 else 0) = _
    rw [hw, if_pos (by simp)]
  rw [List.cons_append, tokens_tok c _ _ _ (low_space hc), ht, if_neg (by simp)]
  have e1 : (c :: (wd ++ l)).take (c :: wd).length = c :: wd := by rw [← List.cons_append, List.take_left']; rfl
  have e2 : (c :: (wd ++ l)).drop (c :: wd).length = l := by rw [← List.cons_append, List.drop_left']; rfl
  rw [e1, e2]
theorem tokens_sign (c : UInt8) (l : Bs) (line col : Int) (hs : signC c = true) (hl : lowC c = false) (hp : spaceC c = false) : tokens (c :: l) line col = ⟨[c], line, col⟩ :: tokens l line (col + 1) := by
  have hw : wordN (c :: l) = 0 := by rw [wordN_cons, hl]; rfl
  have ht : tokN (c :: l) = 1 := by rw [tokN_sign hw, if_pos hs]
  rw [tokens_tok c _ _ _ hp, ht, if_neg (by simp)]
  rfl
theorem tokens_sp (l : Bs) (line col : Int) : tokens (32 :: l) line col = tokens l line (col + 1) := tokens_space 32 l line col rfl rfl

/-! ### a bracket behind a text -/
inductive Sim : List Tk → List Tk → Prop
  | fin (e t t' : Tk) : e.s = [] → t.s = [41] → t'.s = [] → Sim [e] [t, t']
  | bad (e t : Tk) : e.s = [63] → t.s = [63] → Sim [e] [t]
  | cons (t t' : Tk) (l l' : List Tk) : t.s = t'.s → t.s ≠ [] → t.s ≠ [63] → Sim l l' → Sim (t :: l) (t' :: l')
theorem wordN_bracket (l : Bs) : wordN (l ++ [41]) = wordN l := by
  cases l with
  | nil => rfl
  | cons c l =>
    rw [List.cons_append, wordN_cons, wordN_cons]
    split
    · have : ∀ l : Bs, (l ++ [41]).takeWhile wc = l.takeWhile wc := by
        intro l
        induction l with
        | nil => rfl
        | cons d l ih =>
          rw [List.cons_append, List.takeWhile_cons, List.takeWhile_cons, ih]
      have h := this (c :: l)
      rw [List.cons_append] at h
      rw [h]
    · rfl
theorem tokN_bracket (c : UInt8) (l : Bs) : tokN (c :: (l ++ [41])) = tokN (c :: l) := by
  have h := wordN_bracket (c :: l)
  rw [List.cons_append] at h
  show (if 0 < wordN (c :: (l ++ [41])) then wordN (c :: (l ++ [41])) else if signC c then 1 else 0) = (if 0 < wordN (c :: l) then wordN (c :: l) else if signC c then 1 else 0)
  rw [h]
theorem sim_tokens : ∀ (n : Nat) (l : Bs) (line col line' col' : Int), l.length ≤ n → Sim (tokens l line col) (tokens (l ++ [41]) line' col')
  | n, [], line, col, line', col', h => by
    rw [tokens_nil, List.nil_append, tokens_sign 41 [] _ _ rfl rfl rfl, tokens_nil]
    exact .fin _ _ _ rfl rfl rfl
  | 0, c :: l, _, _, _, _, h => by simp at h
  | n + 1, c :: l, line, col, line', col', h => by
    have hl : l.length ≤ n := by simpa using h
    by_cases h10 : c = 10
    · subst h10
      rw [List.cons_append, tokens_nl, tokens_nl]
      exact sim_tokens n l _ _ _ _ hl
    have h10' : (c == 10) = false := by simpa using h10
    cases hs : spaceC c with
    | true =>
      rw [List.cons_append, tokens_space c l _ _ hs h10', tokens_space c _ _ _ hs h10']
      exact sim_tokens n l _ _ _ _ hl
    | false =>
      rw [List.cons_append, tokens_tok c l _ _ hs, tokens_tok c _ _ _ hs, tokN_bracket]
      have hn := tokN_le (c :: l)
      split
      · exact .bad _ _ rfl rfl
      · rename_i h0
        have e1 : (c :: (l ++ [41])).take (tokN (c :: l)) = (c :: l).take (tokN (c :: l)) := by
          rw [← List.cons_append, List.take_append_of_le_length hn]
        have e2 : (c :: (l ++ [41])).drop (tokN (c :: l)) = (c :: l).drop (tokN (c :: l)) ++ [41] := by
          rw [← List.cons_append, List.drop_append_of_le_length hn]
        rw [e1, e2]
        have hq := not_q (c := c) (r := l) rfl (Nat.pos_of_ne_zero h0)
        refine .cons _ _ _ _ rfl hq.1 hq.2 (sim_tokens n _ _ _ _ _ ?_)
        rw [List.length_drop]
        simp at h hn ⊢
        omega

/-! ### the parser on both -/
def Good {α : Type} (p p' : P α) : Prop := ∀ L L', Sim L L' → ∀ a l, p L = .ok (a, l) → (∃ l', p' L' = .ok (a, l') ∧ Sim l l') ∨ (∃ dg, p' L' = .error dg ∧ dg.e = 9)
theorem good_name : Good nameS nameS := by
  intro L L' hs a l h
  cases hs with
  | fin e t t' h1 h2 h3 => unfold nameS at h; dsimp only at h; rw [h1, nm_nil] at h; cases h
  | bad e t h1 h2 => unfold nameS at h; dsimp only at h; rw [h1, nm_q] at h; cases h
  | cons t t' r r' h1 h2 h3 h4 =>
    unfold nameS at h
    dsimp only at h
    split at h
    · rename_i hn
      cases h
      refine .inl ⟨r', ?_, h4⟩
      unfold nameS
      dsimp only
      rw [← h1, if_pos hn]
    · cases h
theorem sim_has {s : Bs} (h0 : s ≠ []) (h1 : s ≠ [63]) (h2 : s ≠ [41]) {L L' : List Tk} (h : Sim L L') : (hasS s L).1 = (hasS s L').1 ∧ Sim (hasS s L).2 (hasS s L').2 := by
  cases h with
  | fin e t t' e1 e2 e3 =>
    have a1 : (e.s == s) = false := by rw [e1]; simpa using fun e => h0 e
    have a2 : (t.s == s) = false := by rw [e2]; simp; exact fun e => h2 e.symm
    rw [hasS_cons, hasS_cons, a1, a2]
    exact ⟨rfl, .fin _ _ _ e1 e2 e3⟩
  | bad e t e1 e2 =>
    have a1 : (e.s == s) = false := by rw [e1]; simp; exact fun e => h1 e.symm
    have a2 : (t.s == s) = false := by rw [e2]; simp; exact fun e => h1 e.symm
    rw [hasS_cons, hasS_cons, a1, a2]
    exact ⟨rfl, .bad _ _ e1 e2⟩
  | cons t t' r r' e1 e2 e3 e4 =>
    rw [hasS_cons, hasS_cons, ← e1]
    split
    · exact ⟨rfl, e4⟩
    · exact ⟨rfl, .cons _ _ _ _ e1 e2 e3 e4⟩
theorem good_close : Good (mustS [41]) (mustS [41]) := by
  intro L L' hs a l h
  cases hs with
  | fin e t t' h1 h2 h3 => unfold mustS at h; rw [hasS_cons, h1] at h; cases h
  | bad e t h1 h2 => unfold mustS at h; rw [hasS_cons, h1] at h; cases h
  | cons t t' r r' h1 h2 h3 h4 =>
    unfold mustS at h
    rw [hasS_cons] at h
    cases hc : t.s == [41] with
    | true =>
      rw [hc, if_pos rfl, if_pos rfl] at h
      cases h
      refine .inl ⟨r', ?_, h4⟩
      unfold mustS
      rw [hasS_cons, ← h1, if_pos hc]
      rfl
    | false =>
      rw [hc] at h
      cases h
theorem good_nameAtom : Good nameAtom nameAtom := by
  intro L L' hs a l h
  unfold nameAtom at h
  split at h
  · cases h
  · rename_i s r hn
    rcases good_name L L' hs s r hn with ⟨r', hn', hs'⟩ | ⟨dg, hn', he⟩
    · obtain ⟨hb, hs2⟩ := sim_has (s := [46]) (by simp) (by simp) (by simp) hs'
      split at h
      · rename_i hd
        split at h
        · cases h
        · rename_i o r2 hn2
          cases h
          rcases good_name _ _ hs2 o l hn2 with ⟨r3, hn3, hs3⟩ | ⟨dg, hn3, he⟩
          · exact .inl ⟨r3, nameAtom_arr hn' (hb ▸ hd) hn3, hs3⟩
          · exact .inr ⟨dg, nameAtom_err2 hn' (hb ▸ hd) hn3, he⟩
      · rename_i hd
        cases h
        exact .inl ⟨_, nameAtom_rel hn' (by rw [← hb]; simpa using hd), hs2⟩
    · exact .inr ⟨dg, nameAtom_err hn', he⟩
theorem good_inAtom {p p' : P Ex} (hp : Good p p') : Good (inAtom p) (inAtom p') := by
  intro L L' hs a l h
  unfold inAtom at h
  split at h
  · cases h
  · rename_i e r he
    rcases hp L L' hs e r he with ⟨r', h1, h2⟩ | ⟨dg, h1, h2⟩
    · split at h
      · cases h
      · rename_i u r2 hm
        cases h
        rcases good_close _ _ h2 () l hm with ⟨r3, h3, h4⟩ | ⟨dg, h3, h4⟩
        · exact .inl ⟨r3, inAtom_ok h1 h3, h4⟩
        · exact .inr ⟨dg, inAtom_err2 h1 h3, h4⟩
    · exact .inr ⟨dg, inAtom_err h1, h2⟩
theorem good_atom {i i' : Option (P Ex)} (hi : ∀ p', i' = some p' → ∃ p, i = some p ∧ Good p p') : Good (atomF i) (atomF i') := by
  intro L L' hs a l h
  obtain ⟨hb, hs2⟩ := sim_has (s := [40]) (by simp) (by simp) (by simp) hs
  cases hd : (hasS [40] L).1 with
  | false =>
    rw [atomF_name hd] at h
    rw [hd] at hb
    rw [atomF_name hb.symm]
    exact good_nameAtom _ _ hs2 a l h
  | true =>
    rw [hd] at hb
    cases i' with
    | none =>
      rw [atomF_deep hb.symm]
      refine .inr ?_
      cases L' with
      | nil => cases hs
      | cons t r => exact ⟨_, rfl, rfl⟩
    | some p' =>
      obtain ⟨p, rfl, hp⟩ := hi p' rfl
      rw [atomF_in hd] at h
      rw [atomF_in hb.symm]
      exact good_inAtom hp _ _ hs2 a l h
theorem sim_sign {S : Bs} (hS : S.any (fun c => ([41] : Bs) == [c]) = false) (hq : S.any (fun c => ([63] : Bs) == [c]) = false) {t t' : Tk} {l l' : List Tk} (h : Sim (t :: l) (t' :: l')) : S.any (fun c => t.s == [c]) = S.any (fun c => t'.s == [c]) := by
  have hn : S.any (fun c => ([] : Bs) == [c]) = false := by rw [List.any_eq_false]; intro c _; simp
  cases h with
  | fin e t t' e1 e2 e3 => rw [e1, e2, hn, hS]
  | bad e t e1 e2 => rw [e1, e2]
  | cons t t' r r' e1 e2 e3 e4 => rw [e1]
theorem good_chainGo {S : Bs} {K : Bs → Int} {one one' : P Ex} (hS : S.any (fun c => ([41] : Bs) == [c]) = false) (hq : S.any (fun c => ([63] : Bs) == [c]) = false) (h1 : Good one one') (hl : Less one) (hl' : Less one') :
    ∀ (f f' : Nat) (a : Ex) (L L' : List Tk), L.length ≤ f → L'.length ≤ f' → Sim L L' → ∀ b l, chainGo S K one f a L = .ok (b, l) → (∃ l', chainGo S K one' f' a L' = .ok (b, l') ∧ Sim l l') ∨ (∃ dg, chainGo S K one' f' a L' = .error dg ∧ dg.e = 9)
  | f, f', a, [], L', hf, hf', hs, b, l, h => by cases hs
  | f, f', a, t :: r, [], hf, hf', hs, b, l, h => by cases hs
  | 0, f', a, t :: r, t' :: r', hf, hf', hs, b, l, h => by simp at hf
  | f + 1, 0, a, t :: r, t' :: r', hf, hf', hs, b, l, h => by simp at hf'
  | f + 1, f' + 1, a, t :: r, t' :: r', hf, hf', hs, b, l, h => by
    have hsg := sim_sign hS hq hs
    simp at hf hf'
    cases hc : S.any (fun c => t.s == [c]) with
    | false =>
      rw [hc] at hsg
      have e1 : chainGo S K one (f + 1) a (t :: r) = .ok (a, t :: r) := by unfold chainGo; rw [if_neg (by rw [hc]; simp)]
      have e2 : chainGo S K one' (f' + 1) a (t' :: r') = .ok (a, t' :: r') := by unfold chainGo; rw [if_neg (by rw [← hsg]; simp)]
      rw [e1] at h
      cases h
      exact .inl ⟨_, e2, hs⟩
    | true =>
      rw [hc] at hsg
      rw [chainGo_cons f hc] at h
      rw [chainGo_cons f' hsg.symm]
      have hs2 : Sim r r' ∧ t.s = t'.s := by
        cases hs with
        | fin e t t' e1 e2 e3 => rw [e1, show S.any (fun c => ([] : Bs) == [c]) = false by rw [List.any_eq_false]; intro c _; simp] at hc; cases hc
        | bad e t e1 e2 => rw [e1, hq] at hc; cases hc
        | cons t t' r r' e1 e2 e3 e4 => exact ⟨e4, e1⟩
      split at h
      · cases h
      · rename_i x r2 hx
        have hlr := hl _ _ _ hx
        split at h
        · cases h
        · rename_i hh
          rcases h1 _ _ hs2.1 x r2 hx with ⟨r3, h3, h4⟩ | ⟨dg, h3, h4⟩
          · have hlr' := hl' _ _ _ h3
            rw [h3, ← hs2.2]
            dsimp only
            rw [if_neg hh]
            exact good_chainGo hS hq h1 hl hl' f f' _ r2 r3 (by omega) (by omega) h4 b l h
          · rw [h3]
            exact .inr ⟨dg, rfl, h4⟩
theorem good_chain {S : Bs} {K : Bs → Int} {one one' : P Ex} (hS : S.any (fun c => ([41] : Bs) == [c]) = false) (hq : S.any (fun c => ([63] : Bs) == [c]) = false) (h1 : Good one one') (hl : Less one) (hl' : Less one') : Good (chainS S K one) (chainS S K one') := by
  intro L L' hs b l h
  unfold chainS at h
  split at h
  · cases h
  · rename_i a r ha
    rcases h1 L L' hs a r ha with ⟨r', h2, h3⟩ | ⟨dg, h2, h3⟩
    · rw [chainS_ok h2]
      exact good_chainGo hS hq h1 hl hl' _ _ a r r' (Nat.le_refl _) (Nat.le_refl _) h3 b l h
    · exact .inr ⟨dg, chainS_err h2, h3⟩
theorem good_expr : ∀ (d d' : Nat), d' ≤ d → Good (exprS d) (exprS d')
  | d, d', h => by
    have hi : ∀ p', innerS d' = some p' → ∃ p, innerS d = some p ∧ Good p p' := by
      intro p' hp
      cases d' with
      | zero => cases hp
      | succ d' =>
        cases hp
        cases d with
        | zero => omega
        | succ d => exact ⟨_, rfl, good_expr d d' (by omega)⟩
    rw [exprS_eq, exprS_eq]
    have hla := less_atom (less_inner d)
    have hla' := less_atom (less_inner d')
    exact good_chain rfl rfl (good_chain rfl rfl (good_atom hi) hla hla') (less_chain hla) (less_chain hla')
def hd : Bs := [116, 121, 112, 101, 32, 97, 32, 114, 101, 108, 97, 116, 105, 111, 110, 32, 98, 58, 32, 97, 32, 100, 101, 102, 105, 110, 101, 32, 99, 58, 32]
abbrev Hd (L : List Tk) : List Tk := ⟨[116, 121, 112, 101], 1, 1⟩ :: ⟨[97], 1, 6⟩ :: ⟨[114, 101, 108, 97, 116, 105, 111, 110], 1, 8⟩ :: ⟨[98], 1, 17⟩ :: ⟨[58], 1, 18⟩ :: ⟨[97], 1, 20⟩ :: ⟨[100, 101, 102, 105, 110, 101], 1, 22⟩ :: ⟨[99], 1, 29⟩ :: ⟨[58], 1, 30⟩ :: L
theorem tokens_hd (l : Bs) : tokens (hd ++ l) 1 1 = Hd (tokens l 1 32) := by
  show tokens (116 :: [121, 112, 101] ++ (32 :: (97 :: [] ++ (32 :: (114 :: [101, 108, 97, 116, 105, 111, 110] ++ (32 :: (98 :: [] ++ (58 :: (32 :: (97 :: [] ++ (32 :: (100 :: [101, 102, 105, 110, 101] ++ (32 :: (99 :: [] ++ (58 :: (32 :: l)))))))))))))))) 1 1 = _
  rw [tokens_word 116 [121, 112, 101] _ _ _ rfl (by decide) (by intro x r h; cases h; rfl), tokens_sp, tokens_word 97 [] _ _ _ rfl (by decide) (by intro x r h; cases h; rfl), tokens_sp, tokens_word 114 [101, 108, 97, 116, 105, 111, 110] _ _ _ rfl (by decide) (by intro x r h; cases h; rfl), tokens_sp, tokens_word 98 [] _ _ _ rfl (by decide) (by intro x r h; cases h; rfl), tokens_sign 58 _ _ _ rfl rfl rfl, tokens_sp, tokens_word 97 [] _ _ _ rfl (by decide) (by intro x r h; cases h; rfl), tokens_sp, tokens_word 100 [101, 102, 105, 110, 101] _ _ _ rfl (by decide) (by intro x r h; cases h; rfl), tokens_sp, tokens_word 99 [] _ _ _ rfl (by decide) (by intro x r h; cases h; rfl), tokens_sign 58 _ _ _ rfl rfl rfl, tokens_sp]
  rfl
theorem nm_a : nm [97] = true := by decide +kernel
theorem nm_b : nm [98] = true := by decide +kernel
theorem nm_c : nm [99] = true := by decide +kernel
theorem nameS_ok {t : Tk} {l : List Tk} (h : nm t.s = true) : nameS (t :: l) = .ok (t.s, l) := by
  show (if nm t.s then _ else _) = _
  rw [if_pos h]
theorem mustS_ok {s : Bs} {t : Tk} {l : List Tk} (h : (t.s == s) = true) : mustS s (t :: l) = .ok ((), l) := by unfold mustS; rw [hasS_cons, if_pos h]; rfl
theorem relS_rel {t : Tk} {l : List Tk} (h : (t.s == sRelation) = true) : relS (t :: l) = relHead true l := by rw [relS_cons, h]; rfl
theorem relS_def {t : Tk} {l : List Tk} (h1 : (t.s == sRelation) = false) (h : (t.s == sDefine) = true) : relS (t :: l) = relHead false l := by rw [relS_cons, h1, h]; rfl
abbrev rB : Rl := ⟨[98], [⟨[97], []⟩], leaf 0 [] []⟩
abbrev rC (ex : Ex) : Rl := ⟨[99], [], ex⟩
def fin3 (r : R (List Ty)) : R (List Ty) := match r with
  | .error d => .error d
  | .ok (ts, []) => failsL 8 []
  | .ok (ts, t :: l) => if t.s == [] then .ok (ts, t :: l) else t.fail 8
theorem schemaS_eq (L : List Tk) : schemaS L = fin3 (typesGo (L.length + 1) [] L) := rfl
theorem sch_hd (L : List Tk) : schemaS (Hd L) = (match exprS 12 L with
    | .error d => .error d
    | .ok (ex, l) => match relsOf (l.length + 1) [rB, rC ex] l with
      | .error d => .error d
      | .ok (rs, l) => fin3 (typesGo (l.length + 1) [⟨[97], rs⟩] l)) := by
  have h1 : relS (⟨[114, 101, 108, 97, 116, 105, 111, 110], 1, 8⟩ :: ⟨[98], 1, 17⟩ :: ⟨[58], 1, 18⟩ :: ⟨[97], 1, 20⟩ :: ⟨[100, 101, 102, 105, 110, 101], 1, 22⟩ :: ⟨[99], 1, 29⟩ :: ⟨[58], 1, 30⟩ :: L) = .ok (some rB, ⟨[100, 101, 102, 105, 110, 101], 1, 22⟩ :: ⟨[99], 1, 29⟩ :: ⟨[58], 1, 30⟩ :: L) := by
    rw [relS_rel rfl, relHead_ok (nameS_ok nm_b) (mustS_ok rfl)]
    unfold relTail
    rw [if_pos rfl]
    have hr : refsS (⟨[97], 1, 20⟩ :: ⟨[100, 101, 102, 105, 110, 101], 1, 22⟩ :: ⟨[99], 1, 29⟩ :: ⟨[58], 1, 30⟩ :: L) = .ok ([⟨[97], []⟩], ⟨[100, 101, 102, 105, 110, 101], 1, 22⟩ :: ⟨[99], 1, 29⟩ :: ⟨[58], 1, 30⟩ :: L) := by
      have := refsGo_end (f := (⟨[97], 1, 20⟩ :: ⟨[100, 101, 102, 105, 110, 101], 1, 22⟩ :: ⟨[99], 1, 29⟩ :: ⟨[58], 1, 30⟩ :: L).length) (acc := []) (refS_one (L := ⟨[97], 1, 20⟩ :: ⟨[100, 101, 102, 105, 110, 101], 1, 22⟩ :: ⟨[99], 1, 29⟩ :: ⟨[58], 1, 30⟩ :: L) (nameS_ok nm_a) rfl) rfl
      exact this
    rw [hr]
  have h2 : relS (⟨[100, 101, 102, 105, 110, 101], 1, 22⟩ :: ⟨[99], 1, 29⟩ :: ⟨[58], 1, 30⟩ :: L) = (match exprS 12 L with
    | .error d => .error d
    | .ok (ex, l) => .ok (some (rC ex), l)) := by
    rw [relS_def rfl rfl, relHead_ok (nameS_ok nm_c) (mustS_ok rfl)]
    unfold relTail
    rw [if_neg (by decide)]
    generalize exprS 12 L = q
    cases q <;> rfl
  rw [schemaS_eq, typesGo_in (f := (Hd L).length) (acc := []) (L := Hd L) (l := ⟨[114, 101, 108, 97, 116, 105, 111, 110], 1, 8⟩ :: ⟨[98], 1, 17⟩ :: ⟨[58], 1, 18⟩ :: ⟨[97], 1, 20⟩ :: ⟨[100, 101, 102, 105, 110, 101], 1, 22⟩ :: ⟨[99], 1, 29⟩ :: ⟨[58], 1, 30⟩ :: L) (s := [97]) rfl (nameS_ok (t := ⟨[97], 1, 6⟩) nm_a), relsOf_on (Nat.le_refl _) h1]
  cases he : exprS 12 L with
  | error d =>
    rw [he] at h2
    rw [relsOf_err h2]
    rfl
  | ok p =>
    obtain ⟨ex, l⟩ := p
    rw [he] at h2
    rw [relsOf_on (Nat.le_refl _) h2]
    show fin3 (match relsOf (l.length + 1) [rB, rC ex] l with
      | .error d => .error d
      | .ok (rs, l) => typesGo _ ([] ++ [⟨[97], rs⟩]) l) = _
    dsimp only
    have hle := less_expr 12 _ _ _ he
    cases hr : relsOf (l.length + 1) [rB, rC ex] l with
    | error d => rfl
    | ok p =>
      obtain ⟨rs, l2⟩ := p
      have hl2 := relsOf_less _ _ _ _ _ hr
      show fin3 (typesGo _ [⟨[97], rs⟩] l2) = _
      rw [typesGo_fuel _ (l2.length + 1) _ _ ?_ (Nat.lt_succ_self _)]
      simp
      omega
theorem relS_none {L l : List Tk} (h : relS L = .ok (none, l)) : l = L := by
  cases L with
  | nil => cases h; rfl
  | cons t r =>
    rw [relS_cons] at h
    split at h
    · unfold relHead at h
      split at h
      · cases h
      · split at h
        · cases h
        · unfold relTail at h
          split at h
          · split at h <;> cases h
          · split at h <;> cases h
    · cases h; rfl
theorem relsOf_acc : ∀ (f : Nat) (acc : List Rl) (L : List Tk) (rs : List Rl) (l : List Tk), relsOf f acc L = .ok (rs, l) → ∃ m, rs = acc ++ m ∧ (m = [] → l = L)
  | 0, acc, L, rs, l, h => by unfold relsOf failsL at h; split at h <;> cases h
  | f + 1, acc, L, rs, l, h => by
    rw [relsOf] at h
    split at h
    · cases h
    · rename_i r hx
      cases h
      exact ⟨[], by simp, fun _ => relS_none hx⟩
    · rename_i x r hx
      obtain ⟨m, h1, h2⟩ := relsOf_acc f _ _ _ _ h
      exact ⟨x :: m, by rw [h1]; simp, fun e => by cases e⟩
theorem typesGo_acc : ∀ (f : Nat) (acc : List Ty) (L : List Tk) (ts : List Ty) (l : List Tk), typesGo f acc L = .ok (ts, l) → ∃ m, ts = acc ++ m ∧ (m = [] → l = L)
  | 0, acc, L, ts, l, h => by unfold typesGo failsL at h; split at h <;> cases h
  | f + 1, acc, L, ts, l, h => by
    rw [typesGo] at h
    split at h
    · split at h
      · cases h
      · split at h
        · cases h
        · obtain ⟨m, h1, h2⟩ := typesGo_acc f _ _ _ _ h
          exact ⟨_ :: m, by rw [h1]; simp; rfl, fun e => by cases e⟩
    · rename_i hb
      cases h
      refine ⟨[], by simp, fun _ => ?_⟩
      cases L with
      | nil => rfl
      | cons t r =>
        rw [hasS_cons] at hb ⊢
        split at hb
        · exact absurd rfl hb
        · rename_i hc; rw [if_neg hc]
theorem sch_of_ok {L : List Tk} {ts : List Ty} {l : List Tk} (h : schemaS (Hd L) = .ok (ts, l)) (h1 : ts.length = 1) (h2 : (tyAt ts 0).rels.length = 2) : ∃ ex e r, exprS 12 L = .ok (ex, e :: r) ∧ e.s = [] ∧ ts = [⟨[97], [rB, rC ex]⟩] := by
  rw [sch_hd] at h
  split at h
  · cases h
  · rename_i ex l0 he
    split at h
    · cases h
    · rename_i rs l1 hr
      obtain ⟨m, rfl, hm⟩ := relsOf_acc _ _ _ _ _ hr
      unfold fin3 at h
      split at h
      · cases h
      · cases h
      · rename_i ts' t l2 ht
        split at h
        · rename_i hte
          cases h
          obtain ⟨m2, rfl, hm2⟩ := typesGo_acc _ _ _ _ _ ht
          simp at h1
          subst h1
          simp [tyAt] at h2
          subst h2
          have e1 := hm rfl
          have e2 := hm2 rfl
          subst e1
          refine ⟨ex, t, l2, ?_, eq_of_beq hte, by simp⟩
          rw [he, ← e2]
        · cases h
theorem sch_make {L : List Tk} {ex : Ex} {e : Tk} {r : List Tk} (h : exprS 12 L = .ok (ex, e :: r)) (he : e.s = []) : schemaS (Hd L) = .ok ([⟨[97], [rB, rC ex]⟩], e :: r) := by
  rw [sch_hd, h]
  dsimp only
  have hr : relS (e :: r) = .ok (none, e :: r) := by rw [relS_cons, he]; rfl
  rw [relsOf_end hr]
  dsimp only
  have hE : hasS sType (e :: r) = (false, e :: r) := by rw [hasS_cons, he]; rfl
  rw [typesGo_end (by rw [hE]), hE]
  show (if e.s == [] then _ else _) = _
  rw [he]
  rfl
theorem sch_err {L : List Tk} {d : Dg} (h : exprS 12 L = .error d) : schemaS (Hd L) = .error d := by rw [sch_hd, h]
theorem brackets (text : Bs) (ts : List Ty) (hlen : text.length ≤ 1000) (h : parseP (hd ++ text) = .ok ts) (h1 : ts.length = 1) (h2 : (tyAt ts 0).rels.length = 2) :
    (∃ dg : Dg, parseP (hd ++ (40 :: (text ++ [41]))) = .error dg ∧ dg.e = 9) ∨ parseP (hd ++ (40 :: (text ++ [41]))) = .ok ts := by
  have hhd : hd.length = 31 := rfl
  have l1 : ¬ 4096 < (hd ++ text).length := by rw [List.length_append, hhd]; omega
  have l2 : ¬ 4096 < (hd ++ (40 :: (text ++ [41]))).length := by rw [List.length_append, hhd]; simp; omega
  unfold parseP at h ⊢
  rw [if_neg l1, tokens_hd] at h
  rw [if_neg l2, tokens_hd, tokens_sign 40 _ _ _ rfl rfl rfl]
  split at h
  · cases h
  · rename_i ts' l hs
    cases h
    obtain ⟨ex, e, r, he, hes, rfl⟩ := sch_of_ok hs h1 h2
    have hsim := sim_tokens text.length text 1 32 1 (32 + 1) (Nat.le_refl _)
    have hatom : ∀ T', exprS 12 (⟨[40], 1, 32⟩ :: T') = chainS [43, 45] orK (termF (some (exprS 11))) (⟨[40], 1, 32⟩ :: T') := fun _ => rfl
    rcases good_expr 12 11 (by decide) _ _ hsim ex (e :: r) he with ⟨l', h3, h4⟩ | ⟨dg, h3, h4⟩
    · refine .inr ?_
      cases h4 with
      | cons t t' r r' e1 e2 e3 e4 => exact absurd hes e2
      | bad e t e1 e2 => rw [hes] at e1; cases e1
      | fin e t t' e1 e2 e3 =>
        have ha : atomF (some (exprS 11)) (⟨[40], 1, 32⟩ :: tokens (text ++ [41]) 1 (32 + 1)) = .ok (ex, [t']) := by
          rw [atomF_in rfl]
          exact inAtom_ok h3 (mustS_ok (by rw [e2]; rfl))
        have hc : ∀ (S : Bs) (K : Bs → Int) (one : P Ex) (f : Nat), chainGo S K one f ex [t'] = .ok (ex, [t']) := fun S K one f => by
          unfold chainGo
          rw [if_neg]
          rw [e3]; simp
        have hx : exprS 12 (⟨[40], 1, 32⟩ :: tokens (text ++ [41]) 1 (32 + 1)) = .ok (ex, [t']) := by
          rw [hatom, chainS_ok (a := ex) (l := [t']) (by unfold termF; rw [chainS_ok ha]; exact hc _ _ _ _)]
          exact hc _ _ _ _
        rw [sch_make hx e3]
    · refine .inl ⟨dg, ?_, h4⟩
      have ha : atomF (some (exprS 11)) (⟨[40], 1, 32⟩ :: tokens (text ++ [41]) 1 (32 + 1)) = .error dg := by
        rw [atomF_in rfl]
        exact inAtom_err h3
      have hx : exprS 12 (⟨[40], 1, 32⟩ :: tokens (text ++ [41]) 1 (32 + 1)) = .error dg := by
        rw [hatom, chainS_err (by unfold termF; rw [chainS_err ha])]
      rw [sch_err hx]
end Go.Proofs.YtgmlcnikphbiiaaDoor.L

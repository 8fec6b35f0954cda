/-
  What is printed is read again, in plain words.
-/
import Derived.Test.YtgmlcnikphbiiaaDoorLangPa
namespace Go.Proofs.YtgmlcnikphbiiaaDoor.L
open Go.RowKit Go.Proofs.YtgmlcnikphbiiaaDoor.B Go.Proofs.YtgmlcnikphbiiaaDoor.S10 Go.Proofs.YtgmlcnikphbiiaaDoor.Nm
set_option linter.unusedVariables false
set_option linter.unusedSimpArgs false

theorem normE_height : ∀ (m : Nat) (e : Ex), mayE e m = true → (normE e).height ≤ (m : Int)
  | 0, .mk k a b n kid, h => by rw [mayE_0] at h; cases h
  | m + 1, .mk k a b n kid, h => by
    rw [normE_eq]
    by_cases hk0 : k = 0
    · rw [if_pos hk0]
      show (1 : Int) ≤ _
      omega
    by_cases hk1 : k = 1
    · rw [if_neg hk0, if_pos hk1]
      show (1 : Int) ≤ _
      omega
    obtain ⟨hs, hn, h1, h2⟩ := mayE_op h hk0 hk1
    subst hn
    rw [if_neg hk0, if_neg hk1, dif_pos rfl, two_height]
    have := normE_height m _ h1
    have := normE_height m _ h2
    omega
/-- the head of a list is not one of these signs. -/
def NoHd (cs : List UInt8) (L : List Tk) : Prop := ∀ t l, L = t :: l → ∀ c ∈ cs, (t.s == [c]) = false
theorem NoHd.has {cs : List UInt8} {L : List Tk} (h : NoHd cs L) {c : UInt8} (hc : c ∈ cs) : hasS [c] L = (false, L) := by
  cases L with
  | nil => rfl
  | cons t l => rw [hasS_cons, h t l rfl c hc]; rfl
theorem NoHd.any {cs : List UInt8} {t : Tk} {l : List Tk} (h : NoHd cs (t :: l)) : cs.any (fun c => t.s == [c]) = false := by
  rw [List.any_eq_false]
  intro c hc
  rw [h t l rfl c hc]
  simp
theorem chainGo_stop {S : Bs} {K : Bs → Int} {one : P Ex} (f : Nat) (a : Ex) (L : List Tk) (h : NoHd S L) : chainGo S K one f a L = .ok (a, L) := by
  cases L with
  | nil => unfold chainGo; rfl
  | cons t l => unfold chainGo; rw [if_neg (by rw [h.any]; simp)]
theorem chainS_stop {S : Bs} {K : Bs → Int} {one : P Ex} {L l : List Tk} {a : Ex} (h1 : one L = .ok (a, l)) (h : NoHd S l) : chainS S K one L = .ok (a, l) := by
  unfold chainS
  rw [h1]
  exact chainGo_stop _ _ _ h
theorem chainS_two {S : Bs} {K : Bs → Int} {one : P Ex} {L l l' : List Tk} {t : Tk} {a b : Ex} (h1 : one L = .ok (a, t :: l)) (ht : S.any (fun c => t.s == [c]) = true) (h2 : one l = .ok (b, l')) (hh : ¬ (two (K t.s) a b).height > 12) (h : NoHd S l') : chainS S K one L = .ok (two (K t.s) a b, l') := by
  unfold chainS
  rw [h1]
  show chainGo S K one (l.length + 1) a (t :: l) = _
  unfold chainGo
  rw [if_pos ht]
  dsimp only
  rw [h2]
  dsimp only
  rw [if_neg hh]
  exact chainGo_stop _ _ _ h
theorem noHd_cons {cs : List UInt8} {t : Tk} {l : List Tk} (h : ∀ c ∈ cs, (t.s == [c]) = false) : NoHd cs (t :: l) := fun t' l' e c hc => by cases e; exact h c hc
theorem signs_any : ∀ (k : Int), (k = 2 ∨ k = 3 ∨ k = 4) → (k = 3 ∧ opW k = [38]) ∨ (orK (opW k) = k ∧ ([43, 45] : Bs).any (fun c => opW k == [c]) = true ∧ (opW k == [38]) = false)
  | k, h => by
    rcases h with rfl | rfl | rfl
    · exact .inr ⟨rfl, rfl, rfl⟩
    · exact .inl ⟨rfl, rfl⟩
    · exact .inr ⟨rfl, rfl, rfl⟩
theorem word_sign {a : Bs} (h : WordB a) {c : UInt8} (hc : lowC c = false) : (a == [c]) = false := by
  obtain ⟨x, wd, rfl, h1, -⟩ := h
  cases hq : (x :: wd) == [c] with
  | false => rfl
  | true =>
    have := eq_of_beq hq
    cases this
    rw [h1] at hc
    cases hc
theorem words_cons {L : List Tk} {a : Bs} {ws : List Bs} (h : L.map (·.s) = a :: ws) : ∃ t l, L = t :: l ∧ t.s = a ∧ l.map (·.s) = ws := by
  cases L with
  | nil => cases h
  | cons t l =>
    rw [List.map_cons] at h
    cases h
    exact ⟨t, l, rfl, rfl, rfl⟩
theorem words_app {L : List Tk} {us ws : List Bs} (h : L.map (·.s) = us ++ ws) : ∃ l1 l2, L = l1 ++ l2 ∧ l1.map (·.s) = us ∧ l2.map (·.s) = ws := by
  obtain ⟨l1, l2, h1, h2, h3⟩ := List.map_eq_append_iff.1 h
  exact ⟨l1, l2, h1, h2, h3⟩
theorem words_nil {L : List Tk} (h : L.map (·.s) = []) : L = [] := by
  cases L with
  | nil => rfl
  | cons t l => cases h
theorem nameS_w {t : Tk} {l : List Tk} {a : Bs} (ht : t.s = a) (h : nm a = true) : nameS (t :: l) = .ok (a, l) := by subst ht; exact nameS_ok h
theorem atom_name {inner : Option (P Ex)} {t : Tk} {l : List Tk} {a : Bs} (ht : t.s = a) (h : nm a = true) (hl : NoHd [46] l) : atomF inner (t :: l) = .ok (leaf 0 a [], l) := by
  have h0 : hasS [40] (t :: l) = (false, t :: l) := by rw [hasS_cons, ht, word_sign (nm_form h) rfl]; rfl
  unfold atomF
  rw [h0]
  show nameAtom (t :: l) = _
  unfold nameAtom
  rw [nameS_w ht h]
  dsimp only
  rw [hl.has (by simp)]
  rfl
theorem atom_arrow {inner : Option (P Ex)} {t u v : Tk} {l : List Tk} {a b : Bs} (ht : t.s = a) (hu : u.s = [46]) (hv : v.s = b) (h : nm a = true) (hb : nm b = true) : atomF inner (t :: u :: v :: l) = .ok (leaf 1 a b, l) := by
  have h0 : hasS [40] (t :: u :: v :: l) = (false, t :: u :: v :: l) := by rw [hasS_cons, ht, word_sign (nm_form h) rfl]; rfl
  have h1 : hasS [46] (u :: v :: l) = (true, v :: l) := by rw [hasS_cons, hu]; rfl
  unfold atomF
  rw [h0]
  show nameAtom (t :: u :: v :: l) = _
  unfold nameAtom
  rw [nameS_w ht h]
  dsimp only
  rw [h1]
  dsimp only
  rw [nameS_w hv hb]
  rfl
theorem atom_read : ∀ (m : Nat) (e : Ex), mayE e m = true → ∀ d, m ≤ d + 1 → m ≤ 12 → ∀ L L', L.map (·.s) = wordsE e → NoHd [46] L' → atomF (innerS d) (L ++ L') = .ok (normE e, L')
  | 0, .mk k a b n kid, h => by rw [mayE_0] at h; cases h
  | m + 1, .mk k a b n kid, h => by
    intro d hd hm L L' hL hL'
    rw [wordsE_eq] at hL
    rw [normE_eq]
    by_cases hk0 : k = 0
    · rw [mayE_s, if_pos hk0] at h
      rw [if_pos hk0] at hL ⊢
      simp only [Bool.and_eq_true] at h
      obtain ⟨t, l, rfl, ht, hl⟩ := words_cons hL
      rw [words_nil hl]
      exact atom_name ht h.1 hL'
    by_cases hk1 : k = 1
    · rw [mayE_s, if_neg hk0, if_pos hk1] at h
      rw [if_neg hk0, if_pos hk1] at hL ⊢
      simp only [Bool.and_eq_true] at h
      obtain ⟨t, l, rfl, ht, hl⟩ := words_cons hL
      obtain ⟨u, l, rfl, hu, hl⟩ := words_cons hl
      obtain ⟨v, l, rfl, hv, hl⟩ := words_cons hl
      rw [words_nil hl]
      exact atom_arrow ht hu hv h.1 h.2.1
    obtain ⟨hs, hn, h1, h2⟩ := mayE_op h hk0 hk1
    have hH := normE_height (m + 1) _ h
    rw [normE_eq] at hH
    subst hn
    rw [if_neg hk0, if_neg hk1, dif_pos rfl] at hL hH ⊢
    obtain ⟨hk, c, -, e2, -, -, -, -⟩ := sign_form hs
    obtain ⟨o, l, rfl, ho, hl⟩ := words_cons hL
    obtain ⟨l1, l, rfl, hl1, hl⟩ := words_app hl
    obtain ⟨p, l, rfl, hp, hl⟩ := words_cons hl
    obtain ⟨l2, l, rfl, hl2, hl⟩ := words_app hl
    obtain ⟨q, l, rfl, hq, hl⟩ := words_cons hl
    rw [words_nil hl]
    cases m with
    | zero => rw [show mayE (kid ⟨0, by omega⟩) 0 = false from by generalize kid ⟨0, by omega⟩ = z; cases z; rfl] at h1; cases h1
    | succ m =>
      cases d with
      | zero => omega
      | succ d =>
        have a1 := atom_read (m + 1) _ h1 d (by omega) (by omega) l1
        have a2 := atom_read (m + 1) _ h2 d (by omega) (by omega) l2
        have n41 : ∀ cs : List UInt8, (41 : UInt8) ∉ cs → NoHd cs (q :: L') := fun cs hcs => noHd_cons (fun x hx => by
          rw [hq]
          cases hb : ([41] : Bs) == [x] with
          | false => rfl
          | true =>
            have := eq_of_beq hb
            cases this
            exact absurd hx hcs)
        have t2 : termF (innerS d) (l2 ++ q :: L') = .ok (normE (kid ⟨1, by omega⟩), q :: L') := chainS_stop (a2 (q :: L') hl2 (n41 _ (by decide))) (n41 _ (by decide))
        have hex : exprS d (l1 ++ p :: (l2 ++ q :: L')) = .ok (two k (normE (kid ⟨0, by omega⟩)) (normE (kid ⟨1, by omega⟩)), q :: L') := by
          rw [exprS_eq]
          have hp46 : NoHd [46] (p :: (l2 ++ q :: L')) := noHd_cons (fun x hx => by
            rw [hp]
            rcases List.mem_singleton.1 hx with rfl
            rcases hk with rfl | rfl | rfl <;> rfl)
          have a1' := a1 (p :: (l2 ++ q :: L')) hl1 hp46
          rcases signs_any k hk with ⟨h3, hw⟩ | ⟨hor, hany, h38⟩
          · have t1 : termF (innerS d) (l1 ++ p :: (l2 ++ q :: L')) = .ok (two 3 (normE (kid ⟨0, by omega⟩)) (normE (kid ⟨1, by omega⟩)), q :: L') := by
              have hh : ¬ (two 3 (normE (kid ⟨0, by omega⟩)) (normE (kid ⟨1, by omega⟩))).height > 12 := by rw [h3] at hH; omega
              exact chainS_two (K := fun _ => 3) a1' (by rw [hp, hw]; rfl) (a2 (q :: L') hl2 (n41 _ (by decide))) hh (n41 _ (by decide))
            rw [h3]
            exact chainS_stop t1 (n41 _ (by decide))
          · have t1 : termF (innerS d) (l1 ++ p :: (l2 ++ q :: L')) = .ok (normE (kid ⟨0, by omega⟩), p :: (l2 ++ q :: L')) := chainS_stop a1' (noHd_cons (fun x hx => by
              rcases List.mem_singleton.1 hx with rfl
              rw [hp]; exact h38))
            have hh : ¬ (two (orK p.s) (normE (kid ⟨0, by omega⟩)) (normE (kid ⟨1, by omega⟩))).height > 12 := by rw [hp, hor]; omega
            have := chainS_two (S := [43, 45]) (K := orK) t1 (by rw [hp]; exact hany) t2 hh (n41 _ (by decide))
            rw [hp, hor] at this
            exact this
        have e1 : (o :: (l1 ++ p :: (l2 ++ q :: []))) ++ L' = o :: (l1 ++ p :: (l2 ++ q :: L')) := by simp
        rw [e1]
        unfold atomF
        rw [hasS_cons, ho]
        show inAtom (exprS d) (l1 ++ p :: (l2 ++ q :: L')) = _
        unfold inAtom
        rw [hex]
        dsimp only
        rw [mustS_ok (by rw [hq]; rfl)]
theorem expr_read {e : Ex} (h : mayE e 12 = true) {L L' : List Tk} (hL : L.map (·.s) = wordsE e) (hL' : NoHd [46, 38, 43, 45] L') : exprS 12 (L ++ L') = .ok (normE e, L') := by
  have hsub : ∀ cs : List UInt8, (∀ c ∈ cs, c ∈ ([46, 38, 43, 45] : List UInt8)) → NoHd cs L' := fun cs hcs t l e c hc => hL' t l e c (hcs c hc)
  rw [exprS_eq]
  exact chainS_stop (chainS_stop (atom_read 12 e h 12 (by omega) (by omega) L L' hL (hsub _ (by decide))) (hsub _ (by decide))) (hsub _ (by decide))
theorem ref_read {x : Rf} (h : mayF x = true) {L L' : List Tk} (hL : L.map (·.s) = refW x) (hL' : NoHd [35] L') : refS (L ++ L') = .ok (x, L') := by
  obtain ⟨a, b⟩ := x
  unfold mayF at h
  unfold refW at hL
  simp only [Bool.and_eq_true] at h
  cases hr : b.isEmpty with
  | true =>
    have hb := List.isEmpty_iff.1 hr
    subst hb
    obtain ⟨t, l, rfl, ht, hl⟩ := words_cons hL
    rw [words_nil hl]
    have := refS_one (nameS_w (l := L') ht h.1) (by rw [hL'.has (by simp)])
    rw [hL'.has (by simp)] at this
    exact this
  | false =>
    simp only [hr, Bool.false_eq_true, if_false, Bool.false_or] at hL h
    obtain ⟨t, l, rfl, ht, hl⟩ := words_cons hL
    obtain ⟨u, l, rfl, hu, hl⟩ := words_cons hl
    obtain ⟨v, l, rfl, hv, hl⟩ := words_cons hl
    rw [words_nil hl]
    have e1 : hasS [35] (u :: v :: L') = (true, v :: L') := by rw [hasS_cons, hu]; rfl
    show refS (t :: u :: v :: L') = _
    unfold refS
    rw [nameS_w ht h.1]
    dsimp only
    rw [e1]
    dsimp only
    rw [nameS_w hv h.2]
    rfl
end Go.Proofs.YtgmlcnikphbiiaaDoor.L

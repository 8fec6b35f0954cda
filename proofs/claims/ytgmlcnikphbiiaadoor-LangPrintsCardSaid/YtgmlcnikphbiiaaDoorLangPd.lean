/-
  What is read may be printed; the same, but for what is not printed, is the same.
-/
import Derived.Test.YtgmlcnikphbiiaaDoorLangPc
import Derived.Test.YtgmlcnikphbiiaaDoorLangS
namespace Go.Proofs.YtgmlcnikphbiiaaDoor.L
open Go.RowKit Go.Proofs.YtgmlcnikphbiiaaDoor.B Go.Proofs.YtgmlcnikphbiiaaDoor.S10 Go.Proofs.YtgmlcnikphbiiaaDoor.Nm
set_option linter.unusedVariables false
set_option linter.unusedSimpArgs false

/-! ### expressions that may be -/
def WfE (e : Ex) : Prop := ∃ m, mayE e m = true
theorem mk_height (k : Int) (a b : Bs) (kid : Fin 2 → Ex) : (Ex.mk k a b 2 kid).height = max (kid ⟨0, by omega⟩).height (kid ⟨1, by omega⟩).height + 1 := by
  have h1 := (kid ⟨0, by omega⟩).height_pos
  have h2 := (kid ⟨1, by omega⟩).height_pos
  rw [show (Ex.mk k a b 2 kid).height = maxTo (fun i => (kid i).height) 2 + 1 from rfl, maxTo_step _ (by decide), maxTo_step _ (by decide)]
  simp only [maxTo]
  omega
theorem mayE_height : ∀ (m : Nat) (e : Ex), mayE e m = true → ∀ h : Nat, e.height ≤ (h : Int) → mayE e h = true
  | 0, .mk k a b n kid, h => by rw [mayE_0] at h; cases h
  | m + 1, .mk k a b n kid, h => by
    intro t ht
    have hp := (Ex.mk k a b n kid).height_pos
    cases t with
    | zero => omega
    | succ t =>
      rw [mayE_s]
      by_cases hk0 : k = 0
      · rw [mayE_s, if_pos hk0] at h
        rw [if_pos hk0]; exact h
      by_cases hk1 : k = 1
      · rw [mayE_s, if_neg hk0, if_pos hk1] at h
        rw [if_neg hk0, if_pos hk1]; exact h
      obtain ⟨hs, hn, h1, h2⟩ := mayE_op h hk0 hk1
      subst hn
      rw [mk_height] at ht
      rw [if_neg hk0, if_neg hk1, dif_pos rfl, hs, mayE_height m _ h1 t (by omega), mayE_height m _ h2 t (by omega)]
      rfl
theorem WfE.may {e : Ex} (h : WfE e) {n : Nat} (hn : e.height ≤ (n : Int)) : mayE e n = true := by
  obtain ⟨m, h⟩ := h
  exact mayE_height m e h n hn
theorem WfE.two {k : Int} {x y : Ex} (hk : k = 2 ∨ k = 3 ∨ k = 4) (hx : WfE x) (hy : WfE y) : WfE (two k x y) := by
  have h1 := x.height_pos
  have h2 := y.height_pos
  refine ⟨(max x.height y.height).toNat + 1, ?_⟩
  have a1 := hx.may (n := (max x.height y.height).toNat) (by omega)
  have a2 := hy.may (n := (max x.height y.height).toNat) (by omega)
  generalize (max x.height y.height).toNat = m at *
  show mayE (Ex.mk k [] [] 2 (fun i => if i.val = 0 then x else y)) (m + 1) = true
  rw [mayE_s, if_neg (by omega), if_neg (by omega), dif_pos rfl]
  have hs : (signK k).isEmpty = false := by rcases hk with rfl | rfl | rfl <;> rfl
  rw [hs]
  show (!false && (mayE x m && mayE y m)) = true
  rw [a1, a2]
  rfl
theorem wf_leaf0 {a : Bs} (h : nm a = true) : WfE (leaf 0 a []) := ⟨1, by show mayE (Ex.mk 0 a [] 0 _) (0 + 1) = true; rw [mayE_s, if_pos rfl, h]; rfl⟩
theorem wf_leaf1 {a b : Bs} (h : nm a = true) (h2 : nm b = true) : WfE (leaf 1 a b) := ⟨1, by show mayE (Ex.mk 1 a b 0 _) (0 + 1) = true; rw [mayE_s, if_neg (by decide), if_pos rfl, h, h2]; rfl⟩
/-! ### what is read may be -/
def Yields (p : P Ex) : Prop := ∀ L a l, p L = .ok (a, l) → WfE a
theorem nameS_nm {L l : List Tk} {a : Bs} (h : nameS L = .ok (a, l)) : nm a = true := by
  cases L with
  | nil => cases h
  | cons t r =>
    have e : nameS (t :: r) = if nm t.s then .ok (t.s, r) else failsL 8 (t :: r) := rfl
    rw [e] at h
    by_cases hn : nm t.s = true
    · rw [if_pos hn] at h; cases h; exact hn
    · rw [if_neg hn] at h; cases h
theorem yields_chainGo {S : Bs} {K : Bs → Int} {one : P Ex} (hK : ∀ s, K s = 2 ∨ K s = 3 ∨ K s = 4) (h1 : Yields one) : ∀ (f : Nat) (a : Ex), WfE a → Yields (chainGo S K one f a) := by
  intro f
  induction f with
  | zero =>
    intro a ha L b l h
    cases L with
    | nil => cases h; exact ha
    | cons t r =>
      unfold chainGo at h
      split at h
      · cases h
      · cases h; exact ha
  | succ f ih =>
    intro a ha L b l h
    cases L with
    | nil => cases h; exact ha
    | cons t r =>
      unfold chainGo at h
      split at h
      · dsimp only at h
        split at h
        · cases h
        · rename_i x l' hx
          split at h
          · cases h
          · exact ih _ (WfE.two (hK _) ha (h1 _ _ _ hx)) _ _ _ h
      · cases h; exact ha
theorem yields_chain {S : Bs} {K : Bs → Int} {one : P Ex} (hK : ∀ s, K s = 2 ∨ K s = 3 ∨ K s = 4) (h1 : Yields one) : Yields (chainS S K one) := by
  intro L a l h
  unfold chainS at h
  split at h
  · cases h
  · rename_i b r hb
    exact yields_chainGo hK h1 _ _ (h1 _ _ _ hb) _ _ _ h
theorem yields_atom {inner : Option (P Ex)} (hi : ∀ p, inner = some p → Yields p) : Yields (atomF inner) := by
  intro L a l h
  unfold atomF at h
  split at h
  · split at h
    · unfold failsL at h
      split at h <;> cases h
    · rename_i p
      unfold inAtom at h
      split at h
      · cases h
      · rename_i e r he
        split at h
        · cases h
        · cases h
          exact hi _ rfl _ _ _ he
  · unfold nameAtom at h
    split at h
    · cases h
    · rename_i s r hs
      split at h
      · split at h
        · cases h
        · rename_i o r2 ho
          cases h
          exact wf_leaf1 (nameS_nm hs) (nameS_nm ho)
      · cases h
        exact wf_leaf0 (nameS_nm hs)
theorem orK_3 (s : Bs) : orK s = 2 ∨ orK s = 3 ∨ orK s = 4 := by unfold orK; split <;> simp
theorem yields_expr : ∀ d, Yields (exprS d)
  | 0 => yields_chain orK_3 (yields_chain (fun _ => .inr (.inl rfl)) (yields_atom (fun p h => by cases h)))
  | d + 1 => yields_chain orK_3 (yields_chain (fun _ => .inr (.inl rfl)) (yields_atom (fun p h => by cases h; exact yields_expr d)))
theorem expr_may {d : Nat} {L l : List Tk} {e : Ex} (h : exprS d L = .ok (e, l)) : mayE e 12 = true := (yields_expr d L e l h).may (low_expr d L e l h)
theorem ref_may {L l : List Tk} {x : Rf} (h : refS L = .ok (x, l)) : mayF x = true := by
  unfold refS at h
  split at h
  · cases h
  · rename_i a r ha
    split at h
    · split at h
      · cases h
      · rename_i b r2 hb
        cases h
        show (nm a && (b.isEmpty || nm b)) = true
        rw [nameS_nm ha, nameS_nm hb]
        simp
    · cases h
      show (nm a && (([] : Bs).isEmpty || nm [])) = true
      rw [nameS_nm ha]
      rfl
theorem refs_may : ∀ (f : Nat) (acc : List Rf) (L l : List Tk) (xs : List Rf), refsGo f acc L = .ok (xs, l) → acc.all mayF = true → xs.all mayF = true ∧ xs ≠ []
  | 0, acc, L, l, xs, h, _ => by unfold refsGo failsL at h; split at h <;> cases h
  | f + 1, acc, L, l, xs, h, ha => by
    rw [refsGo] at h
    split at h
    · cases h
    · rename_i x r hx
      have h2 : (acc ++ [x]).all mayF = true := by rw [List.all_append, ha]; simp [ref_may hx]
      split at h
      · exact refs_may f _ _ _ _ h h2
      · cases h
        exact ⟨h2, by simp⟩
theorem rel_may {L l : List Tk} {r : Rl} (h : relS L = .ok (some r, l)) : mayR r = true := by
  cases L with
  | nil => cases h
  | cons t L =>
    rw [relS_cons] at h
    split at h
    · unfold relHead at h
      split at h
      · cases h
      · rename_i s r1 hs
        split at h
        · cases h
        · rename_i u r2 hu
          unfold relTail at h
          split at h
          · split at h
            · cases h
            · rename_i rs r3 hr
              cases h
              obtain ⟨h1, h2⟩ := refs_may _ _ _ _ _ hr rfl
              unfold mayR
              have he : rs.isEmpty = false := by cases rs with
                | nil => exact absurd rfl h2
                | cons a b => rfl
              show (nm s && (if rs.isEmpty then _ else rs.all mayF)) = true
              rw [nameS_nm hs, he]
              exact h1
          · split at h
            · cases h
            · rename_i e r3 he
              cases h
              show (nm s && mayE e 12) = true
              rw [nameS_nm hs, expr_may he]
              rfl
    · cases h
theorem rels_may : ∀ (f : Nat) (acc : List Rl) (L l : List Tk) (rs : List Rl), relsOf f acc L = .ok (rs, l) → acc.all mayR = true → rs.all mayR = true
  | 0, acc, L, l, rs, h, _ => by unfold relsOf failsL at h; split at h <;> cases h
  | f + 1, acc, L, l, rs, h, ha => by
    rw [relsOf] at h
    split at h
    · cases h
    · cases h; exact ha
    · rename_i x r hx
      exact rels_may f _ _ _ _ h (by rw [List.all_append, ha]; simp [rel_may hx])
theorem types_may : ∀ (f : Nat) (acc : List Ty) (L l : List Tk) (ts : List Ty), typesGo f acc L = .ok (ts, l) → acc.all mayT = true → ts.all mayT = true
  | 0, acc, L, l, ts, h, _ => by unfold typesGo failsL at h; split at h <;> cases h
  | f + 1, acc, L, l, ts, h, ha => by
    rw [typesGo] at h
    split at h
    · split at h
      · cases h
      · rename_i s r hs
        split at h
        · cases h
        · rename_i rs r2 hr
          refine types_may f _ _ _ _ h ?_
          rw [List.all_append, ha]
          have : mayT ⟨s, rs⟩ = true := by
            show (nm s && rs.all mayR) = true
            rw [nameS_nm hs, rels_may _ _ _ _ _ hr rfl]; rfl
          simp [this]
    · cases h; exact ha
theorem parse_may {text : Bs} {ts : List Ty} (h : parseP text = .ok ts) : mayS ts = true := by
  unfold parseP at h
  split at h
  · cases h
  · split at h
    · cases h
    · rename_i ts' l hs
      cases h
      rw [schemaS_eq] at hs
      cases ht : typesGo ((tokens text 1 1).length + 1) [] (tokens text 1 1) with
      | error d => rw [ht] at hs; cases hs
      | ok p =>
        obtain ⟨ts2, l2⟩ := p
        rw [ht] at hs
        have h2 := types_may _ _ _ _ _ ht rfl
        cases l2 with
        | nil => cases hs
        | cons t l2 =>
          have : fin3 (.ok (ts2, t :: l2)) = if t.s == [] then .ok (ts2, t :: l2) else t.fail 8 := rfl
          rw [this] at hs
          split at hs
          · cases hs; exact h2
          · cases hs
/-! ### what is not printed plays no part -/
theorem norm_same : ∀ (m : Nat) (e : Ex), mayE e m = true → exprsB (normE e) e = true ∧ exprsB e (normE e) = true ∧ showE (normE e) = showE e ∧ mayE (normE e) m = true
  | 0, .mk k a b n kid, h => by rw [mayE_0] at h; cases h
  | m + 1, .mk k a b n kid, h => by
    rw [normE_eq]
    by_cases hk0 : k = 0
    · rw [mayE_s, if_pos hk0] at h
      simp only [Bool.and_eq_true] at h
      have hn := eq_of_beq h.2
      subst hn
      subst hk0
      rw [if_pos rfl]
      refine ⟨?_, ?_, rfl, ?_⟩
      · show exprsB (Ex.mk 0 a [] 0 _) _ = true
        rw [exprsB_eq]; simp
      · show exprsB _ (Ex.mk 0 a [] 0 _) = true
        rw [exprsB_eq]; simp
      · show mayE (Ex.mk 0 a [] 0 _) (m + 1) = true
        rw [mayE_s, if_pos rfl, h.1]; rfl
    by_cases hk1 : k = 1
    · rw [mayE_s, if_neg hk0, if_pos hk1] at h
      simp only [Bool.and_eq_true] at h
      have hn := eq_of_beq h.2.2
      subst hn
      subst hk1
      rw [if_neg hk0, if_pos rfl]
      refine ⟨?_, ?_, rfl, ?_⟩
      · show exprsB (Ex.mk 1 a b 0 _) _ = true
        rw [exprsB_eq]; simp
      · show exprsB _ (Ex.mk 1 a b 0 _) = true
        rw [exprsB_eq]; simp
      · show mayE (Ex.mk 1 a b 0 _) (m + 1) = true
        rw [mayE_s, if_neg hk0, if_pos rfl, h.1, h.2.1]; rfl
    obtain ⟨hs, hn, h1, h2⟩ := mayE_op h hk0 hk1
    subst hn
    obtain ⟨a1, a2, a3, a4⟩ := norm_same m _ h1
    obtain ⟨b1, b2, b3, b4⟩ := norm_same m _ h2
    rw [if_neg hk0, if_neg hk1, dif_pos rfl]
    refine ⟨?_, ?_, ?_, ?_⟩
    · show exprsB (Ex.mk k [] [] 2 (fun i => if i.val = 0 then normE (kid ⟨0, by omega⟩) else normE (kid ⟨1, by omega⟩))) (Ex.mk k a b 2 kid) = true
      rw [exprsB_eq, dif_pos rfl, if_neg (by decide), (allTo_iff _).2 (fun i => by
        match i with
        | ⟨0, _⟩ => exact a1
        | ⟨1, _⟩ => exact b1)]
      simp
    · show exprsB (Ex.mk k a b 2 kid) (Ex.mk k [] [] 2 (fun i => if i.val = 0 then normE (kid ⟨0, by omega⟩) else normE (kid ⟨1, by omega⟩))) = true
      rw [exprsB_eq, dif_pos rfl, if_neg (by decide), (allTo_iff _).2 (fun i => by
        match i with
        | ⟨0, _⟩ => exact a2
        | ⟨1, _⟩ => exact b2)]
      simp
    · show showE (Ex.mk k [] [] 2 (fun i => if i.val = 0 then normE (kid ⟨0, by omega⟩) else normE (kid ⟨1, by omega⟩))) = showE (Ex.mk k a b 2 kid)
      rw [showE_eq, showE_eq, if_neg hk0, if_neg hk1, dif_pos rfl, if_neg hk0, if_neg hk1, dif_pos rfl]
      show [40] ++ showE (normE (kid ⟨0, by omega⟩)) ++ signK k ++ showE (normE (kid ⟨1, by omega⟩)) ++ [41] = _
      rw [a3, b3]
    · show mayE (Ex.mk k [] [] 2 (fun i => if i.val = 0 then normE (kid ⟨0, by omega⟩) else normE (kid ⟨1, by omega⟩))) (m + 1) = true
      rw [mayE_s, if_neg hk0, if_neg hk1, dif_pos rfl, hs]
      show (!false && (mayE (normE (kid ⟨0, by omega⟩)) m && mayE (normE (kid ⟨1, by omega⟩)) m)) = true
      rw [a4, b4]
      rfl
end Go.Proofs.YtgmlcnikphbiiaaDoor.L

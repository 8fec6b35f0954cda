/-
  What is known of a schema that a text says.
-/
import Derived.Test.YtgmlcnikphbiiaaDoorLangPo
namespace Go.Proofs.YtgmlcnikphbiiaaDoor.L
open Go.RowKit Go.Proofs.YtgmlcnikphbiiaaDoor.B Go.Proofs.YtgmlcnikphbiiaaDoor.S10 Go.Proofs.YtgmlcnikphbiiaaDoor.Nm
set_option linter.unusedVariables false
set_option linter.unusedSimpArgs false

theorem leaf_fit (k : Int) (a b : Bs) (ha : a.length ≤ 9223372036854775807) (hb : b.length ≤ 9223372036854775807) : (leaf k a b).Fit := ⟨ha, hb, fun i => i.elim0⟩
theorem two_fit {k : Int} {x y : Ex} (hx : x.Fit) (hy : y.Fit) : (two k x y).Fit := by
  refine ⟨by simp, by simp, fun i => ?_⟩
  show (if i.val = 0 then x else y).Fit
  split
  · exact hx
  · exact hy
def FitsP (p : P Ex) : Prop := ∀ L a l, p L = .ok (a, l) → a.Fit
theorem nameS_fit {L l : List Tk} {a : Bs} (h : nameS L = .ok (a, l)) : a.length ≤ 9223372036854775807 := by
  have := (nm_len (nameS_nm h)).2
  omega
theorem fits_chainGo {S : Bs} {K : Bs → Int} {one : P Ex} (h1 : FitsP one) : ∀ (f : Nat) (a : Ex), a.Fit → FitsP (chainGo S K one f a) := by
  intro f
  induction f with
  | zero =>
    intro a ha L b l h
    cases L with
    | nil => cases h; exact ha
    | cons t r =>
      unfold chainGo at h
      split at h
      · cases h
      · cases h; exact ha
  | succ f ih =>
    intro a ha L b l h
    cases L with
    | nil => cases h; exact ha
    | cons t r =>
      unfold chainGo at h
      split at h
      · dsimp only at h
        split at h
        · cases h
        · rename_i x l' hx
          split at h
          · cases h
          · exact ih _ (two_fit ha (h1 _ _ _ hx)) _ _ _ h
      · cases h; exact ha
theorem fits_chain {S : Bs} {K : Bs → Int} {one : P Ex} (h1 : FitsP one) : FitsP (chainS S K one) := by
  intro L a l h
  unfold chainS at h
  split at h
  · cases h
  · rename_i b r hb
    exact fits_chainGo h1 _ _ (h1 _ _ _ hb) _ _ _ h
theorem fits_atom {inner : Option (P Ex)} (hi : ∀ p, inner = some p → FitsP p) : FitsP (atomF inner) := by
  intro L a l h
  unfold atomF at h
  split at h
  · split at h
    · unfold failsL at h
      split at h <;> cases h
    · rename_i p
      unfold inAtom at h
      split at h
      · cases h
      · rename_i e r he
        split at h
        · cases h
        · cases h
          exact hi _ rfl _ _ _ he
  · unfold nameAtom at h
    split at h
    · cases h
    · rename_i s r hs
      split at h
      · split at h
        · cases h
        · rename_i o r2 ho
          cases h
          exact leaf_fit _ _ _ (nameS_fit hs) (nameS_fit ho)
      · cases h
        exact leaf_fit _ _ _ (nameS_fit hs) (by simp)
theorem fits_expr : ∀ d, FitsP (exprS d)
  | 0 => fits_chain (fits_chain (fits_atom (fun p h => by cases h)))
  | d + 1 => fits_chain (fits_chain (fits_atom (fun p h => by cases h; exact fits_expr d)))
theorem refs_count : ∀ (f : Nat) (acc : List Rf) (L l : List Tk) (xs : List Rf), refsGo f acc L = .ok (xs, l) → xs.length + l.length ≤ acc.length + L.length
  | 0, acc, L, l, xs, h => by unfold refsGo failsL at h; split at h <;> cases h
  | f + 1, acc, L, l, xs, h => by
    rw [refsGo] at h
    split at h
    · cases h
    · rename_i x r hx
      have h1 : r.length + 1 ≤ L.length := by
        unfold refS at hx
        split at hx
        · cases hx
        · rename_i a r0 ha
          have h0 := less_name _ _ _ ha
          split at hx
          · split at hx
            · cases hx
            · rename_i b r2 hb
              cases hx
              have := less_name _ _ _ hb
              have := hasS_len [35] r0
              have : r0.length < L.length := by
                cases L with
                | nil => cases ha
                | cons t q =>
                  have e : nameS (t :: q) = if nm t.s then .ok (t.s, q) else failsL 8 (t :: q) := rfl
                  rw [e] at ha
                  by_cases hn : nm t.s = true
                  · rw [if_pos hn] at ha; cases ha; simp
                  · rw [if_neg hn] at ha; cases ha
              omega
          · cases hx
            have := hasS_len [35] r0
            have : r0.length < L.length := by
              cases L with
              | nil => cases ha
              | cons t q =>
                have e : nameS (t :: q) = if nm t.s then .ok (t.s, q) else failsL 8 (t :: q) := rfl
                rw [e] at ha
                by_cases hn : nm t.s = true
                · rw [if_pos hn] at ha; cases ha; simp
                · rw [if_neg hn] at ha; cases ha
            omega
      have h2 := hasS_len [124] r
      split at h
      · have := refs_count f _ _ _ _ h
        simp at this
        omega
      · cases h
        simp
        omega
/-- what is known of a relation. -/
def KnR (N : Nat) (r : Rl) : Prop := r.ex.Fit ∧ r.refs.length ≤ N
theorem rel_known {L l : List Tk} {r : Rl} (h : relS L = .ok (some r, l)) : KnR L.length r := by
  cases L with
  | nil => cases h
  | cons t L =>
    rw [relS_cons] at h
    split at h
    · unfold relHead at h
      split at h
      · cases h
      · rename_i s r1 hs
        have h1 := less_name _ _ _ hs
        split at h
        · cases h
        · rename_i u r2 hu
          have h2 : r2.length ≤ r1.length := by
            unfold mustS at hu
            split at hu
            · cases hu; exact hasS_len _ _
            · unfold failsL at hu; split at hu <;> cases hu
          unfold relTail at h
          split at h
          · split at h
            · cases h
            · rename_i rs r3 hr
              cases h
              have := refs_count _ _ _ _ _ hr
              simp at this
              exact ⟨leaf_fit _ _ _ (by simp) (by simp), by simp; omega⟩
          · split at h
            · cases h
            · rename_i e r3 he
              cases h
              exact ⟨fits_expr _ _ _ _ he, by simp⟩
    · cases h
theorem rels_known (N : Nat) : ∀ (f : Nat) (acc : List Rl) (L l : List Tk) (rs : List Rl), L.length ≤ N → relsOf f acc L = .ok (rs, l) → (∀ r ∈ acc, KnR N r) → (∀ r ∈ rs, KnR N r) ∧ rs.length + l.length ≤ acc.length + L.length
  | 0, acc, L, l, rs, hN, h, _ => by unfold relsOf failsL at h; split at h <;> cases h
  | f + 1, acc, L, l, rs, hN, h, ha => by
    rw [relsOf] at h
    split at h
    · cases h
    · rename_i r hx
      cases h
      have := less_rel _ _ _ hx
      exact ⟨ha, by omega⟩
    · rename_i x r hx
      have hk := rel_known hx
      have hl := less1_rel hx
      have := rels_known N f (acc ++ [x]) r l rs (by omega) h (fun y hy => by
        rcases List.mem_append.1 hy with hy | hy
        · exact ha y hy
        · rw [List.mem_singleton.1 hy]; exact ⟨hk.1, by have := hk.2; omega⟩)
      refine ⟨this.1, ?_⟩
      have := this.2
      simp at this
      omega
def KnT (N : Nat) (t : Ty) : Prop := (∀ r ∈ t.rels, KnR N r) ∧ t.rels.length ≤ N
theorem types_known (N : Nat) : ∀ (f : Nat) (acc : List Ty) (L l : List Tk) (ts : List Ty), L.length ≤ N → typesGo f acc L = .ok (ts, l) → (∀ t ∈ acc, KnT N t) → (∀ t ∈ ts, KnT N t) ∧ ts.length + l.length ≤ acc.length + L.length
  | 0, acc, L, l, ts, hN, h, _ => by unfold typesGo failsL at h; split at h <;> cases h
  | f + 1, acc, L, l, ts, hN, h, ha => by
    rw [typesGo] at h
    split at h
    · rename_i hb
      have hl0 := hasS_less hb
      split at h
      · cases h
      · rename_i s r hs
        have hl1 := less_name _ _ _ hs
        split at h
        · cases h
        · rename_i rs r2 hr
          have hk := rels_known N _ _ _ _ _ (by omega) hr (fun r h => by cases h)
          have hk2 := hk.2
          simp at hk2
          have := types_known N f _ r2 l ts (by omega) h (fun y hy => by
            rcases List.mem_append.1 hy with hy | hy
            · exact ha y hy
            · rw [List.mem_singleton.1 hy]; exact ⟨hk.1, by show rs.length ≤ N; omega⟩)
          refine ⟨this.1, ?_⟩
          have := this.2
          simp at this
          omega
    · cases h
      have := hasS_len sType L
      exact ⟨ha, by omega⟩
end Go.Proofs.YtgmlcnikphbiiaaDoor.L

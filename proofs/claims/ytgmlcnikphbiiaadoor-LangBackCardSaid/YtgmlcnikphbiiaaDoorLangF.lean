/-
  strings.Contains of few signs; the grammar's expressions, plainly.
-/
import Derived.Test.YtgmlcnikphbiiaaDoorLangE
import Derived.Lib.IndexAny
namespace Go.Proofs.YtgmlcnikphbiiaaDoor.L
open Go.RowKit Go.Proofs.YtgmlcnikphbiiaaDoor.B
open Go.Proofs.YtgmlcnikphbiiaaDoor.C (QRow Turn)
set_option linter.unusedVariables false
set_option linter.unusedSimpArgs false

set_option maxRecDepth 100000 in
set_option maxHeartbeats 1000000 in
theorem slIndex_none (S q : Bs) (hS : 0 < S.length) (hS2 : S.length ≤ 2) (hq : 2 ≤ q.length) (hl : q.length ≤ 5000) (hne : q ≠ S) (w : World) :
    Calls Tryd.prog 102 #[vs S, vs q] w fun e w' => e = .returned (.int .i64 (-1)) ∧ w' = w := by
  have e1 : (q == S) = false := by
    cases h : q == S
    · rfl
    · exact absurd (eq_of_beq h) hne
  have g1 : (2 : Int) ≤ (q.length : Int) := by omega
  have g2 : (S.length : Int) ≤ (q.length : Int) := by omega
  have g3 : ((q.length : Int) == 0) = false := by
    have : (q.length : Int) ≠ 0 := by omega
    simpa using this
  have g4 : ((q.length : Int) == 1) = false := by
    have : (q.length : Int) ≠ 1 := by omega
    simpa using this
  go_enter Tryd.func102, Tryd.ntmps102
  go_wp2
  go_ret
  exact ⟨rfl, rfl⟩
set_option maxRecDepth 100000 in
set_option maxHeartbeats 1000000 in
theorem contains_none (S q : Bs) (hS : 0 < S.length) (hS2 : S.length ≤ 2) (hq : 2 ≤ q.length) (hl : q.length ≤ 5000) (hne : q ≠ S) (w : World) :
    Calls Tryd.prog 92 #[vs S, vs q] w fun e w' => e = .returned (.bool false) ∧ w' = w := by
  have h1 : Calls Tryd.prog 98 #[vs S, vs q] w fun e w' => e = .returned (.int .i64 (-1)) ∧ w' = w := by
    go_enter Tryd.func98, Tryd.ntmps98
    go_wp2_with fail
    refine (slIndex_none S q hS hS2 hq hl hne w).mono ?_
    rintro e w' ⟨rfl, rfl⟩
    go_wp2
    go_ret
    exact ⟨rfl, rfl⟩
  go_enter Tryd.func92, Tryd.ntmps92
  go_wp2_with fail
  refine h1.mono ?_
  rintro e w' ⟨rfl, rfl⟩
  go_wp2
  go_ret
  exact ⟨rfl, rfl⟩
theorem contains_calls (S : Bs) (s : ByteArray) (hs : s = ⟨S.toArray⟩) (q : Bs) (hS : 0 < S.length) (hS2 : S.length ≤ 2) (hq : q ≠ []) (hne : q.length = 2 → q ≠ S) (hl : q.length ≤ 5000) (w : World) :
    Calls Tryd.prog 92 #[.string s, vs q] w fun e w' => e = .returned (.bool (S.any (fun c => q == [c]))) ∧ w' = w := by
  subst hs
  by_cases h2 : 2 ≤ q.length
  · refine (contains_none S q hS hS2 h2 hl (fun e => ?_) w).mono ?_
    · by_cases h3 : q.length = 2
      · exact hne h3 e
      · rw [e] at h3 h2; omega
    · rintro e w' ⟨rfl, rfl⟩
      refine ⟨?_, rfl⟩
      have : S.any (fun c => q == [c]) = false := by
        rw [List.any_eq_false]
        intro c _ h
        have := eq_of_beq h
        rw [this] at h2
        simp at h2
      rw [this]
  · cases q with
    | nil => exact absurd rfl hq
    | cons c r =>
      cases r with
      | cons d r => simp at h2
      | nil =>
        refine (Tryd.strings_Contains_one ⟨S.toArray⟩ c w).mono ?_
        rintro e w' ⟨rfl, rfl⟩
        refine ⟨?_, rfl⟩
        have : (decide (0 ≤ Lib.indexByte (⟨S.toArray⟩ : ByteArray).data.toList c)) = S.any (fun x => [c] == [x]) := by
          rw [← Lib.contains_iff_indexByte]
          show S.contains c = _
          rw [List.contains_eq_any_beq]
          congr 1
          funext x
          simp
        rw [this]
set_option maxRecDepth 100000 in
theorem and_calls (q : Bs) (w : World) : Calls Tryd.prog 93 #[vs q] w fun e w' => e = .returned (.int .i64 3) ∧ w' = w := by
  go_enter Tryd.func93, Tryd.ntmps93
  go_wp2
  go_ret
  exact ⟨rfl, rfl⟩
def orK (q : Bs) : Int := if q == [43] then 2 else 4
set_option maxRecDepth 100000 in
theorem or_calls (q : Bs) (w : World) : Calls Tryd.prog 85 #[vs q] w fun e w' => e = .returned (.int .i64 (orK q)) ∧ w' = w := by
  cases h : q == [43] with
  | true =>
    have e1 : orK q = 2 := by unfold orK; rw [h]; rfl
    rw [e1]
    go_enter Tryd.func85, Tryd.ntmps85
    go_wp2
    go_ret
    exact ⟨rfl, rfl⟩
  | false =>
    have e1 : orK q = 4 := by unfold orK; rw [h]; rfl
    rw [e1]
    go_enter Tryd.func85, Tryd.ntmps85
    go_wp2
    go_ret
    exact ⟨rfl, rfl⟩

/-! ### the grammar -/
abbrev P (α : Type) := List Tk → R α
def chainGo (S : Bs) (K : Bs → Int) (one : P Ex) : Nat → Ex → P Ex
  | _, a, [] => .ok (a, [])
  | f, a, t :: l => if S.any (fun c => t.s == [c]) then
      match f with
      | 0 => t.fail 9
      | f + 1 => match one l with
        | .error d => .error d
        | .ok (b, l') => if (two (K t.s) a b).height > 12 then t.fail 9 else chainGo S K one f (two (K t.s) a b) l'
    else .ok (a, t :: l)
def chainS (S : Bs) (K : Bs → Int) (one : P Ex) : P Ex := fun L => match one L with
  | .error d => .error d
  | .ok (a, l) => chainGo S K one l.length a l
def nameAtom : P Ex := fun L => match nameS L with
  | .error d => .error d
  | .ok (s, l) => if (hasS [46] l).1 then (match nameS (hasS [46] l).2 with
      | .error d => .error d
      | .ok (o, l) => .ok (leaf 1 s o, l)) else .ok (leaf 0 s [], (hasS [46] l).2)
def inAtom (inner : P Ex) : P Ex := fun l => match inner l with
  | .error d => .error d
  | .ok (e, l) => match mustS [41] l with
    | .error d => .error d
    | .ok (_, l) => .ok (e, l)
def atomF (inner : Option (P Ex)) : P Ex := fun L =>
  if (hasS [40] L).1 then (match inner with
    | none => failsL 9 L
    | some f => inAtom f (hasS [40] L).2)
  else nameAtom (hasS [40] L).2
def termF (inner : Option (P Ex)) : P Ex := chainS [38] (fun _ => 3) (atomF inner)
def exprF (inner : Option (P Ex)) : P Ex := chainS [43, 45] orK (termF inner)
def exprS : Nat → P Ex
  | 0 => exprF none
  | d + 1 => exprF (some (exprS d))
def innerS : Nat → Option (P Ex)
  | 0 => none
  | d + 1 => some (exprS d)
theorem exprS_eq (d : Nat) : exprS d = exprF (innerS d) := by cases d <;> rfl
/-- what does not make the list longer. -/
def Less {α : Type} (p : P α) : Prop := ∀ L a l, p L = .ok (a, l) → l.length ≤ L.length
theorem hasS_len (s : Bs) (L : List Tk) : (hasS s L).2.length ≤ L.length := by
  cases L with
  | nil => exact Nat.le_refl _
  | cons t l =>
    rw [hasS_cons]
    split
    · exact Nat.le_succ _
    · exact Nat.le_refl _
theorem less_name : Less nameS := by
  intro L a l h
  cases L with
  | nil => cases h
  | cons t r =>
    unfold nameS at h
    dsimp only at h
    split at h
    · cases h; exact Nat.le_succ _
    · cases h
theorem less_must (s : Bs) : Less (mustS s) := by
  intro L a l h
  unfold mustS at h
  split at h
  · cases h; exact hasS_len s L
  · unfold failsL at h
    split at h <;> cases h
theorem less_nameAtom : Less nameAtom := by
  intro L a l h
  unfold nameAtom at h
  split at h
  · cases h
  · rename_i s r hn
    have h1 := less_name L s r hn
    have h2 := hasS_len [46] r
    split at h
    · split at h
      · cases h
      · rename_i o r2 hn2
        cases h
        have := less_name _ _ _ hn2
        omega
    · cases h; omega
theorem less_inAtom {p : P Ex} (hp : Less p) : Less (inAtom p) := by
  intro L a l h
  unfold inAtom at h
  split at h
  · cases h
  · rename_i e r he
    have h1 := hp _ _ _ he
    split at h
    · cases h
    · rename_i u r2 hm
      cases h
      have := less_must _ _ _ _ hm
      omega
theorem less_chainGo {S : Bs} {K : Bs → Int} {one : P Ex} (h1 : Less one) : ∀ (f : Nat) (a : Ex), Less (chainGo S K one f a) := by
  intro f
  induction f with
  | zero =>
    intro a L b l h
    cases L with
    | nil => cases h; exact Nat.le_refl _
    | cons t r =>
      unfold chainGo at h
      split at h
      · cases h
      · cases h; exact Nat.le_refl _
  | succ f ih =>
    intro a L b l h
    cases L with
    | nil => cases h; exact Nat.le_refl _
    | cons t r =>
      unfold chainGo at h
      split at h
      · dsimp only at h
        split at h
        · cases h
        · rename_i x r2 hx
          have := h1 _ _ _ hx
          split at h
          · cases h
          · have := ih _ _ _ _ h
            simp; omega
      · cases h; exact Nat.le_refl _
theorem less_chain {S : Bs} {K : Bs → Int} {one : P Ex} (h1 : Less one) : Less (chainS S K one) := by
  intro L a l h
  unfold chainS at h
  split at h
  · cases h
  · rename_i b r hb
    exact Nat.le_trans (less_chainGo h1 _ _ _ _ _ h) (h1 _ _ _ hb)
theorem less_atom {inner : Option (P Ex)} (hi : ∀ p, inner = some p → Less p) : Less (atomF inner) := by
  intro L a l h
  have h0 := hasS_len [40] L
  unfold atomF at h
  split at h
  · split at h
    · unfold failsL at h
      split at h <;> cases h
    · rename_i p
      have := less_inAtom (hi p rfl) _ _ _ h
      omega
  · have := less_nameAtom _ _ _ h
    omega
theorem less_expr : ∀ d, Less (exprS d)
  | 0 => less_chain (less_chain (less_atom (fun p h => by cases h)))
  | d + 1 => less_chain (less_chain (less_atom (fun p h => by cases h; exact less_expr d)))
theorem less_inner (d : Nat) : ∀ p, innerS d = some p → Less p := by
  intro p h
  cases d with
  | zero => cases h
  | succ d => cases h; exact less_expr d
theorem chainGo_fuel {S : Bs} {K : Bs → Int} {one : P Ex} (h1 : Less one) : ∀ (f g : Nat) (a : Ex) (L : List Tk), L.length ≤ f → L.length ≤ g → chainGo S K one f a L = chainGo S K one g a L := by
  intro f
  induction f with
  | zero =>
    intro g a L hf hg
    cases L with
    | nil => cases g <;> rfl
    | cons t r => simp at hf
  | succ f ih =>
    intro g a L hf hg
    cases L with
    | nil => cases g <;> rfl
    | cons t r =>
      cases g with
      | zero => simp at hg
      | succ g =>
        simp at hf hg
        unfold chainGo
        split
        · dsimp only
          cases ho : one r with
          | error d => rfl
          | ok p =>
            obtain ⟨b, l'⟩ := p
            have := h1 _ _ _ ho
            dsimp only
            rw [ih g _ l' (by omega) (by omega)]
        · rfl
end Go.Proofs.YtgmlcnikphbiiaaDoor.L

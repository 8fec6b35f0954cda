/-
  JSON, plain: space around what is read changes nothing.
-/
import Derived.Test.YtminegmjklehnaaDoorJsonPr
namespace Go.Proofs.YtminegmjklehnaaDoor.J
set_option linter.unusedVariables false
set_option linter.unusedSimpArgs false

abbrev tailS : Bs := [32, 10]
theorem tw_ext : ∀ L : Bs, (L ++ tailS).takeWhile isDig = L.takeWhile isDig ∧ (L ++ tailS).dropWhile isDig = L.dropWhile isDig ++ tailS
  | [] => by decide
  | c :: L => by
    obtain ⟨h1, h2⟩ := tw_ext L
    rw [List.cons_append, List.takeWhile_cons, List.takeWhile_cons, List.dropWhile_cons, List.dropWhile_cons]
    cases isDig c with
    | true => exact ⟨by simp only [if_true]; rw [h1], by simp only [if_true]; rw [h2]⟩
    | false => exact ⟨rfl, rfl⟩
theorem sp_ext : ∀ L : Bs, sp L ≠ [] → sp (L ++ tailS) = sp L ++ tailS
  | [], h => absurd rfl h
  | c :: L, h => by
    unfold sp at h ⊢
    rw [List.cons_append, List.dropWhile_cons]
    rw [List.dropWhile_cons] at h
    rw [List.dropWhile_cons]
    cases hc : isSp c with
    | true =>
      rw [hc] at h
      simp only [if_true] at h ⊢
      exact sp_ext L h
    | false => rfl
theorem sp_ext0 : ∀ L : Bs, sp L = [] → sp (L ++ tailS) = []
  | [], h => by decide
  | c :: L, h => by
    unfold sp at h ⊢
    rw [List.cons_append, List.dropWhile_cons]
    rw [List.dropWhile_cons] at h
    cases hc : isSp c with
    | true =>
      rw [hc] at h
      simp only [if_true] at h ⊢
      exact sp_ext0 L h
    | false => rw [hc] at h; simp at h
def Ext {α : Type} (p : P α) : Prop := ∀ L x M, p L = .ok (x, M) → p (L ++ tailS) = .ok (x, M ++ tailS)
theorem digits_ext : Ext digitsP := by
  intro L x M h
  obtain ⟨h1, h2⟩ := tw_ext L
  unfold digitsP at h ⊢
  rw [h1, h2]
  split at h
  · cases h
  · rename_i hx
    rw [if_neg hx]
    cases h
    rfl
theorem neg_ext (L : Bs) : negP (L ++ tailS) = ((negP L).1, (negP L).2 ++ tailS) := by
  cases L with
  | nil => rfl
  | cons c L =>
    rw [List.cons_append, negP_c, negP_c]
    split <;> rfl
theorem sign_ext (L : Bs) : signP (L ++ tailS) = signP L ++ tailS := by
  cases L with
  | nil => rfl
  | cons c L =>
    rw [List.cons_append, signP_c, signP_c]
    split <;> rfl
theorem whole_ext : Ext wholeP := by
  intro L x M h
  cases L with
  | nil => cases h
  | cons c L =>
    rw [List.cons_append, wholeP_c]
    rw [wholeP_c] at h
    split at h
    · rename_i hc
      rw [if_pos hc]
      cases h
      rfl
    · rename_i hc
      rw [if_neg hc]
      exact digits_ext (c :: L) x M h
theorem frac_ext : Ext fracP := by
  intro L x M h
  cases L with
  | nil => cases h; rfl
  | cons c L =>
    rw [List.cons_append, fracP_c]
    rw [fracP_c] at h
    split at h
    · rename_i hc
      rw [if_pos hc]
      cases hd : digitsP L with
      | error e => rw [hd] at h; cases h
      | ok q =>
        obtain ⟨d, M1⟩ := q
        rw [hd] at h
        rw [digits_ext L d M1 hd]
        cases h
        rfl
    · rename_i hc
      rw [if_neg hc]
      cases h
      rfl
theorem exp_ext : Ext expP := by
  intro L x M h
  cases L with
  | nil => cases h; rfl
  | cons c L =>
    rw [List.cons_append, expP_c]
    rw [expP_c] at h
    split at h
    · rename_i hc
      rw [if_pos hc, sign_ext]
      cases hd : digitsP (signP L) with
      | error e => rw [hd] at h; cases h
      | ok q =>
        obtain ⟨d, M1⟩ := q
        rw [hd] at h
        rw [digits_ext _ d M1 hd]
        cases h
        rfl
    · rename_i hc
      rw [if_neg hc]
      cases h
      rfl
theorem tail_ext (neg : Bool) (wh : Bs) : Ext (numTail neg wh) := by
  intro L x M h
  unfold numTail at h ⊢
  cases hf : fracP L with
  | error e => rw [hf] at h; cases h
  | ok q =>
    obtain ⟨f, L3⟩ := q
    rw [hf] at h
    rw [frac_ext L f L3 hf]
    dsimp only at h ⊢
    cases he : expP L3 with
    | error e => rw [he] at h; cases h
    | ok q =>
      obtain ⟨y, L4⟩ := q
      rw [he] at h
      rw [exp_ext L3 y L4 he]
      dsimp only at h ⊢
      split at h
      · cases h
      · rename_i hc
        rw [if_neg hc]
        cases h
        rfl
theorem num_ext : Ext numP := by
  intro L x M h
  unfold numP at h ⊢
  rw [neg_ext]
  dsimp only
  cases hw : wholeP (negP L).2 with
  | error e => rw [hw] at h; cases h
  | ok q =>
    obtain ⟨wh, L2⟩ := q
    rw [hw] at h
    rw [whole_ext _ wh L2 hw]
    exact tail_ext _ wh L2 x M h
theorem hex_ext : Ext hexP := by
  intro L x M h
  obtain ⟨a, b, c, d, rfl⟩ := hex_less h
  show hexP (a :: b :: c :: d :: (M ++ tailS)) = _
  rw [hexP_4] at h ⊢
  split at h
  · cases h; rfl
  · cases h
theorem low_ext (n : Nat) : Ext (lowP n) := by
  intro L x M h
  unfold lowP at h
  split at h
  · rename_i a b L'
    show lowP n (a :: b :: (L' ++ tailS)) = _
    unfold lowP
    dsimp only
    split at h
    · rename_i hc
      rw [if_pos hc]
      cases hx : hexP L' with
      | error e => rw [hx] at h; cases h
      | ok q =>
        obtain ⟨m, M1⟩ := q
        rw [hx] at h
        rw [hex_ext L' m M1 hx]
        dsimp only at h ⊢
        split at h
        · cases h
        · rename_i hm
          rw [if_neg hm]
          have h := Except.ok.inj h
          rw [Prod.mk.injEq] at h
          obtain ⟨rfl, rfl⟩ := h
          rfl
    · cases h
  · cases h
theorem uni_ext : Ext uniP := by
  intro L x M h
  unfold uniP at h ⊢
  cases hx : hexP L with
  | error e => rw [hx] at h; cases h
  | ok q =>
    obtain ⟨m, M1⟩ := q
    rw [hx] at h
    rw [hex_ext L m M1 hx]
    dsimp only at h ⊢
    split at h
    · cases h
    · rename_i hm
      rw [if_neg hm]
      split at h
      · rename_i hl
        rw [if_pos hl]
        exact low_ext m M1 x M h
      · rename_i hl
        rw [if_neg hl]
        cases h
        rfl
theorem esc_ext : Ext escP := by
  intro L x M h
  cases L with
  | nil => cases h
  | cons c L =>
    rw [List.cons_append, escP_cons]
    rw [escP_cons] at h
    cases ho : escOf c with
    | some m => rw [ho] at h; cases h; rfl
    | none =>
      rw [ho] at h
      dsimp only at h ⊢
      split at h
      · rename_i hc
        rw [if_pos hc]
        exact uni_ext L x M h
      · cases h
theorem charN_ext (L : Bs) (h : 0 < charN L) : charN (L ++ tailS) = charN L := by
  have h1 := charN_more L (L.drop (charN L) ++ tailS) h
  rwa [← List.append_assoc, List.take_append_drop] at h1
theorem textGo_ext : ∀ (f : Nat) (acc : Bs), Ext (textGo f acc)
  | 0, _, _, _, _, h => by cases h
  | _ + 1, _, [], _, _, h => by cases h
  | f + 1, acc, c :: L, t, M, h => by
    rw [List.cons_append, textGo]
    rw [textGo] at h
    split at h
    · rename_i hc
      rw [if_pos hc]
      cases h
      rfl
    · rename_i hc
      rw [if_neg hc]
      split at h
      · rename_i hc
        rw [if_pos hc]
        cases he : escP L with
        | error e => rw [he] at h; cases h
        | ok q =>
          obtain ⟨m, M1⟩ := q
          rw [he] at h
          rw [esc_ext L m M1 he]
          exact textGo_ext f _ M1 t M h
      · rename_i hc
        rw [if_neg hc]
        split at h
        · cases h
        · rename_i hn
          have h0 : 0 < charN (c :: L) := by omega
          have he := charN_ext (c :: L) h0
          rw [List.cons_append] at he
          have hl := (charN_le (c :: L)).1
          rw [he, if_neg hn]
          rw [← List.cons_append, List.take_append_of_le_length hl, List.drop_append_of_le_length hl]
          exact textGo_ext f _ _ t M h
theorem text_ext : Ext textP := by
  intro L x M h
  cases L with
  | nil => cases h
  | cons c L =>
    rw [List.cons_append, textP_cons]
    rw [textP_cons] at h
    split at h
    · rename_i hc
      rw [if_pos hc]
      rw [textGo_fuel _ ((L ++ tailS).length + 1) _ _ (Nat.lt_succ_self _) (by simp; omega)] at h
      exact textGo_ext _ _ L x M h
    · cases h
theorem go_more {σ : Type} {one : σ → P σ} {endc : UInt8} : ∀ (f g : Nat) (a : σ) (L : Bs) (r : σ × Bs), f ≤ g → insideGo one endc f a L = .ok r → insideGo one endc g a L = .ok r
  | 0, _, _, _, _, _, h => by cases h
  | f + 1, 0, _, _, _, hg, _ => by omega
  | f + 1, g + 1, a, L, r, hg, h => by
    rw [insideGo] at h ⊢
    cases ho : one a L with
    | error e => rw [ho] at h; cases h
    | ok q =>
      obtain ⟨a', M⟩ := q
      rw [ho] at h
      dsimp only at h ⊢
      cases hm : sp M with
      | nil => rw [hm] at h; cases h
      | cons c K =>
        rw [hm] at h
        dsimp only at h ⊢
        split at h
        · rename_i hc
          rw [if_pos hc]
          exact go_more f g _ _ _ (by omega) h
        · rename_i hc
          rw [if_neg hc]
          exact h
theorem go_ext {σ : Type} {one : σ → P σ} {size : σ → Nat} (hs : Steps one size) (ho : ∀ a, Ext (one a)) {endc : UInt8} : ∀ (f : Nat) (a : σ), Ext (insideGo one endc f a)
  | 0, _, _, _, _, h => by cases h
  | f + 1, a, L, x, M, h => by
    rw [insideGo] at h ⊢
    cases h1 : one a L with
    | error e => rw [h1] at h; cases h
    | ok q =>
      obtain ⟨a', M1⟩ := q
      rw [h1] at h
      rw [ho a L a' M1 h1]
      dsimp only at h ⊢
      cases hm : sp M1 with
      | nil => rw [hm] at h; cases h
      | cons c K =>
        rw [sp_ext M1 (by rw [hm]; simp), hm]
        rw [hm] at h
        dsimp only [List.cons_append] at h ⊢
        split at h
        · rename_i hc
          rw [if_pos hc]
          cases hk : sp K with
          | nil =>
            rw [hk] at h
            have := insideGo_less hs f _ _ _ _ h
            simp at this
          | cons y K2 =>
            rw [sp_ext K (by rw [hk]; simp)]
            exact go_ext hs ho f a' (sp K) x M h
        · rename_i hc
          rw [if_neg hc]
          split at h
          · rename_i hc
            rw [if_pos hc]
            cases h
            rfl
          · cases h
theorem inside_ext {σ : Type} {one : σ → P σ} {size : σ → Nat} (hs : Steps one size) (ho : ∀ a, Ext (one a)) {endc : UInt8} (a : σ) : Ext (insideP one endc a) := by
  intro L x M h
  unfold insideP at h ⊢
  cases hm : sp L with
  | nil =>
    rw [hm] at h
    have := insideGo_less hs 1 _ _ _ _ h
    simp at this
  | cons c K =>
    rw [sp_ext L (by rw [hm]; simp), hm]
    rw [hm] at h
    dsimp only [List.cons_append] at h ⊢
    split at h
    · rename_i hc
      rw [if_pos hc]
      cases h
      rfl
    · rename_i hc
      rw [if_neg hc]
      exact go_ext hs ho _ a (c :: K) x M (go_more _ ((K ++ tailS).length + 2) _ _ _ (by simp) h)
theorem oneL_ext {p : P Js} (hp : Ext p) (a : List Js) : Ext (oneL p a) := by
  intro L x M h
  unfold oneL at h ⊢
  cases hx : p L with
  | error e => rw [hx] at h; cases h
  | ok q =>
    obtain ⟨y, M1⟩ := q
    rw [hx] at h
    rw [hp L y M1 hx]
    cases h
    rfl
theorem oneO_ext {p : P Js} (hp : Ext p) (hl : Less p) (a : List Bs × List Js) : Ext (oneO p a) := by
  intro L x M h
  unfold oneO at h ⊢
  cases hx : textP L with
  | error e => rw [hx] at h; cases h
  | ok q =>
    obtain ⟨s, M1⟩ := q
    rw [hx] at h
    rw [text_ext L s M1 hx]
    dsimp only at h ⊢
    split at h
    · cases h
    · rename_i hc
      rw [if_neg hc]
      unfold pairTail at h ⊢
      cases hm : sp M1 with
      | nil => rw [hm] at h; cases h
      | cons c K =>
        rw [sp_ext M1 (by rw [hm]; simp), hm]
        rw [hm] at h
        dsimp only [List.cons_append] at h ⊢
        split at h
        · rename_i hc
          rw [if_pos hc]
          cases hv : p (sp K) with
          | error e => rw [hv] at h; cases h
          | ok q =>
            obtain ⟨y, K2⟩ := q
            have hk : sp K ≠ [] := by
              intro e
              have := hl _ _ _ hv
              rw [e] at this
              simp at this
            rw [hv] at h
            rw [sp_ext K hk, hp (sp K) y K2 hv]
            cases h
            rfl
        · cases h
theorem list_ext {p : P Js} (hp : Ext p) (hl : Less p) : Ext (listP p) := by
  intro L x M h
  unfold listP at h ⊢
  cases hi : insideP (oneL p) 93 [] L with
  | error e => rw [hi] at h; cases h
  | ok q =>
    obtain ⟨l, M1⟩ := q
    rw [hi] at h
    rw [inside_ext (oneL_steps hl) (oneL_ext hp) [] L l M1 hi]
    cases h
    rfl
theorem obj_ext {p : P Js} (hp : Ext p) (hl : Less p) : Ext (objP p) := by
  intro L x M h
  unfold objP at h ⊢
  cases hi : insideP (oneO p) 125 ([], []) L with
  | error e => rw [hi] at h; cases h
  | ok q =>
    obtain ⟨l, M1⟩ := q
    rw [hi] at h
    rw [inside_ext (oneO_steps hl) (oneO_ext hp hl) ([], []) L l M1 hi]
    cases h
    rfl
theorem numJ_ext : Ext numJ := by
  intro L x M h
  unfold numJ at h ⊢
  cases hi : numP L with
  | error e => rw [hi] at h; cases h
  | ok q =>
    obtain ⟨l, M1⟩ := q
    rw [hi] at h
    rw [num_ext L l M1 hi]
    cases h
    rfl
theorem textJ_ext : Ext textJ := by
  intro L x M h
  unfold textJ at h ⊢
  cases hi : textP L with
  | error e => rw [hi] at h; cases h
  | ok q =>
    obtain ⟨l, M1⟩ := q
    rw [hi] at h
    rw [text_ext L l M1 hi]
    cases h
    rfl
theorem word_ext (s : Bs) (j : Js) : Ext (wordP s j) := by
  intro L x M h
  unfold wordP at h ⊢
  split at h
  · rename_i hp
    have h1 := List.isPrefixOf_iff_prefix.1 hp
    have h2 := h1.length_le
    rw [if_pos (List.isPrefixOf_iff_prefix.2 (h1.trans (List.prefix_append L tailS)))]
    cases h
    rw [List.drop_append_of_le_length h2]
  · cases h
theorem valueOf_ext {o : Option (P Js)} (ho : ∀ p, o = some p → Ext p ∧ Less p) : Ext (valueOf o) := by
  intro L x M h
  cases L with
  | nil =>
    have : M.length < ([] : Bs).length := numJ_less [] x M h
    simp at this
  | cons c L =>
    rw [List.cons_append, valueOf_c]
    rw [valueOf_c] at h
    split at h
    · rename_i hc; rw [if_pos hc]; exact word_ext _ _ (c :: L) x M h
    rename_i hc; rw [if_neg hc]
    split at h
    · rename_i hc; rw [if_pos hc]; exact word_ext _ _ (c :: L) x M h
    rename_i hc; rw [if_neg hc]
    split at h
    · rename_i hc; rw [if_pos hc]; exact word_ext _ _ (c :: L) x M h
    rename_i hc; rw [if_neg hc]
    split at h
    · rename_i hc; rw [if_pos hc]; exact textJ_ext (c :: L) x M h
    rename_i hc; rw [if_neg hc]
    split at h
    · rename_i hc; rw [if_pos hc]
      cases o with
      | none => cases h
      | some p => obtain ⟨h1, h2⟩ := ho p rfl; exact list_ext h1 h2 L x M h
    rename_i hc; rw [if_neg hc]
    split at h
    · rename_i hc; rw [if_pos hc]
      cases o with
      | none => cases h
      | some p => obtain ⟨h1, h2⟩ := ho p rfl; exact obj_ext h1 h2 L x M h
    rename_i hc; rw [if_neg hc]
    exact numJ_ext (c :: L) x M h
theorem value_ext : ∀ d, Ext (valueP d)
  | 0 => valueOf_ext (fun _ h => by cases h)
  | d + 1 => valueOf_ext (fun p h => by cases h; exact ⟨value_ext d, value_less d⟩)
/-- with space around them. -/
theorem decode_wide {b : Bs} {j : Js} (h : decodeP b = .ok j) : decodeP ([32, 13, 10, 9] ++ b ++ tailS) = .ok j := by
  have h0 : sp ([32, 13, 10, 9] ++ b ++ tailS) = sp (b ++ tailS) := rfl
  unfold decodeP at h ⊢
  rw [h0]
  cases hv : valueP 12 (sp b) with
  | error e => rw [hv] at h; cases h
  | ok q =>
    obtain ⟨x, L⟩ := q
    have hne : sp b ≠ [] := by
      intro e
      have := value_less 12 _ _ _ hv
      rw [e] at this
      simp at this
    rw [sp_ext b hne, value_ext 12 _ _ _ hv]
    rw [hv] at h
    dsimp only at h ⊢
    split at h
    · rename_i hs
      cases h
      rw [sp_ext0 L (by simpa using hs)]
      rfl
    · cases h
end Go.Proofs.YtminegmjklehnaaDoor.J

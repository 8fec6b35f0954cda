/-
  JSON, plain: what is read is shorter behind it.
-/
import Derived.Test.YtminegmjklehnaaGreatDoorJsonH
namespace Go.Proofs.YtminegmjklehnaaGreatDoor.J
open Go.RowKit Go.Proofs.YtminegmjklehnaaGreatDoor.B
open Go.Proofs.YtminegmjklehnaaGreatDoor.M hiding Bs
open Go.Proofs.YtminegmjklehnaaGreatDoor.C (QRow Turn)
set_option linter.unusedVariables false
set_option linter.unusedSimpArgs false

def Less {α : Type} (p : P α) : Prop := ∀ L x M, p L = .ok (x, M) → M.length < L.length
theorem dw_le {p : UInt8 → Bool} (L : Bs) : (L.dropWhile p).length ≤ L.length := List.Sublist.length_le (List.dropWhile_sublist _)
theorem digits_less {L d M : Bs} (h : digitsP L = .ok (d, M)) : M.length < L.length := by
  unfold digitsP at h
  split at h
  · cases h
  · rename_i hx
    cases h
    cases L with
    | nil => simp at hx
    | cons c L =>
      rw [List.dropWhile_cons]
      cases hc : isDig c with
      | true => rw [if_pos rfl]; have := dw_le (p := isDig) L; simp; omega
      | false => simp [List.takeWhile_cons, hc] at hx
theorem wholeP_c (c : UInt8) (L : Bs) : wholeP (c :: L) = if c == 48 then .ok ([48], L) else digitsP (c :: L) := rfl
theorem negP_c (c : UInt8) (L : Bs) : negP (c :: L) = if c == 45 then (true, L) else (false, c :: L) := rfl
theorem signP_c (c : UInt8) (L : Bs) : signP (c :: L) = if c == 43 || c == 45 then L else c :: L := rfl
theorem fracP_c (c : UInt8) (L : Bs) : fracP (c :: L) = if c == 46 then (match digitsP L with
    | .error e => .error e
    | .ok (_, M) => .ok (true, M)) else .ok (false, c :: L) := rfl
theorem expP_c (c : UInt8) (L : Bs) : expP (c :: L) = if c == 101 || c == 69 then (match digitsP (signP L) with
    | .error e => .error e
    | .ok (_, M) => .ok (true, M)) else .ok (false, c :: L) := rfl
theorem valueOf_c (inner : Option (P Js)) (c : UInt8) (M : Bs) : valueOf inner (c :: M) = if c == 110 then wordP [110, 117, 108, 108] nullJ (c :: M) else if c == 116 then wordP [116, 114, 117, 101] (leafJ 1 1 []) (c :: M) else if c == 102 then wordP [102, 97, 108, 115, 101] (leafJ 1 0 []) (c :: M)
    else if c == 34 then textJ (c :: M) else if c == 91 then openP inner listP M else if c == 123 then openP inner objP M else numJ (c :: M) := rfl
theorem whole_less {L d M : Bs} (h : wholeP L = .ok (d, M)) : M.length < L.length := by
  cases L with
  | nil => cases h
  | cons c L =>
    rw [wholeP_c] at h
    split at h
    · cases h; simp
    · exact digits_less h
theorem neg_le (L : Bs) : (negP L).2.length ≤ L.length := by
  cases L with
  | nil => exact Nat.le_refl _
  | cons c L =>
    rw [negP_c]
    split <;> simp
theorem sign_le (L : Bs) : (signP L).length ≤ L.length := by
  cases L with
  | nil => exact Nat.le_refl _
  | cons c L =>
    rw [signP_c]
    split <;> simp
theorem frac_le {L M : Bs} {b : Bool} (h : fracP L = .ok (b, M)) : M.length ≤ L.length := by
  cases L with
  | nil => cases h; exact Nat.le_refl _
  | cons c L =>
    rw [fracP_c] at h
    split at h
    · split at h
      · cases h
      · rename_i hd
        have h := Except.ok.inj h
        rw [Prod.mk.injEq] at h
        rw [← h.2]
        have := digits_less hd
        simp; omega
    · cases h; exact Nat.le_refl _
theorem exp_le {L M : Bs} {b : Bool} (h : expP L = .ok (b, M)) : M.length ≤ L.length := by
  cases L with
  | nil => cases h; exact Nat.le_refl _
  | cons c L =>
    rw [expP_c] at h
    split at h
    · split at h
      · cases h
      · rename_i hd
        have h := Except.ok.inj h
        rw [Prod.mk.injEq] at h
        rw [← h.2]
        have := digits_less hd
        have := sign_le L
        simp; omega
    · cases h; exact Nat.le_refl _
theorem num_less : Less numP := by
  intro L n M h
  unfold numP at h
  split at h
  · cases h
  · rename_i hw
    unfold numTail at h
    split at h
    · cases h
    · rename_i hf
      split at h
      · cases h
      · rename_i he
        split at h
        · cases h
        · have h := Except.ok.inj h
          rw [Prod.mk.injEq] at h
          rw [← h.2]
          have h1 := neg_le L
          have h2 := whole_less hw
          have h3 := frac_le hf
          have h4 := exp_le he
          omega
theorem oneL_steps {p : P Js} (hp : Less p) : Steps (oneL p) List.length := by
  intro a L a' M h
  unfold oneL at h
  cases hx : p L with
  | error e => rw [hx] at h; cases h
  | ok q =>
    obtain ⟨x, M'⟩ := q
    rw [hx] at h
    cases h
    have := hp _ _ _ hx
    simp; omega
theorem oneO_steps {p : P Js} (hp : Less p) : Steps (oneO p) (fun a => a.1.length) := by
  intro a L a' M h
  unfold oneO at h
  cases hx : textP L with
  | error e => rw [hx] at h; cases h
  | ok q =>
    obtain ⟨s, M'⟩ := q
    have h0 := textP_less hx
    rw [hx] at h
    dsimp only at h
    split at h
    · cases h
    · have h1 := sp_le M'
      unfold pairTail at h
      cases hm : sp M' with
      | nil => rw [hm] at h; cases h
      | cons c K =>
        rw [hm] at h h1
        dsimp only at h
        split at h
        · cases hv : p (sp K) with
          | error e => rw [hv] at h; cases h
          | ok q =>
            obtain ⟨x, K2⟩ := q
            rw [hv] at h
            cases h
            have h2 := hp _ _ _ hv
            have h3 := sp_le K
            simp at h1 ⊢
            omega
        · cases h
theorem insideGo_less {σ : Type} {one : σ → P σ} {size : σ → Nat} (hs : Steps one size) {endc : UInt8} : ∀ (f : Nat) (a : σ) (L : Bs) (a' : σ) (M : Bs), insideGo one endc f a L = .ok (a', M) → M.length < L.length
  | 0, _, _, _, _, h => by cases h
  | f + 1, a, L, a', M, h => by
    rw [insideGo] at h
    cases ho : one a L with
    | error d => rw [ho] at h; cases h
    | ok q =>
      obtain ⟨a1, M1⟩ := q
      rw [ho] at h
      dsimp only at h
      have h1 := (hs _ _ _ _ ho).2
      have h2 := sp_le M1
      cases hm : sp M1 with
      | nil => rw [hm] at h; cases h
      | cons c K =>
        rw [hm] at h h2
        simp at h2
        dsimp only at h
        split at h
        · have h3 := insideGo_less hs f _ _ _ _ h
          have h4 := sp_le K
          omega
        · split at h
          · cases h; omega
          · cases h
theorem insideP_less {σ : Type} {one : σ → P σ} {size : σ → Nat} (hs : Steps one size) {endc : UInt8} {a : σ} : Less (insideP one endc a) := by
  intro L x M h
  have h1 := sp_le L
  unfold insideP at h
  cases hm : sp L with
  | nil =>
    rw [hm] at h
    have := insideGo_less hs _ _ _ _ _ h
    simp at this
  | cons c K =>
    rw [hm] at h h1
    dsimp only at h
    split at h
    · cases h; simp at h1; omega
    · have := insideGo_less hs _ _ _ _ _ h
      omega
theorem map_less {α β : Type} {p : P α} (hp : Less p) {q : P β} (f : α → β) (h1 : ∀ L e, p L = .error e → q L = .error e) (h2 : ∀ L l M, p L = .ok (l, M) → q L = .ok (f l, M)) : Less q := by
  intro L x M h
  cases hx : p L with
  | error e => rw [h1 _ _ hx] at h; cases h
  | ok r =>
    obtain ⟨l, M'⟩ := r
    rw [h2 _ _ _ hx] at h
    cases h
    exact hp _ _ _ hx
theorem list_less {p : P Js} (hp : Less p) : Less (listP p) := map_less (insideP_less (oneL_steps hp)) (fun l => manyJ 4 [] l) (fun L e h => by unfold listP; rw [h]) (fun L l M h => by unfold listP; rw [h])
theorem obj_less {p : P Js} (hp : Less p) : Less (objP p) := map_less (insideP_less (oneO_steps hp)) (fun l => manyJ 5 l.1 l.2) (fun L e h => by unfold objP; rw [h]) (fun L l M h => by unfold objP; rw [h])
theorem word_less (c : UInt8) (s : Bs) (j : Js) : Less (wordP (c :: s) j) := by
  intro L x M h
  unfold wordP at h
  split at h
  · rename_i hp
    cases h
    have := (List.isPrefixOf_iff_prefix.1 hp).length_le
    simp at this ⊢
    omega
  · cases h
theorem open_less {inner : Option (P Js)} {k : P Js → P Js} (hi : ∀ p, inner = some p → Less p) (hk : ∀ p, Less p → Less (k p)) : Less (openP inner k) := by
  intro L x M h
  cases inner with
  | none => cases h
  | some p => exact hk p (hi p rfl) L x M h
theorem numJ_less : Less numJ := map_less num_less (fun n => leafJ 2 n []) (fun L e h => by unfold numJ; rw [h]) (fun L l M h => by unfold numJ; rw [h])
theorem textJ_less : Less textJ := map_less (p := textP) (fun _ _ _ h => textP_less h) (fun n => leafJ 3 0 n) (fun L e h => by unfold textJ; rw [h]) (fun L l M h => by unfold textJ; rw [h])
theorem value_of_less {inner : Option (P Js)} (hi : ∀ p, inner = some p → Less p) : Less (valueOf inner) := by
  intro L x M h
  cases L with
  | nil => exact numJ_less [] x M h
  | cons c L =>
    rw [valueOf_c] at h
    split at h
    · exact word_less _ _ _ _ _ _ h
    · split at h
      · exact word_less _ _ _ _ _ _ h
      · split at h
        · exact word_less _ _ _ _ _ _ h
        · split at h
          · exact textJ_less _ x M h
          · split at h
            · have := open_less hi (fun p hp => list_less hp) _ _ _ h
              simp; omega
            · split at h
              · have := open_less hi (fun p hp => obj_less hp) _ _ _ h
                simp; omega
              · exact numJ_less _ x M h
theorem value_less : ∀ d, Less (valueP d)
  | 0 => value_of_less (fun _ h => by cases h)
  | d + 1 => value_of_less (fun p h => by cases h; exact value_less d)
end Go.Proofs.YtminegmjklehnaaGreatDoor.J

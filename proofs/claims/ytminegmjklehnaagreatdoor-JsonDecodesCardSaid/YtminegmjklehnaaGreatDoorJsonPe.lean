/-
  JSON, plain: what is refused is refused with an error.
-/
import Derived.Test.YtminegmjklehnaaGreatDoorJsonPr
namespace Go.Proofs.YtminegmjklehnaaGreatDoor.J
set_option linter.unusedVariables false
set_option linter.unusedSimpArgs false

def Err {α : Type} (r : Except Int α) : Prop := ∀ e, r = .error e → e ≠ 0
theorem Err.ok {α : Type} (x : α) : Err (.ok x : Except Int α) := fun e h => by cases h
theorem Err.lit {α : Type} {d : Int} (h : d ≠ 0) : Err (.error d : Except Int α) := fun e he => by cases he; exact h
theorem Err.bind {α β : Type} {r : Except Int α} {q : Except Int β} (hr : Err r) (h1 : ∀ e, r = .error e → q = .error e) (h2 : ∀ x, r = .ok x → Err q) : Err q := by
  cases hx : r with
  | error e => rw [h1 e hx]; exact Err.lit (hr e hx)
  | ok x => exact h2 x hx
theorem digits_err (L : Bs) : Err (digitsP L) := by
  unfold digitsP
  split
  · exact Err.lit (by decide)
  · exact Err.ok _
theorem whole_err (L : Bs) : Err (wholeP L) := by
  cases L with
  | nil => exact Err.lit (by decide)
  | cons c L =>
    rw [wholeP_c]
    split
    · exact Err.ok _
    · exact digits_err _
theorem frac_err (L : Bs) : Err (fracP L) := by
  cases L with
  | nil => exact Err.ok _
  | cons c L =>
    rw [fracP_c]
    split
    · exact (digits_err L).bind (fun e h => by rw [h]) (fun x h => by rw [h]; exact Err.ok _)
    · exact Err.ok _
theorem exp_err (L : Bs) : Err (expP L) := by
  cases L with
  | nil => exact Err.ok _
  | cons c L =>
    rw [expP_c]
    split
    · exact (digits_err (signP L)).bind (fun e h => by rw [h]) (fun x h => by rw [h]; exact Err.ok _)
    · exact Err.ok _
theorem tail_err (neg : Bool) (wh L : Bs) : Err (numTail neg wh L) := by
  unfold numTail
  refine (frac_err L).bind (fun e h => by rw [h]) (fun x h => ?_)
  rw [h]
  obtain ⟨f, L3⟩ := x
  dsimp only
  refine (exp_err L3).bind (fun e h => by rw [h]) (fun x h => ?_)
  rw [h]
  dsimp only
  split
  · exact Err.lit (by decide)
  · exact Err.ok _
theorem num_err (L : Bs) : Err (numP L) := by
  unfold numP
  refine (whole_err _).bind (fun e h => by rw [h]) (fun x h => ?_)
  rw [h]
  exact tail_err _ _ _
theorem hex_err (L : Bs) : Err (hexP L) := by
  unfold hexP
  split
  · split
    · exact Err.ok _
    · exact Err.lit (by decide)
  · exact Err.lit (by decide)
theorem low_err (n : Nat) (L : Bs) : Err (lowP n L) := by
  unfold lowP
  split
  · split
    · refine (hex_err _).bind (fun e h => by rw [h]) (fun x h => ?_)
      rw [h]
      dsimp only
      split
      · exact Err.lit (by decide)
      · exact Err.ok _
    · exact Err.lit (by decide)
  · exact Err.lit (by decide)
theorem uni_err (L : Bs) : Err (uniP L) := by
  unfold uniP
  refine (hex_err _).bind (fun e h => by rw [h]) (fun x h => ?_)
  rw [h]
  dsimp only
  split
  · exact Err.lit (by decide)
  split
  · exact low_err _ _
  · exact Err.ok _
theorem esc_err (L : Bs) : Err (escP L) := by
  cases L with
  | nil => exact Err.lit (by decide)
  | cons c L =>
    rw [escP_cons]
    split
    · exact Err.ok _
    · split
      · exact uni_err _
      · exact Err.lit (by decide)
theorem textGo_err : ∀ (f : Nat) (acc L : Bs), Err (textGo f acc L)
  | 0, _, _ => Err.lit (by decide)
  | _ + 1, _, [] => Err.lit (by decide)
  | f + 1, acc, c :: L => by
    rw [textGo]
    split
    · exact Err.ok _
    split
    · refine (esc_err L).bind (fun e h => by rw [h]) (fun x h => ?_)
      rw [h]
      exact textGo_err f _ _
    split
    · exact Err.lit (by decide)
    · exact textGo_err f _ _
theorem text_err (L : Bs) : Err (textP L) := by
  cases L with
  | nil => exact Err.lit (by decide)
  | cons c L =>
    rw [textP_cons]
    split
    · exact textGo_err _ _ _
    · exact Err.lit (by decide)
theorem go_err {σ : Type} {one : σ → P σ} (ho : ∀ a L, Err (one a L)) {endc : UInt8} : ∀ (f : Nat) (a : σ) (L : Bs), Err (insideGo one endc f a L)
  | 0, _, _ => Err.lit (by decide)
  | f + 1, a, L => by
    rw [insideGo]
    refine (ho a L).bind (fun e h => by rw [h]) (fun x h => ?_)
    rw [h]
    dsimp only
    split
    · exact Err.lit (by decide)
    · split
      · exact go_err ho f _ _
      · split
        · exact Err.ok _
        · exact Err.lit (by decide)
theorem inside_err {σ : Type} {one : σ → P σ} (ho : ∀ a L, Err (one a L)) {endc : UInt8} (a : σ) (L : Bs) : Err (insideP one endc a L) := by
  unfold insideP
  split
  · exact go_err ho _ _ _
  · split
    · exact Err.ok _
    · exact go_err ho _ _ _
theorem oneL_err {p : P Js} (hp : ∀ L, Err (p L)) (a : List Js) (L : Bs) : Err (oneL p a L) := by
  unfold oneL
  exact (hp L).bind (fun e h => by rw [h]) (fun x h => by rw [h]; exact Err.ok _)
theorem oneO_err {p : P Js} (hp : ∀ L, Err (p L)) (a : List Bs × List Js) (L : Bs) : Err (oneO p a L) := by
  unfold oneO
  refine (text_err L).bind (fun e h => by rw [h]) (fun x h => ?_)
  rw [h]
  dsimp only
  split
  · exact Err.lit (by decide)
  · unfold pairTail
    split
    · exact Err.lit (by decide)
    · split
      · exact (hp _).bind (fun e h => by rw [h]) (fun x h => by rw [h]; exact Err.ok _)
      · exact Err.lit (by decide)
theorem word_err (s : Bs) (j : Js) (L : Bs) : Err (wordP s j L) := by
  unfold wordP
  split
  · exact Err.ok _
  · exact Err.lit (by decide)
theorem numJ_err (L : Bs) : Err (numJ L) := by
  unfold numJ
  exact (num_err L).bind (fun e h => by rw [h]) (fun x h => by rw [h]; exact Err.ok _)
theorem textJ_err (L : Bs) : Err (textJ L) := by
  unfold textJ
  exact (text_err L).bind (fun e h => by rw [h]) (fun x h => by rw [h]; exact Err.ok _)
theorem open_err {o : Option (P Js)} {k : P Js → P Js} (ho : ∀ p, o = some p → ∀ L, Err (k p L)) (L : Bs) : Err (openP o k L) := by
  cases o with
  | none => exact Err.lit (by decide)
  | some p => exact ho p rfl L
theorem list_err {p : P Js} (hp : ∀ L, Err (p L)) (L : Bs) : Err (listP p L) := by
  unfold listP
  exact (inside_err (oneL_err hp) _ _).bind (fun e h => by rw [h]) (fun x h => by rw [h]; exact Err.ok _)
theorem obj_err {p : P Js} (hp : ∀ L, Err (p L)) (L : Bs) : Err (objP p L) := by
  unfold objP
  exact (inside_err (oneO_err hp) _ _).bind (fun e h => by rw [h]) (fun x h => by rw [h]; exact Err.ok _)
theorem valueOf_err {o : Option (P Js)} (ho : ∀ p, o = some p → ∀ L, Err (p L)) (L : Bs) : Err (valueOf o L) := by
  cases L with
  | nil => exact numJ_err []
  | cons c L =>
    rw [valueOf_c]
    split
    · exact word_err _ _ _
    split
    · exact word_err _ _ _
    split
    · exact word_err _ _ _
    split
    · exact textJ_err _
    split
    · exact open_err (fun p hp => list_err (ho p hp)) _
    split
    · exact open_err (fun p hp => obj_err (ho p hp)) _
    · exact numJ_err _
theorem value_err : ∀ d L, Err (valueP d L)
  | 0, L => valueOf_err (fun _ h => by cases h) L
  | d + 1, L => valueOf_err (fun p h => by cases h; exact value_err d) L
theorem decode_err (b : Bs) : Err (decodeP b) := by
  unfold decodeP
  refine (value_err 12 _).bind (fun e h => by rw [h]) (fun x h => ?_)
  rw [h]
  dsimp only
  split
  · exact Err.ok _
  · exact Err.lit (by decide)
end Go.Proofs.YtminegmjklehnaaGreatDoor.J

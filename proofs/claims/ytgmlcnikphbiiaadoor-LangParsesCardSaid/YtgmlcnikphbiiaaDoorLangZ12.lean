/-
  The document's Parse: plain words; the walk.
-/
import Derived.Test.YtgmlcnikphbiiaaDoorLangZ11
namespace Go.Proofs.YtgmlcnikphbiiaaDoor.L
open Go.RowKit Go.Proofs.YtgmlcnikphbiiaaDoor.B Go.Proofs.YtgmlcnikphbiiaaDoor.S10 Go.Proofs.YtgmlcnikphbiiaaDoor.Nm
open Go.Proofs.YtgmlcnikphbiiaaDoor.C (QRow Turn wpList_append_q)
set_option linter.unusedVariables false
set_option linter.unusedSimpArgs false

theorem fin_tokens : ∀ (n : Nat) (l : Bs) (line col : Int), l.length ≤ n → FinL (tokens l line col) ∧ ∀ t ∈ tokens l line col, t.s.length ≤ l.length + 1
  | n, [], line, col, h => by
    rw [tokens_nil]
    exact ⟨.inl rfl, fun t ht => by simp at ht; rw [ht]; simp⟩
  | 0, c :: l, _, _, h => by simp at h
  | n + 1, c :: l, line, col, h => by
    have hl : l.length ≤ n := by simpa using h
    by_cases h10 : c = 10
    · subst h10
      rw [tokens_nl]
      obtain ⟨h1, h2⟩ := fin_tokens n l (line + 1) 1 hl
      exact ⟨h1, fun t ht => by have := h2 t ht; simp; omega⟩
    have h10' : (c == 10) = false := by simpa using h10
    cases hs : spaceC c with
    | true =>
      rw [tokens_space c l _ _ hs h10']
      obtain ⟨h1, h2⟩ := fin_tokens n l line (col + 1) hl
      exact ⟨h1, fun t ht => by have := h2 t ht; simp; omega⟩
    | false =>
      rw [tokens_tok c l _ _ hs]
      have hn := tokN_le (c :: l)
      split
      · exact ⟨.inr rfl, fun t ht => by simp at ht; rw [ht]; simp⟩
      · rename_i h0
        have hq := not_q (c := c) (r := l) rfl (Nat.pos_of_ne_zero h0)
        have hdl : ((c :: l).drop (tokN (c :: l))).length ≤ n := by rw [List.length_drop]; simp at h hn ⊢; omega
        obtain ⟨h1, h2⟩ := fin_tokens n ((c :: l).drop (tokN (c :: l))) line (col + tokN (c :: l)) hdl
        refine ⟨?_, fun t ht => ?_⟩
        · cases hx : tokens ((c :: l).drop (tokN (c :: l))) line (col + tokN (c :: l)) with
          | nil => rw [hx] at h1; exact h1.elim
          | cons u r => rw [hx] at h1; exact ⟨hq.1, hq.2, h1⟩
        · rcases List.mem_cons.1 ht with rfl | ht
          · show ((c :: l).take (tokN (c :: l))).length ≤ _
            rw [List.length_take]; omega
          · have := h2 t ht
            rw [List.length_drop] at this
            omega
/-! ### the plain words of the loops -/
def totI : Except Dg (List Tk) → R (List Rl)
  | .error d => .error d
  | .ok l => relsOf (l.length + 1) [] l
def IInv (acc2 : List Rl) (rr : Except Dg (List Tk)) (tot : R (List Rl)) : Prop := (∀ d, rr = .error d → tot = .error d) ∧ (∀ L, rr = .ok L → tot = relsOf (L.length + 1) acc2 L ∧ acc2.length + L.length ≤ 5000) ∧ acc2.length ≤ 5001
def IFin (acc2 : List Rl) (rr : Except Dg (List Tk)) (tot : R (List Rl)) : Prop := (∀ d, rr = .error d → tot = .error d) ∧ (∀ l, rr = .ok l → tot = .ok (acc2, l))
theorem IInv.stop {acc2 : List Rl} {rr : Except Dg (List Tk)} {tot : R (List Rl)} (h : IInv acc2 rr tot) (hv : ∀ L a' l, rr = .ok L → relS L = .ok (a', l) → none = a') : IFin acc2 (stp relS rr) tot := by
  cases rr with
  | error d => exact ⟨fun d' h' => by cases h'; exact h.1 d rfl, (fun l h => by cases h)⟩
  | ok L =>
    have h2 := (h.2.1 L rfl).1
    cases hr : relS L with
    | error d => rw [stp_err hr]; exact ⟨fun d' h' => by cases h'; rw [h2, relsOf_err hr], (fun l h => by cases h)⟩
    | ok p =>
      obtain ⟨a, l⟩ := p
      have := hv L a l rfl hr
      subst this
      rw [stp_ok hr]
      exact ⟨(fun d h => by cases h), fun l' h' => by cases h'; rw [h2, relsOf_end hr]⟩
theorem IInv.next {acc2 : List Rl} {rr : Except Dg (List Tk)} {tot : R (List Rl)} {x : Rl} (h : IInv acc2 rr tot) (hok : ∀ d, rr ≠ .error d) (hv : ∀ L a' l, rr = .ok L → relS L = .ok (a', l) → some x = a') : IInv (acc2 ++ [x]) (stp relS rr) tot := by
  have hlen : (acc2 ++ [x]).length = acc2.length + 1 := by simp
  cases rr with
  | error d => exact absurd rfl (hok d)
  | ok L =>
    obtain ⟨h2, h3⟩ := h.2.1 L rfl
    cases hr : relS L with
    | error d => rw [stp_err hr]; exact ⟨fun d' h' => by cases h'; rw [h2, relsOf_err hr], (fun l h => by cases h), by omega⟩
    | ok p =>
      obtain ⟨a, l⟩ := p
      have := hv L a l rfl hr
      subst this
      have hl := less1_rel hr
      rw [stp_ok hr]
      exact ⟨(fun d h => by cases h), fun l' h' => by cases h'; exact ⟨by rw [h2, relsOf_on (Nat.le_refl _) hr], by omega⟩, by omega⟩
def OInv (acc : List Ty) (r : Except Dg (List Tk)) (tot : R (List Ty)) : Prop := (∀ d, r = .error d → tot = .error d) ∧ (∀ L, r = .ok L → tot = typesGo (L.length + 1) acc L ∧ acc.length + L.length ≤ 5000) ∧ acc.length ≤ 5001
theorem OInv.next {acc : List Ty} {L : List Tk} {tot : R (List Ty)} {s : Bs} {acc2 : List Rl} {rF : Except Dg (List Tk)} (h : OInv acc (.ok L) tot) (hb : (hasS sType L).1 = true) (hs : ∀ L' a' l, (Except.ok (hasS sType L).2 : Except Dg (List Tk)) = .ok L' → nameS L' = .ok (a', l) → s = a')
    (hf : IFin acc2 rF (totI (stp nameS (.ok (hasS sType L).2)))) : OInv (acc ++ [⟨s, acc2⟩]) rF tot := by
  have hlen : (acc ++ [(⟨s, acc2⟩ : Ty)]).length = acc.length + 1 := by simp
  obtain ⟨h2, h3⟩ := h.2.1 L rfl
  have hl0 := hasS_less hb
  cases hn : nameS (hasS sType L).2 with
  | error d =>
    rw [stp_err hn] at hf
    refine ⟨fun d' h' => ?_, fun l h' => ?_, by omega⟩
    · have := hf.1 d' h'
      cases this
      rw [h2, typesGo_err hb hn]
    · have := hf.2 l h'
      cases this
  | ok p =>
    obtain ⟨a, l1⟩ := p
    have := hs _ a l1 rfl hn
    subst this
    rw [stp_ok hn] at hf
    have hl1 := less_name _ _ _ hn
    have hti : totI (.ok l1) = relsOf (l1.length + 1) [] l1 := rfl
    rw [hti] at hf
    refine ⟨fun d' h' => ?_, fun l h' => ?_, by omega⟩
    · rw [h2, typesGo_in hb hn, hf.1 d' h']
    · have hr := hf.2 l h'
      have hl2 := relsOf_less _ _ _ _ _ hr
      rw [h2, typesGo_in hb hn, hr]
      exact ⟨typesGo_fuel _ _ _ _ (by omega) (by omega), by omega⟩
theorem OInv.stop {acc : List Ty} {L : List Tk} {tot : R (List Ty)} (h : OInv acc (.ok L) tot) (hb : (hasS sType L).1 = false) : tot = .ok (acc, L) := by
  rw [(h.2.1 L rfl).1, typesGo_end hb, hasS_no hb]
end Go.Proofs.YtgmlcnikphbiiaaDoor.L

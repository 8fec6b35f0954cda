/-
  What is printed is read again: references, relations, types, schemas.
-/
import Derived.Test.YtgmlcnikphbiiaaDoorLangPb
namespace Go.Proofs.YtgmlcnikphbiiaaDoor.L
open Go.RowKit Go.Proofs.YtgmlcnikphbiiaaDoor.B Go.Proofs.YtgmlcnikphbiiaaDoor.S10 Go.Proofs.YtgmlcnikphbiiaaDoor.Nm
set_option linter.unusedVariables false
set_option linter.unusedSimpArgs false

theorem refs_read : ∀ (xs : List Rf), xs.all mayF = true → xs ≠ [] → ∀ (f : Nat) (acc : List Rf) (L L' : List Tk), L.map (·.s) = refsW xs → (L ++ L').length < f → NoHd [35, 124] L' → refsGo f acc (L ++ L') = .ok (acc ++ xs, L')
  | [], _, h, _, _, _, _, _, _, _ => absurd rfl h
  | [x], h, _, f, acc, L, L', hL, hf, hL' => by
    simp only [List.all_cons, List.all_nil, Bool.and_true] at h
    cases f with
    | zero => omega
    | succ f =>
      have hr := ref_read h hL (L' := L') (fun t l e c hc => hL' t l e c (by simp at hc; simp [hc]))
      have hh := hL'.has (c := 124) (by simp)
      rw [refsGo_end hr (by rw [hh]), hh]
  | x :: y :: l, h, _, f, acc, L, L', hL, hf, hL' => by
    rw [List.all_cons, Bool.and_eq_true] at h
    obtain ⟨l1, l2, rfl, h1, h2⟩ := words_app hL
    obtain ⟨p, l3, rfl, hp, h3⟩ := words_cons h2
    cases f with
    | zero => omega
    | succ f =>
      have hr := ref_read h.1 h1 (L' := p :: (l3 ++ L')) (noHd_cons (fun c hc => by rw [hp]; simp at hc; subst hc; rfl))
      have hh : hasS [124] (p :: (l3 ++ L')) = (true, l3 ++ L') := by rw [hasS_cons, hp]; rfl
      have e1 : l1 ++ p :: l3 ++ L' = l1 ++ p :: (l3 ++ L') := by simp
      rw [e1] at hf ⊢
      rw [refsGo, hr]
      dsimp only
      rw [hh]
      show refsGo f (acc ++ [x]) (l3 ++ L') = _
      have := refs_read (y :: l) h.2 (by simp) f (acc ++ [x]) l3 L' h3 (by simp at hf ⊢; omega) hL'
      rw [this]
      simp
def normR (r : Rl) : Rl := ⟨r.name, r.refs, if r.refs.isEmpty then normE r.ex else leaf 0 [] []⟩
def normT (t : Ty) : Ty := ⟨t.name, t.rels.map normR⟩
/-- where a relation's line ends. -/
def EndK (L : List Tk) : Prop := ∃ t l, L = t :: l ∧ (t.s = [] ∨ t.s = sType ∨ t.s = sRelation ∨ t.s = sDefine)
theorem EndK.no {L : List Tk} (h : EndK L) {cs : List UInt8} (hc : ∀ c ∈ cs, lowC c = false) : NoHd cs L := by
  obtain ⟨t, l, rfl, h⟩ := h
  refine noHd_cons (fun c hcc => ?_)
  rcases h with h | h | h | h
  · rw [h]; rfl
  · rw [h]; exact word_sign wordB_type (hc c hcc)
  · rw [h]; exact word_sign wordB_relation (hc c hcc)
  · rw [h]; exact word_sign wordB_define (hc c hcc)
theorem rel_read {r : Rl} (h : mayR r = true) {L L' : List Tk} (hL : L.map (·.s) = lineW r) (hL' : EndK L') : relS (L ++ L') = .ok (some (normR r), L') := by
  obtain ⟨name, refs, ex⟩ := r
  unfold mayR at h
  unfold lineW at hL
  unfold normR
  rw [Bool.and_eq_true] at h
  cases hr : refs.isEmpty with
  | true =>
    have he := List.isEmpty_iff.1 hr
    subst he
    obtain ⟨t, l, rfl, ht, hl⟩ := words_cons hL
    obtain ⟨u, l, rfl, hu, hl⟩ := words_cons hl
    obtain ⟨v, l, rfl, hv, hl⟩ := words_cons hl
    have hx : mayE ex 12 = true := h.2
    have he := expr_read hx hl (hL'.no (by decide))
    show relS (t :: u :: v :: (l ++ L')) = _
    rw [relS_def (by rw [ht]; rfl) (by rw [ht]; rfl), relHead_ok (nameS_w hu h.1) (mustS_ok (by rw [hv]; rfl))]
    unfold relTail
    simp only [Bool.false_eq_true, if_false]
    rw [he]
    rfl
  | false =>
    have hne : refs ≠ [] := fun e => by rw [e] at hr; cases hr
    simp only [hr, Bool.false_eq_true, if_false] at hL h ⊢
    obtain ⟨t, l, rfl, ht, hl⟩ := words_cons hL
    obtain ⟨u, l, rfl, hu, hl⟩ := words_cons hl
    obtain ⟨v, l, rfl, hv, hl⟩ := words_cons hl
    have he := refs_read refs h.2 hne ((l ++ L').length + 1) [] l L' hl (by omega) (hL'.no (by decide))
    show relS (t :: u :: v :: (l ++ L')) = _
    rw [relS_rel (by rw [ht]; rfl), relHead_ok (nameS_w hu h.1) (mustS_ok (by rw [hv]; rfl))]
    unfold relTail refsS
    rw [if_pos rfl, he]
    rfl
/-- where the relations of a type end. -/
def EndT (L : List Tk) : Prop := ∃ t l, L = t :: l ∧ (t.s = [] ∨ t.s = sType)
theorem EndT.k {L : List Tk} (h : EndT L) : EndK L := by
  obtain ⟨t, l, rfl, h⟩ := h
  exact ⟨t, l, rfl, h.elim .inl (fun h => .inr (.inl h))⟩
theorem lines_end : ∀ (rs : List Rl) (L L' : List Tk), L.map (·.s) = rs.flatMap lineW → EndT L' → EndK (L ++ L')
  | [], L, L', h, h' => by rw [words_nil h]; exact h'.k
  | r :: rs, L, L', h, h' => by
    rw [List.flatMap_cons] at h
    unfold lineW at h
    split at h
    · obtain ⟨t, l, rfl, ht, hl⟩ := words_cons (by simpa using h)
      exact ⟨t, l ++ L', rfl, .inr (.inr (.inr ht))⟩
    · obtain ⟨t, l, rfl, ht, hl⟩ := words_cons (by simpa using h)
      exact ⟨t, l ++ L', rfl, .inr (.inr (.inl ht))⟩
theorem rels_read : ∀ (rs : List Rl), rs.all mayR = true → ∀ (f : Nat) (acc : List Rl) (L L' : List Tk), L.map (·.s) = rs.flatMap lineW → (L ++ L').length < f → EndT L' → relsOf f acc (L ++ L') = .ok (acc ++ rs.map normR, L')
  | [], _, f, acc, L, L', hL, hf, hL' => by
    rw [words_nil hL]
    cases f with
    | zero => omega
    | succ f =>
      obtain ⟨t, l, rfl, h⟩ := hL'
      have : relS (t :: l) = .ok (none, t :: l) := by
        rw [relS_cons]
        rcases h with h | h <;> (rw [h]; rfl)
      rw [List.nil_append, relsOf_end this]
      simp
  | r :: rs, h, f, acc, L, L', hL, hf, hL' => by
    rw [List.all_cons, Bool.and_eq_true] at h
    rw [List.flatMap_cons] at hL
    obtain ⟨l1, l2, rfl, h1, h2⟩ := words_app hL
    cases f with
    | zero => omega
    | succ f =>
      rw [List.append_assoc] at hf ⊢
      have hr := rel_read h.1 h1 (lines_end rs l2 L' h2 hL')
      have hlt := less1_rel hr
      rw [relsOf_on (by omega) hr, rels_read rs h.2 _ _ l2 L' h2 (by omega) hL']
      simp
theorem types_end : ∀ (ts : List Ty) (L L' : List Tk), L.map (·.s) = ts.flatMap tyW → (∃ t l, L' = t :: l ∧ t.s = []) → EndT (L ++ L')
  | [], L, L', h, ⟨t, l, e, he⟩ => by rw [words_nil h]; exact ⟨t, l, e, .inl he⟩
  | t :: ts, L, L', h, _ => by
    rw [List.flatMap_cons] at h
    unfold tyW at h
    obtain ⟨t, l, rfl, ht, hl⟩ := words_cons (by simpa using h)
    exact ⟨t, l ++ L', rfl, .inr ht⟩
theorem types_read : ∀ (ts : List Ty), ts.all mayT = true → ∀ (f : Nat) (acc : List Ty) (L L' : List Tk), L.map (·.s) = ts.flatMap tyW → (L ++ L').length < f → (∃ t l, L' = t :: l ∧ t.s = []) → typesGo f acc (L ++ L') = .ok (acc ++ ts.map normT, L')
  | [], _, f, acc, L, L', hL, hf, ⟨t, l, e, he⟩ => by
    rw [words_nil hL]
    subst e
    cases f with
    | zero => omega
    | succ f =>
      have hh : hasS sType (t :: l) = (false, t :: l) := by rw [hasS_cons, he]; rfl
      rw [List.nil_append, typesGo_end (by rw [hh]), hh]
      simp
  | t :: ts, h, f, acc, L, L', hL, hf, hL' => by
    rw [List.all_cons, Bool.and_eq_true] at h
    obtain ⟨ha, hb⟩ := h
    unfold mayT at ha
    rw [Bool.and_eq_true] at ha
    rw [List.flatMap_cons] at hL
    obtain ⟨l1, l2, rfl, h1, h2⟩ := words_app hL
    unfold tyW at h1
    obtain ⟨p, l1, rfl, hp, h1⟩ := words_cons h1
    obtain ⟨q, l1, rfl, hq, h1⟩ := words_cons h1
    cases f with
    | zero => omega
    | succ f =>
      have hh : hasS sType (p :: q :: (l1 ++ (l2 ++ L'))) = (true, q :: (l1 ++ (l2 ++ L'))) := by rw [hasS_cons, hp]; rfl
      have e1 : p :: q :: l1 ++ l2 ++ L' = p :: q :: (l1 ++ (l2 ++ L')) := by simp
      rw [e1] at hf ⊢
      have hr := rels_read t.rels ha.2 ((l1 ++ (l2 ++ L')).length + 1) [] l1 (l2 ++ L') h1 (by omega) (types_end ts l2 L' h2 hL')
      rw [typesGo_in (by rw [hh]) (by rw [hh]; exact nameS_w hq ha.1), hr]
      dsimp only
      rw [types_read ts hb f _ l2 L' h2 (by simp at hf ⊢; omega) hL']
      simp [normT]
/-- what is printed is parsed as it was, but for what is not printed. -/
theorem parse_print {ts : List Ty} (h : mayS ts = true) (hl : (printT ts).length ≤ 4096) : parseP (printT ts) = .ok (ts.map normT) := by
  obtain ⟨L, e, h1, h2, h3⟩ := tokens_print h 1 1
  have ht := types_read ts h ((L ++ [e]).length + 1) [] L [e] h1 (by omega) ⟨e, [], rfl, h2⟩
  unfold parseP
  rw [if_neg (by omega), h3, schemaS_eq, ht]
  show (match fin3 (.ok ([] ++ ts.map normT, [e])) with
    | .error d => _
    | .ok (ts, _) => _) = _
  have : fin3 (.ok ([] ++ ts.map normT, [e])) = .ok (ts.map normT, [e]) := by
    show (if e.s == [] then _ else _) = _
    rw [h2]; rfl
  rw [this]
end Go.Proofs.YtgmlcnikphbiiaaDoor.L

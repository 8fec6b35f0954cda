/-
  Schemas: the same, but for what is not printed; the laws of printing and reading.
-/
import Derived.Test.YtgmlcnikphbiiaaDoorLangPd
namespace Go.Proofs.YtgmlcnikphbiiaaDoor.L
open Go.RowKit Go.Proofs.YtgmlcnikphbiiaaDoor.B Go.Proofs.YtgmlcnikphbiiaaDoor.S10 Go.Proofs.YtgmlcnikphbiiaaDoor.Nm
set_option linter.unusedVariables false
set_option linter.unusedSimpArgs false

theorem rfB_same (x : Rf) : rfB x x = true := by unfold rfB; simp
theorem norm_rel {r : Rl} (h : mayR r = true) : relsB r (normR r) = true ∧ relsB (normR r) r = true ∧ lineT (normR r) = lineT r := by
  obtain ⟨name, refs, ex⟩ := r
  unfold mayR at h
  rw [Bool.and_eq_true] at h
  cases hr : refs.isEmpty with
  | true =>
    have he := List.isEmpty_iff.1 hr
    subst he
    obtain ⟨h1, h2, h3, h4⟩ := norm_same 12 ex h.2
    refine ⟨?_, ?_, ?_⟩
    · show ((name == name) && ((([] : List Rf).length == ([] : List Rf).length) && (true && (decide (0 < ([] : List Rf).length) || exprsB ex (normE ex))))) = true
      rw [h2]; simp
    · show ((name == name) && ((([] : List Rf).length == ([] : List Rf).length) && (true && (decide (0 < ([] : List Rf).length) || exprsB (normE ex) ex)))) = true
      rw [h1]; simp
    · show defineB ++ name ++ [58, 32] ++ showE (normE ex) ++ [10] = defineB ++ name ++ [58, 32] ++ showE ex ++ [10]
      rw [h3]
  | false =>
    have hpos : 0 < refs.length := by cases refs with
      | nil => cases hr
      | cons a b => simp
    have hn : normR ⟨name, refs, ex⟩ = ⟨name, refs, leaf 0 [] []⟩ := by unfold normR; simp [hr]
    rw [hn]
    refine ⟨?_, ?_, ?_⟩
    · unfold relsB
      rw [(allTo_iff _).2 (fun i => rfB_same _)]
      simp [hpos]
    · unfold relsB
      rw [(allTo_iff _).2 (fun i => rfB_same _)]
      simp [hpos]
    · unfold lineT
      simp only [hr, Bool.false_eq_true, if_false]
theorem rlAt_map {rs : List Rl} {i : Nat} (h : i < rs.length) : rlAt (rs.map normR) i = normR (rlAt rs i) := by
  unfold rlAt
  rw [List.getD_eq_getElem?_getD, List.getD_eq_getElem?_getD, List.getElem?_map, List.getElem?_eq_getElem h]; rfl
theorem rlAt_mem {rs : List Rl} {i : Nat} (h : i < rs.length) : rlAt rs i ∈ rs := by
  unfold rlAt
  rw [List.getD_eq_getElem?_getD, List.getElem?_eq_getElem h]
  exact List.getElem_mem h
theorem tyAt_map {ts : List Ty} {i : Nat} (h : i < ts.length) : tyAt (ts.map normT) i = normT (tyAt ts i) := by
  unfold tyAt
  rw [List.getD_eq_getElem?_getD, List.getD_eq_getElem?_getD, List.getElem?_map, List.getElem?_eq_getElem h]; rfl
theorem tyAt_mem {ts : List Ty} {i : Nat} (h : i < ts.length) : tyAt ts i ∈ ts := by
  unfold tyAt
  rw [List.getD_eq_getElem?_getD, List.getElem?_eq_getElem h]
  exact List.getElem_mem h
theorem norm_lines : ∀ (rs : List Rl), rs.all mayR = true → (rs.map normR).flatMap lineT = rs.flatMap lineT
  | [], _ => rfl
  | r :: rs, h => by
    rw [List.all_cons, Bool.and_eq_true] at h
    rw [List.map_cons, List.flatMap_cons, List.flatMap_cons, (norm_rel h.1).2.2, norm_lines rs h.2]
theorem norm_ty {t : Ty} (h : mayT t = true) : tysB t (normT t) = true ∧ tysB (normT t) t = true ∧ tyT (normT t) = tyT t := by
  obtain ⟨name, rels⟩ := t
  unfold mayT at h
  rw [Bool.and_eq_true] at h
  have hm := List.all_eq_true.1 h.2
  have hl : (normT ⟨name, rels⟩).rels.length = rels.length := by show (rels.map normR).length = _; simp
  refine ⟨?_, ?_, ?_⟩
  · unfold tysB
    rw [(allTo_iff _).2 (fun i => by
      show relsB (rlAt rels i) (rlAt (rels.map normR) i) = true
      rw [rlAt_map i.2]
      exact (norm_rel (hm _ (rlAt_mem i.2))).1), hl]
    show ((name == name) && ((rels.length == rels.length) && true)) = true
    simp
  · unfold tysB
    rw [(allTo_iff _).2 (fun i => by
      have hi : i.val < rels.length := Nat.lt_of_lt_of_eq i.2 hl
      show relsB (rlAt (rels.map normR) i) (rlAt rels i) = true
      rw [rlAt_map hi]
      exact (norm_rel (hm _ (rlAt_mem hi))).2.1), hl]
    show ((name == name) && ((rels.length == rels.length) && true)) = true
    simp
  · show typeB ++ name ++ [10] ++ (rels.map normR).flatMap lineT = typeB ++ name ++ [10] ++ rels.flatMap lineT
    rw [norm_lines rels h.2]
theorem norm_print : ∀ (ts : List Ty), mayS ts = true → printT (ts.map normT) = printT ts
  | [], _ => rfl
  | t :: ts, h => by
    unfold mayS at h
    rw [List.all_cons, Bool.and_eq_true] at h
    have := norm_print ts h.2
    unfold printT at this ⊢
    rw [List.map_cons, List.flatMap_cons, List.flatMap_cons, (norm_ty h.1).2.2, this]
theorem norm_sch {ts : List Ty} (h : mayS ts = true) : schemasB ts (ts.map normT) = true ∧ schemasB (ts.map normT) ts = true := by
  have hm := List.all_eq_true.1 (show ts.all mayT = true from h)
  have hl : (ts.map normT).length = ts.length := by simp
  refine ⟨?_, ?_⟩
  · unfold schemasB
    rw [(allTo_iff _).2 (fun i => by
      rw [tyAt_map i.2]
      exact (norm_ty (hm _ (tyAt_mem i.2))).1), hl]
    simp
  · unfold schemasB
    rw [(allTo_iff _).2 (fun i => by
      have hi : i.val < ts.length := Nat.lt_of_lt_of_eq i.2 hl
      rw [tyAt_map hi]
      exact (norm_ty (hm _ (tyAt_mem hi))).2.1), hl]
    simp
/-- LangBack, plain. -/
theorem back {ts : List Ty} (h : mayS ts = true) (hl : (printP ts).length ≤ 4096) : ∃ ts', parseP (printP ts) = .ok ts' ∧ schemasB ts' ts = true ∧ schemasB ts ts' = true ∧ mayS ts' = true ∧ printP ts' = printP ts := by
  have e : printP ts = printT ts := by unfold printP; rw [if_pos h]
  rw [e] at hl ⊢
  have hp := parse_print h hl
  obtain ⟨h1, h2⟩ := norm_sch h
  have hm := parse_may hp
  refine ⟨_, hp, h2, h1, hm, ?_⟩
  unfold printP
  rw [if_pos hm, norm_print ts h]
/-- LangAgain, plain. -/
theorem again {text : Bs} {ts : List Ty} (h : parseP text = .ok ts) (hl : (printP ts).length ≤ 4096) : mayS ts = true ∧ ∃ ts', parseP (printP ts) = .ok ts' ∧ schemasB ts ts' = true ∧ printP ts' = printP ts := by
  have hm := parse_may h
  obtain ⟨ts', h1, h2, h3, h4, h5⟩ := back hm hl
  exact ⟨hm, ts', h1, h3, h5⟩
end Go.Proofs.YtgmlcnikphbiiaaDoor.L

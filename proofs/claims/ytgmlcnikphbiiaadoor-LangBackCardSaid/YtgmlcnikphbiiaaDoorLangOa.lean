/-
  A schema, an expression that came in: opened to the plain words.
-/
import Derived.Test.YtgmlcnikphbiiaaDoorLangPi
import Derived.ProofKit
import Derived.OpenShut
import Derived.ChangeOld
import Derived.ChangeArms
import Derived.Deep.Slices
namespace Go.Proofs.YtgmlcnikphbiiaaDoor.L
open Go.RowKit Go.Proofs.YtgmlcnikphbiiaaDoor.B Go.ChangeShapes Go.WideShapes
set_option linter.unusedVariables false
set_option linter.unusedSimpArgs false

variable {H : Type} {enc : TypeId × Value → H} {w : World} {base : Nat} {spare : Nat → Bool} {held : Bool}
abbrev Ev : Nat → Prop := fun _ => True
theorem str_vs (s : ByteArray) : Value.string s = vs s.data.toList := by
  obtain ⟨⟨l⟩⟩ := s
  rfl
theorem str_len {s : ByteArray} (h : s.size ≤ maxLen) : s.data.toList.length ≤ 9223372036854775807 := by
  have hmx : maxLen = 9223372036854775807 := by unfold maxLen; rfl
  obtain ⟨⟨l⟩⟩ := s
  rw [hmx] at h
  exact h
/-- a slice that came in, opened: its elements by their own law. -/
theorem open_sl {α : Type} {P : Program} {t e : TypeId} {size n : Nat} {R : α → List Value → Prop} {Q : α → Prop} (ht : P.underlying t = some (.slice e)) (hc : P.cellsOf e = size) {cs : List Value} {x : DataW H × List MemPlace}
    (h : DataW.trod enc P w base spare held (n + 1) t cs = some x) (he : ∀ cs y, DataW.trod enc P w base spare held n e cs = some y → ∃ a, R a cs ∧ Q a) :
    ∃ A len cap xs, cs = [.slice A len cap] ∧ SlV w Ev size R xs A len ∧ ∀ x ∈ xs, Q x := by
  have hmx : maxLen = 9223372036854775807 := by unfold maxLen; rfl
  rcases DataW.trod_slice ht h with ⟨rfl, -⟩ | ⟨a, len, cap, elems, rest, m, hm, rfl, -, hb, hl, hmax, hlen, hel, -, -⟩
  · exact ⟨none, 0, 0, [], rfl, ⟨rfl, by omega, fun k x hx => by simp at hx⟩, fun x hx => by simp at hx⟩
  · obtain rfl : m = n := by omega
    have each : ∀ i : Fin len, ∃ q : α × List Value, w.cells? base (a.add (i.val * size)) size = some q.2 ∧ R q.1 q.2 ∧ Q q.1 := by
      intro i
      have h1 := hel i.val i.2
      rw [List.getElem?_eq_getElem (by omega), hc, Option.bind_eq_some_iff] at h1
      obtain ⟨cs', h2, h3⟩ := h1
      obtain ⟨b, h4, h5⟩ := he _ _ h3
      exact ⟨(b, cs'), h2, h4, h5⟩
    have hf := fun i => Classical.choose_spec (each i)
    refine ⟨some a, len, cap, List.ofFn (fun i => (Classical.choose (each i)).1), rfl, ⟨by simp, by omega, fun k x hx => ?_⟩, fun x hx => ?_⟩
    · rw [List.getElem?_ofFn] at hx
      split at hx
      · rename_i hk
        cases hx
        obtain ⟨h1, h2, h3⟩ := hf ⟨k, hk⟩
        obtain ⟨h4, h5, h6⟩ := World.cells?_some h1
        refine ⟨a, _, _, rfl, rfl, trivial, h5, fun j u hu => ?_, h2⟩
        have hj : j < size := by
          rw [← h5]
          exact (List.getElem?_eq_some_iff.1 hu).1
        rw [h6 j hj]
        exact hu
      · cases hx
    · rw [List.mem_ofFn] at hx
      obtain ⟨i, rfl⟩ := hx
      exact (hf i).2.2
theorem open_str {n : Nat} {cs : List Value} {x : DataW H × List MemPlace} (h : DataW.trod enc Tryd.prog w base spare held n 9 cs = some x) : ∃ s, cs = [vs s] ∧ s.length ≤ 9223372036854775807 := by
  obtain ⟨s, rfl, -, hs⟩ := DataW.trod_string Tryd.underlying9 h
  exact ⟨s.data.toList, by rw [str_vs], str_len hs⟩
theorem one_str {v : Value} {s : Bs} (h : [v] = [vs s]) : v = vs s := by simpa using h
theorem cOf_Expr : Tryd.prog.cellsOf 38 = 4 := by kernel_rfl
theorem cOf_Ref : Tryd.prog.cellsOf 81 = 2 := by kernel_rfl
theorem cOf_Rel : Tryd.prog.cellsOf 48 = 6 := by kernel_rfl
theorem cOf_Type : Tryd.prog.cellsOf 35 = 2 := by kernel_rfl
theorem cOf_Schema : Tryd.prog.cellsOf 25 = 1 := by kernel_rfl
theorem cOf_string : Tryd.prog.cellsOf 9 = 1 := by kernel_rfl
theorem cOf_int : Tryd.prog.cellsOf 3 = 1 := by kernel_rfl
theorem cOf_kids : Tryd.prog.cellsOf 36 = 1 := by kernel_rfl
theorem cOf_refs : Tryd.prog.cellsOf 46 = 1 := by kernel_rfl
theorem cOf_rels : Tryd.prog.cellsOf 33 = 1 := by kernel_rfl
theorem cOf_types : Tryd.prog.cellsOf 23 = 1 := by kernel_rfl
theorem four_list {α : Type} {l : List α} (h : l.length = 4) : ∃ a b c d, l = [a, b, c, d] := by
  match l, h with
  | [a, b, c, d], _ => exact ⟨a, b, c, d, rfl⟩
theorem get_some {α : Type} {l : List α} {n k : Nat} (h : l.length = n) (hk : k < n) : ∃ y, l[k]? = some y := ⟨l[k]'(by omega), List.getElem?_eq_getElem (by omega)⟩
set_option maxRecDepth 100000 in
theorem open_ex : ∀ (n : Nat) (cs : List Value) (x : DataW H × List MemPlace), DataW.trod enc Tryd.prog w base spare held n 38 cs = some x → ∃ e : Ex, ExV w Ev e (.agg cs.toArray) ∧ e.Fit
  | 0, cs, x, h => by simp [DataW.trod] at h
  | n + 1, cs, x, h => by
    obtain ⟨xs, m, hm, -, hlen, hxl, hg⟩ := DataW.trod_struct Tryd.underlying38 h
    obtain rfl : m = n := by omega
    rw [cOf_Expr] at hlen
    obtain ⟨c0, c1, c2, c3, rfl⟩ := four_list hlen
    have hxl : xs.length = 4 := hxl
    obtain ⟨y0, e0⟩ := get_some (k := 0) hxl (by omega)
    obtain ⟨y1, e1⟩ := get_some (k := 1) hxl (by omega)
    obtain ⟨y2, e2⟩ := get_some (k := 2) hxl (by omega)
    obtain ⟨y3, e3⟩ := get_some (k := 3) hxl (by omega)
    have g0 := hg 0 _ rfl
    have g1 := hg 1 _ rfl
    have g2 := hg 2 _ rfl
    have g3 := hg 3 _ rfl
    rw [e0] at g0
    rw [e1] at g1
    rw [e2] at g2
    rw [e3] at g3
    simp [cOf_string, cOf_int, cOf_kids] at g0 g1 g2 g3
    obtain ⟨k, h0, -, -⟩ := DataW.trod_int Tryd.underlying3 g0
    obtain ⟨a, h1, ha⟩ := open_str g1
    obtain ⟨b, h2, hb⟩ := open_str g2
    simp only [List.cons.injEq, and_true] at h0
    have h1 := one_str h1
    have h2 := one_str h2
    subst h0 h1 h2
    cases m with
    | zero => simp [DataW.trod] at g3
    | succ m =>
      obtain ⟨A, len, cap, xs, h3, hsl, hq⟩ := open_sl (R := fun e cs => ExV w Ev e (.agg cs.toArray)) (Q := Ex.Fit) Tryd.underlying36 cOf_Expr g3 (fun cs y hy => open_ex m cs y hy)
      simp only [List.cons.injEq, and_true] at h3
      subst h3
      have hl := hsl.1
      refine ⟨.mk k a b len (fun i => xs[i.val]'(by rw [hl]; exact i.2)), ?_, ha, hb, fun i => hq _ (List.getElem_mem _)⟩
      unfold ExV
      refine ⟨A, cap, rfl, hsl.2.1, fun i => ?_⟩
      obtain ⟨ad, bd, cs', k1, k2, -, k4, k5, k6⟩ := hsl.2.2 i.val _ (List.getElem?_eq_getElem (by rw [hl]; exact i.2))
      obtain ⟨v0, v1, v2, v3, rfl⟩ := four_list k4
      have q0 := k5 0 _ rfl
      have q1 := k5 1 _ rfl
      have q2 := k5 2 _ rfl
      have q3 := k5 3 _ rfl
      rw [add_zero] at q0
      rw [Addr.add_succ'] at q1 q2 q3
      exact ⟨ad, bd, v0, v1, v2, v3, k1, k2, trivial, q0, q1, q2, q3, k6⟩
theorem two_list {α : Type} {l : List α} (h : l.length = 2) : ∃ a b, l = [a, b] := by
  match l, h with
  | [a, b], _ => exact ⟨a, b, rfl⟩
set_option maxRecDepth 100000 in
theorem open_ref {n : Nat} {cs : List Value} {x : DataW H × List MemPlace} (h : DataW.trod enc Tryd.prog w base spare held n 81 cs = some x) : ∃ r : Rf, RefR r cs ∧ FitF r := by
  obtain ⟨xs, m, hm, -, hlen, hxl, hg⟩ := DataW.trod_struct Tryd.underlying81 h
  rw [cOf_Ref] at hlen
  obtain ⟨c0, c1, rfl⟩ := two_list hlen
  have hxl : xs.length = 2 := hxl
  obtain ⟨y0, e0⟩ := get_some (k := 0) hxl (by omega)
  obtain ⟨y1, e1⟩ := get_some (k := 1) hxl (by omega)
  have g0 := hg 0 _ rfl
  have g1 := hg 1 _ rfl
  rw [e0] at g0
  rw [e1] at g1
  simp [cOf_string] at g0 g1
  obtain ⟨a, h1, ha⟩ := open_str g0
  obtain ⟨b, h2, hb⟩ := open_str g1
  have h1 := one_str h1
  have h2 := one_str h2
  subst h1 h2
  exact ⟨⟨a, b⟩, rfl, ha, hb⟩
theorem fitF_all {xs : List Rf} (h : ∀ x ∈ xs, FitF x) (i : Nat) : FitF (rfAt xs i) := by
  unfold rfAt
  rw [List.getD_eq_getElem?_getD]
  by_cases hi : i < xs.length
  · rw [List.getElem?_eq_getElem hi]
    exact h _ (List.getElem_mem hi)
  · rw [List.getElem?_eq_none (by omega)]
    exact ⟨by simp, by simp⟩
theorem fitL (k : Int) : (leaf k [] []).Fit := ⟨by simp, by simp, fun i => i.elim0⟩
theorem fitR_all {xs : List Rl} (h : ∀ x ∈ xs, FitR x) (i : Nat) : FitR (rlAt xs i) := by
  unfold rlAt
  rw [List.getD_eq_getElem?_getD]
  by_cases hi : i < xs.length
  · rw [List.getElem?_eq_getElem hi]
    exact h _ (List.getElem_mem hi)
  · rw [List.getElem?_eq_none (by omega)]
    exact ⟨by simp, fun i => fitF_all (fun x hx => by simp at hx) i, fitL 0⟩
theorem fitS_all {xs : List Ty} (h : ∀ x ∈ xs, FitT x) : FitS xs := by
  intro i
  unfold tyAt
  rw [List.getD_eq_getElem?_getD]
  by_cases hi : i < xs.length
  · rw [List.getElem?_eq_getElem hi]
    exact h _ (List.getElem_mem hi)
  · rw [List.getElem?_eq_none (by omega)]
    exact ⟨by simp, fun i => fitR_all (fun x hx => by simp at hx) i⟩
theorem six_list {α : Type} {l : List α} (h : l.length = 6) : ∃ a b c d e f, l = [a, b, c, d, e, f] := by
  match l, h with
  | [a, b, c, d, e, f], _ => exact ⟨a, b, c, d, e, f, rfl⟩
set_option maxRecDepth 100000 in
theorem open_rel {n : Nat} {cs : List Value} {x : DataW H × List MemPlace} (h : DataW.trod enc Tryd.prog w base spare held n 48 cs = some x) : ∃ r : Rl, RelR w Ev r cs ∧ FitR r := by
  obtain ⟨xs, m, hm, -, hlen, hxl, hg⟩ := DataW.trod_struct Tryd.underlying48 h
  rw [cOf_Rel] at hlen
  obtain ⟨c0, c1, c2, c3, c4, c5, rfl⟩ := six_list hlen
  have hxl : xs.length = 3 := hxl
  obtain ⟨y0, e0⟩ := get_some (k := 0) hxl (by omega)
  obtain ⟨y1, e1⟩ := get_some (k := 1) hxl (by omega)
  obtain ⟨y2, e2⟩ := get_some (k := 2) hxl (by omega)
  have g0 := hg 0 _ rfl
  have g1 := hg 1 _ rfl
  have g2 := hg 2 _ rfl
  rw [e0] at g0
  rw [e1] at g1
  rw [e2] at g2
  simp [cOf_string, cOf_refs, cOf_Expr] at g0 g1 g2
  obtain ⟨a, h1, ha⟩ := open_str g0
  have h1 := one_str h1
  subst h1
  obtain ⟨e, he, hfe⟩ := open_ex _ _ _ g2
  obtain ⟨k, p, q, A', n', c', hform⟩ := he.form
  simp only [Value.agg.injEq, Array.mk.injEq, List.cons.injEq, and_true] at hform
  obtain ⟨rfl, rfl, rfl, rfl⟩ := hform
  cases m with
  | zero => simp [DataW.trod] at g1
  | succ m =>
    obtain ⟨A, len, cap, rs, h3, hsl, hq⟩ := open_sl (R := RefR) (Q := FitF) Tryd.underlying46 cOf_Ref g1 (fun cs y hy => open_ref hy)
    simp only [List.cons.injEq, and_true] at h3
    subst h3
    exact ⟨⟨a, rs, e⟩, ⟨A, len, cap, k, p, q, A', n', c', rfl, hsl, he⟩, ha, fitF_all hq, hfe⟩
set_option maxRecDepth 100000 in
theorem open_ty {n : Nat} {cs : List Value} {x : DataW H × List MemPlace} (h : DataW.trod enc Tryd.prog w base spare held n 35 cs = some x) : ∃ t : Ty, TyR w Ev t cs ∧ FitT t := by
  obtain ⟨xs, m, hm, -, hlen, hxl, hg⟩ := DataW.trod_struct Tryd.underlying35 h
  rw [cOf_Type] at hlen
  obtain ⟨c0, c1, rfl⟩ := two_list hlen
  have hxl : xs.length = 2 := hxl
  obtain ⟨y0, e0⟩ := get_some (k := 0) hxl (by omega)
  obtain ⟨y1, e1⟩ := get_some (k := 1) hxl (by omega)
  have g0 := hg 0 _ rfl
  have g1 := hg 1 _ rfl
  rw [e0] at g0
  rw [e1] at g1
  simp [cOf_string, cOf_rels] at g0 g1
  obtain ⟨a, h1, ha⟩ := open_str g0
  have h1 := one_str h1
  subst h1
  cases m with
  | zero => simp [DataW.trod] at g1
  | succ m =>
    obtain ⟨A, len, cap, rs, h3, hsl, hq⟩ := open_sl (R := RelR w Ev) (Q := FitR) Tryd.underlying33 cOf_Rel g1 (fun cs y hy => open_rel hy)
    simp only [List.cons.injEq, and_true] at h3
    subst h3
    exact ⟨⟨a, rs⟩, ⟨A, len, cap, rfl, hsl⟩, ha, fitR_all hq⟩
set_option maxRecDepth 100000 in
/-- a schema that came in. -/
theorem open_schema {r : Reach} {b0 : Nat} {v : Value} {d : DataW H} {p : List MemPlace} (hv : Value.okWide Tryd.prog w r b0 25 v) (h : DataW.Trod enc Tryd.prog w base spare held 25 v d p) :
    ∃ (A : Option Addr) (n c : Nat) (ts : List Ty), v = .agg #[.slice A n c] ∧ SlV w Ev 2 (TyR w Ev) ts A n ∧ FitS ts := by
  obtain ⟨cs, rfl, hsz⟩ := okWide_struct Tryd.underlying25 hv
  rw [cOf_Schema] at hsz
  obtain ⟨l⟩ := cs
  match l, hsz with
  | [c0], _ =>
    obtain ⟨fuel, hf⟩ := h
    obtain ⟨xs, m, hm, -, hlen, hxl, hg⟩ := DataW.trod_struct Tryd.underlying25 hf
    have hxl : xs.length = 1 := hxl
    obtain ⟨y0, e0⟩ := get_some (k := 0) hxl (by omega)
    have g0 := hg 0 _ rfl
    rw [e0] at g0
    simp [Value.cells, cOf_types] at g0
    cases m with
    | zero => simp [DataW.trod] at g0
    | succ m =>
      obtain ⟨A, len, cap, ts, h3, hsl, hq⟩ := open_sl (R := TyR w Ev) (Q := FitT) Tryd.underlying23 cOf_Type g0 (fun cs y hy => open_ty hy)
      simp only [List.cons.injEq, and_true] at h3
      subst h3
      exact ⟨A, len, cap, ts, rfl, hsl, fitS_all hq⟩
set_option maxRecDepth 100000 in
/-- an expression that came in. -/
theorem open_expr {r : Reach} {b0 : Nat} {v : Value} {d : DataW H} {p : List MemPlace} (hv : Value.okWide Tryd.prog w r b0 38 v) (h : DataW.Trod enc Tryd.prog w base spare held 38 v d p) :
    ∃ e : Ex, ExV w Ev e v ∧ e.Fit := by
  obtain ⟨cs, rfl, hsz⟩ := okWide_struct Tryd.underlying38 hv
  obtain ⟨fuel, hf⟩ := h
  exact open_ex _ _ _ hf
end Go.Proofs.YtgmlcnikphbiiaaDoor.L

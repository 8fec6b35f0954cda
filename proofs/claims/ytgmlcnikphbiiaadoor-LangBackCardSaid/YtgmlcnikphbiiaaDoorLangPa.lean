/-
  What is printed, in plain words: its tokens.
-/
import Derived.Test.YtgmlcnikphbiiaaDoorLangQ
import Derived.Test.YtgmlcnikphbiiaaDoorLangV
namespace Go.Proofs.YtgmlcnikphbiiaaDoor.L
open Go.RowKit Go.Proofs.YtgmlcnikphbiiaaDoor.B Go.Proofs.YtgmlcnikphbiiaaDoor.S10 Go.Proofs.YtgmlcnikphbiiaaDoor.Nm
set_option linter.unusedVariables false
set_option linter.unusedSimpArgs false

/-! ### words -/
theorem wc_name {x : UInt8} (h : nameC (x.toNat : Int) = true) : wc x = true := by
  unfold nameC smallB digitB at h
  unfold wc
  simp only [Bool.or_eq_true, Bool.and_eq_true, decide_eq_true_eq, beq_iff_eq] at h ⊢
  omega
def WordB (a : Bs) : Prop := ∃ c wd, a = c :: wd ∧ lowC c = true ∧ (∀ x ∈ wd, wc x = true)
theorem nm_len {a : Bs} (h : nm a = true) : 0 < a.length ∧ a.length ≤ 16 := by
  have hs := nameB_size (show nameB ⟨a.toArray⟩ = true from h)
  rw [sz] at hs
  exact hs
theorem nm_form {a : Bs} (h : nm a = true) : WordB a := by
  have hs := nm_len h
  cases a with
  | nil => simp at hs
  | cons c wd =>
    unfold nm nameB onlyB at h
    simp only [Bool.and_eq_true] at h
    obtain ⟨-, -, -, ⟨hall, -⟩, h0⟩ := h
    have hall' : (c :: wd).all (fun c => nameC c.toNat) = true := hall
    rw [List.all_eq_true] at hall'
    refine ⟨c, wd, rfl, ?_, fun x hx => wc_name (hall' x (by simp [hx]))⟩
    have h1 : bt ⟨(c :: wd).toArray⟩ 0 = (c.toNat : Int) := by unfold bt; rw [dif_pos (by rw [sz]; simp)]; rfl
    rw [h1] at h0
    unfold smallB at h0
    unfold lowC
    simp only [Bool.and_eq_true, decide_eq_true_eq] at h0 ⊢
    omega
/-- a text has these words ahead of a rest; if p, of one with which no word goes on. -/
def Reads (p : Prop) (t : Bs) (ws : List Bs) : Prop := ∀ (rest : Bs) (line col : Int), (p → ∀ x r, rest = x :: r → wc x = false) → ∃ L line' col', L.map (·.s) = ws ∧ tokens (t ++ rest) line col = L ++ tokens rest line' col'
theorem Reads.nil : Reads False [] [] := fun rest line col _ => ⟨[], line, col, rfl, rfl⟩
theorem Reads.word {a : Bs} (h : WordB a) : Reads True a [a] := fun rest line col hr => by
  obtain ⟨c, wd, rfl, h1, h2⟩ := h
  exact ⟨[⟨c :: wd, line, col⟩], line, _, rfl, tokens_word c wd rest line col h1 h2 (hr trivial)⟩
theorem Reads.sign {p : Prop} {c : UInt8} {t : Bs} {ws : List Bs} (h : Reads p t ws) (hs : signC c = true) (hl : lowC c = false) (hp : spaceC c = false) : Reads p (c :: t) ([c] :: ws) := fun rest line col hr => by
  obtain ⟨L, l', c', h1, h2⟩ := h rest line (col + 1) hr
  exact ⟨⟨[c], line, col⟩ :: L, l', c', by rw [List.map_cons, h1], by rw [List.cons_append, tokens_sign c _ _ _ hs hl hp, h2, List.cons_append]⟩
theorem Reads.sp {p : Prop} {t : Bs} {ws : List Bs} (h : Reads p t ws) : Reads p (32 :: t) ws := fun rest line col hr => by
  obtain ⟨L, l', c', h1, h2⟩ := h rest line (col + 1) hr
  exact ⟨L, l', c', h1, by rw [List.cons_append, tokens_sp, h2]⟩
theorem Reads.nl {p : Prop} {t : Bs} {ws : List Bs} (h : Reads p t ws) : Reads p (10 :: t) ws := fun rest line col hr => by
  obtain ⟨L, l', c', h1, h2⟩ := h rest (line + 1) 1 hr
  exact ⟨L, l', c', h1, by rw [List.cons_append, tokens_nl, h2]⟩
theorem Reads.app {p : Prop} {t u : Bs} {ws us : List Bs} (h : Reads False t ws) (h2 : Reads p u us) : Reads p (t ++ u) (ws ++ us) := fun rest line col hr => by
  obtain ⟨L, l', c', h1, e1⟩ := h (u ++ rest) line col (fun f => f.elim)
  obtain ⟨L2, l2, c2, h3, e2⟩ := h2 rest l' c' hr
  exact ⟨L ++ L2, l2, c2, by rw [List.map_append, h1, h3], by rw [List.append_assoc, e1, e2, List.append_assoc]⟩
theorem Reads.cut {p : Prop} {t u : Bs} {x : UInt8} {ws us : List Bs} (h : Reads True t ws) (h2 : Reads p (x :: u) us) (hx : wc x = false) : Reads p (t ++ x :: u) (ws ++ us) := fun rest line col hr => by
  obtain ⟨L, l', c', h1, e1⟩ := h (x :: u ++ rest) line col (fun _ y r e => by cases e; exact hx)
  obtain ⟨L2, l2, c2, h3, e2⟩ := h2 rest l' c' hr
  exact ⟨L ++ L2, l2, c2, by rw [List.map_append, h1, h3], by rw [List.append_assoc, e1, e2, List.append_assoc]⟩
/-! ### what is printed -/
def opW (k : Int) : Bs := if k = 2 then [43] else if k = 3 then [38] else [45]
def wordsE : Ex → List Bs
  | .mk k a b n kid => if k = 0 then [a] else if k = 1 then [a, [46], b] else if h : n = 2 then [40] :: (wordsE (kid ⟨0, by omega⟩) ++ (opW k :: (wordsE (kid ⟨1, by omega⟩) ++ [[41]]))) else []
theorem wordsE_eq (k : Int) (a b : Bs) (n : Nat) (kid : Fin n → Ex) : wordsE (.mk k a b n kid) = if k = 0 then [a] else if k = 1 then [a, [46], b] else if h : n = 2 then [40] :: (wordsE (kid ⟨0, by omega⟩) ++ (opW k :: (wordsE (kid ⟨1, by omega⟩) ++ [[41]]))) else [] := rfl
def normE : Ex → Ex
  | .mk k a b n kid => if k = 0 then leaf 0 a [] else if k = 1 then leaf 1 a b else if h : n = 2 then two k (normE (kid ⟨0, by omega⟩)) (normE (kid ⟨1, by omega⟩)) else leaf 0 [] []
theorem normE_eq (k : Int) (a b : Bs) (n : Nat) (kid : Fin n → Ex) : normE (.mk k a b n kid) = if k = 0 then leaf 0 a [] else if k = 1 then leaf 1 a b else if h : n = 2 then two k (normE (kid ⟨0, by omega⟩)) (normE (kid ⟨1, by omega⟩)) else leaf 0 [] [] := rfl
def mayF (x : Rf) : Bool := nm x.ty && (x.rel.isEmpty || nm x.rel)
def mayR (r : Rl) : Bool := nm r.name && (if r.refs.isEmpty then mayE r.ex 12 else r.refs.all mayF)
def mayT (t : Ty) : Bool := nm t.name && t.rels.all mayR
def mayS (ts : List Ty) : Bool := ts.all mayT
def refT (x : Rf) : Bs := if x.rel.isEmpty then x.ty else x.ty ++ [35] ++ x.rel
def refsT : List Rf → Bs
  | [] => []
  | [x] => refT x
  | x :: y :: l => refT x ++ ([32, 124, 32] ++ refsT (y :: l))
def relationB : Bs := [32, 32, 114, 101, 108, 97, 116, 105, 111, 110, 32]
def defineB : Bs := [32, 32, 100, 101, 102, 105, 110, 101, 32]
def lineT (r : Rl) : Bs := if r.refs.isEmpty then defineB ++ r.name ++ [58, 32] ++ showE r.ex ++ [10] else relationB ++ r.name ++ [58, 32] ++ refsT r.refs ++ [10]
def typeB : Bs := [116, 121, 112, 101, 32]
def tyT (t : Ty) : Bs := typeB ++ t.name ++ [10] ++ t.rels.flatMap lineT
def printT (ts : List Ty) : Bs := ts.flatMap tyT
def printP (ts : List Ty) : Bs := if mayS ts then printT ts else []
def refW (x : Rf) : List Bs := if x.rel.isEmpty then [x.ty] else [x.ty, [35], x.rel]
def refsW : List Rf → List Bs
  | [] => []
  | [x] => refW x
  | x :: y :: l => refW x ++ ([124] :: refsW (y :: l))
def lineW (r : Rl) : List Bs := if r.refs.isEmpty then sDefine :: r.name :: [58] :: wordsE r.ex else sRelation :: r.name :: [58] :: refsW r.refs
def tyW (t : Ty) : List Bs := sType :: t.name :: t.rels.flatMap lineW
def printW (ts : List Ty) : List Bs := ts.flatMap tyW
theorem sign_form {k : Int} (h : (signK k).isEmpty = false) : (k = 2 ∨ k = 3 ∨ k = 4) ∧ ∃ c, signK k = [32, c, 32] ∧ opW k = [c] ∧ signC c = true ∧ lowC c = false ∧ spaceC c = false ∧ wc c = false := by
  by_cases h2 : k = 2
  · subst h2; exact ⟨by omega, 43, rfl, rfl, rfl, rfl, rfl, rfl⟩
  by_cases h3 : k = 3
  · subst h3; exact ⟨by omega, 38, rfl, rfl, rfl, rfl, rfl, rfl⟩
  by_cases h4 : k = 4
  · subst h4; exact ⟨by omega, 45, rfl, rfl, rfl, rfl, rfl, rfl⟩
  unfold signK at h
  rw [if_neg h2, if_neg h3, if_neg h4] at h
  cases h
theorem mayE_op {k : Int} {a b : Bs} {n : Nat} {kid : Fin n → Ex} {m : Nat} (h : mayE (.mk k a b n kid) (m + 1) = true) (h0 : k ≠ 0) (h1 : k ≠ 1) : (signK k).isEmpty = false ∧ ∃ e : n = 2, mayE (kid ⟨0, by omega⟩) m = true ∧ mayE (kid ⟨1, by omega⟩) m = true := by
  rw [mayE_s, if_neg h0, if_neg h1] at h
  by_cases hn : n = 2
  · rw [dif_pos hn] at h
    simp only [Bool.and_eq_true, Bool.not_eq_true'] at h
    exact ⟨h.1, hn, h.2.1, h.2.2⟩
  · rw [dif_neg hn] at h
    simp at h
theorem reads_expr : ∀ (m : Nat) (e : Ex), mayE e m = true → Reads True (showE e) (wordsE e)
  | 0, .mk k a b n kid, h => by rw [mayE_0] at h; cases h
  | m + 1, .mk k a b n kid, h => by
    rw [showE_eq, wordsE_eq]
    by_cases hk0 : k = 0
    · rw [mayE_s, if_pos hk0] at h
      rw [if_pos hk0, if_pos hk0]
      simp only [Bool.and_eq_true] at h
      exact Reads.word (nm_form h.1)
    by_cases hk1 : k = 1
    · rw [mayE_s, if_neg hk0, if_pos hk1] at h
      rw [if_neg hk0, if_pos hk1, if_neg hk0, if_pos hk1]
      simp only [Bool.and_eq_true] at h
      have h2 := (Reads.word (nm_form h.1)).cut ((Reads.word (nm_form h.2.1)).sign (c := 46) rfl rfl rfl) rfl
      rw [List.append_assoc]
      exact h2
    obtain ⟨hs, hn, h1, h2⟩ := mayE_op h hk0 hk1
    subst hn
    rw [if_neg hk0, if_neg hk1, dif_pos rfl, if_neg hk0, if_neg hk1, dif_pos rfl]
    obtain ⟨-, c, e1, e2, c1, c2, c3, c4⟩ := sign_form hs
    rw [e1, e2]
    have r1 := reads_expr m _ h1
    have r2 := reads_expr m _ h2
    have x1 := r2.cut (Reads.nil.sign (c := 41) rfl rfl rfl) rfl
    have x2 := ((r1.cut ((x1.sp.sign c1 c2 c3).sp) rfl).sign (c := 40) rfl rfl rfl)
    have e3 : [40] ++ showE (kid ⟨0, by omega⟩) ++ [32, c, 32] ++ showE (kid ⟨1, by omega⟩) ++ [41] = 40 :: (showE (kid ⟨0, by omega⟩) ++ 32 :: c :: 32 :: (showE (kid ⟨1, by omega⟩) ++ 41 :: [])) := by simp
    rw [e3]
    exact fun rest line col _ => x2 rest line col (fun f => f.elim)
theorem Reads.any {p : Prop} {t : Bs} {ws : List Bs} (h : Reads False t ws) : Reads p t ws := fun rest line col _ => h rest line col (fun f => f.elim)
theorem reads_ref {x : Rf} (h : mayF x = true) : Reads True (refT x) (refW x) := by
  unfold mayF at h
  unfold refT refW
  simp only [Bool.and_eq_true] at h
  cases hr : x.rel.isEmpty with
  | true => exact Reads.word (nm_form h.1)
  | false =>
    rw [hr, Bool.false_or] at h
    have h2 := (Reads.word (nm_form h.1)).cut ((Reads.word (nm_form h.2)).sign (c := 35) rfl rfl rfl) rfl
    simp only [Bool.false_eq_true, if_false]
    rw [List.append_assoc]
    exact h2
theorem reads_refs : ∀ (xs : List Rf), xs.all mayF = true → xs ≠ [] → Reads True (refsT xs) (refsW xs)
  | [], _, h => absurd rfl h
  | [x], h, _ => by
    simp only [List.all_cons, List.all_nil, Bool.and_true] at h
    exact reads_ref h
  | x :: y :: l, h, _ => by
    rw [List.all_cons, Bool.and_eq_true] at h
    have r1 := reads_ref h.1
    have r2 := reads_refs (y :: l) h.2 (by simp)
    exact r1.cut ((r2.sp.sign (c := 124) rfl rfl rfl).sp) rfl
theorem wordB_define : WordB sDefine := ⟨100, _, rfl, rfl, by decide⟩
theorem wordB_relation : WordB sRelation := ⟨114, _, rfl, rfl, by decide⟩
theorem wordB_type : WordB sType := ⟨116, _, rfl, rfl, by decide⟩
theorem reads_line {r : Rl} (h : mayR r = true) : Reads False (lineT r) (lineW r) := by
  unfold mayR at h
  unfold lineT lineW
  rw [Bool.and_eq_true] at h
  have hn := Reads.word (nm_form h.1)
  cases hr : r.refs.isEmpty with
  | true =>
    rw [hr, if_pos rfl] at h
    have x1 := (reads_expr 12 r.ex h.2).cut (Reads.nil.nl) rfl
    have x2 := hn.cut (x1.sp.sign (c := 58) rfl rfl rfl) rfl
    have x3 := ((Reads.word wordB_define).cut x2.sp rfl).sp.sp
    rw [if_pos rfl, if_pos rfl]
    have e : defineB ++ r.name ++ [58, 32] ++ showE r.ex ++ [10] = 32 :: 32 :: (sDefine ++ 32 :: (r.name ++ 58 :: 32 :: (showE r.ex ++ 10 :: []))) := by simp [defineB, sDefine]
    rw [e]
    simpa using x3
  | false =>
    rw [hr] at h
    simp only [Bool.false_eq_true, if_false] at h
    have hne : r.refs ≠ [] := fun e => by rw [e] at hr; cases hr
    have x1 := (reads_refs r.refs h.2 hne).cut (Reads.nil.nl) rfl
    have x2 := hn.cut (x1.sp.sign (c := 58) rfl rfl rfl) rfl
    have x3 := ((Reads.word wordB_relation).cut x2.sp rfl).sp.sp
    simp only [Bool.false_eq_true, if_false]
    have e : relationB ++ r.name ++ [58, 32] ++ refsT r.refs ++ [10] = 32 :: 32 :: (sRelation ++ 32 :: (r.name ++ 58 :: 32 :: (refsT r.refs ++ 10 :: []))) := by simp [relationB, sRelation]
    rw [e]
    simpa using x3
theorem reads_lines : ∀ (rs : List Rl), rs.all mayR = true → Reads False (rs.flatMap lineT) (rs.flatMap lineW)
  | [], _ => Reads.nil
  | r :: rs, h => by
    rw [List.all_cons, Bool.and_eq_true] at h
    rw [List.flatMap_cons, List.flatMap_cons]
    exact (reads_line h.1).app (reads_lines rs h.2)
theorem reads_type {t : Ty} (h : mayT t = true) : Reads False (tyT t) (tyW t) := by
  unfold mayT at h
  rw [Bool.and_eq_true] at h
  have x1 := (Reads.word (nm_form h.1)).cut (reads_lines t.rels h.2).nl rfl
  have x2 := (Reads.word wordB_type).cut x1.sp rfl
  have e : tyT t = sType ++ 32 :: (t.name ++ 10 :: t.rels.flatMap lineT) := by simp [tyT, typeB, sType]
  rw [e]
  exact x2
theorem reads_print : ∀ (ts : List Ty), mayS ts = true → Reads False (printT ts) (printW ts)
  | [], _ => Reads.nil
  | t :: ts, h => by
    unfold mayS at h
    rw [List.all_cons, Bool.and_eq_true] at h
    unfold printT printW
    rw [List.flatMap_cons, List.flatMap_cons]
    exact (reads_type h.1).app (reads_print ts h.2)
/-- the tokens of what is printed. -/
theorem tokens_print {ts : List Ty} (h : mayS ts = true) (line col : Int) : ∃ L e, L.map (·.s) = printW ts ∧ e.s = [] ∧ tokens (printT ts) line col = L ++ [e] := by
  obtain ⟨L, l', c', h1, h2⟩ := reads_print ts h [] line col (fun f => f.elim)
  rw [List.append_nil] at h2
  exact ⟨L, ⟨[], l', c'⟩, h1, rfl, h2⟩
end Go.Proofs.YtgmlcnikphbiiaaDoor.L

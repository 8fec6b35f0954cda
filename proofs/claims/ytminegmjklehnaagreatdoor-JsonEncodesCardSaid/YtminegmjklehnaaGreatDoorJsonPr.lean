/-
  JSON, plain: values that are written are read again; nests.
-/
import Derived.Test.YtminegmjklehnaaGreatDoorJsonK
import Derived.Test.YtminegmjklehnaaGreatDoorJsonW
namespace Go.Proofs.YtminegmjklehnaaGreatDoor.J
set_option linter.unusedVariables false
set_option linter.unusedSimpArgs false

/-- what stands behind a value. -/
def Behind (rest : Bs) : Prop := ∀ c r, rest = c :: r → c = 44 ∨ c = 93 ∨ c = 125
theorem Behind.nil : Behind [] := fun _ _ h => by cases h
theorem Behind.num {rest : Bs} (h : Behind rest) : NumEnd rest := by
  intro c r e
  rcases h c r e with rfl | rfl | rfl <;> decide
theorem Behind.sp {rest : Bs} (h : Behind rest) : sp rest = rest := by
  cases rest with
  | nil => rfl
  | cons c r =>
    rcases h c r rfl with rfl | rfl | rfl <;> rfl
def NoSp (L : Bs) : Prop := ∃ c r, L = c :: r ∧ isSp c = false ∧ c ≠ 93 ∧ c ≠ 125
theorem NoSp.sp {L : Bs} (h : NoSp L) (r : Bs) : sp (L ++ r) = L ++ r := by
  obtain ⟨c, l, rfl, h1, -⟩ := h
  unfold J.sp
  rw [List.cons_append, List.dropWhile_cons, h1]
  rfl
theorem NoSp.app {L : Bs} (h : NoSp L) (r : Bs) : NoSp (L ++ r) := by
  obtain ⟨c, l, rfl, h1⟩ := h
  exact ⟨c, l ++ r, rfl, h1⟩
theorem commas_cons (x y : Bs) (l : List Bs) : commas (x :: y :: l) = x ++ (44 :: commas (y :: l)) := rfl
theorem commas_len : ∀ l : List Bs, l.length ≤ (commas l).length + 1
  | [] => by simp
  | [x] => by simp
  | x :: y :: l => by
    have := commas_len (y :: l)
    rw [commas_cons, List.length_append, List.length_cons]
    simp at this ⊢
    omega
/-- pieces between commas are read one behind the other. -/
theorem go_read {σ α : Type} (one : σ → P σ) (endc : UInt8) (hend : endc = 93 ∨ endc = 125) (txt : α → Bs) (st : List α → σ) (hsp : ∀ x, NoSp (txt x)) :
    ∀ (post pre : List α) (x : α) (f : Nat) (rest : Bs), (∀ p y q, pre ++ x :: post = p ++ y :: q → pre.length ≤ p.length → ∀ r, Behind r → one (st p) (txt y ++ r) = .ok (st (p ++ [y]), r)) → post.length < f →
      insideGo one endc f (st pre) (commas ((x :: post).map txt) ++ endc :: rest) = .ok (st (pre ++ x :: post), rest)
  | [], pre, x, 0, rest, h, hf => by simp at hf
  | [], pre, x, f + 1, rest, h, hf => by
    have hb : Behind (endc :: rest) := fun c r e => by cases e; rcases hend with rfl | rfl <;> decide
    rw [insideGo]
    show (match one (st pre) (txt x ++ endc :: rest) with | .error e => _ | .ok (a', M) => _) = _
    rw [h pre x [] rfl (Nat.le_refl _) _ hb]
    dsimp only
    rw [hb.sp]
    dsimp only
    rw [if_neg (by rcases hend with rfl | rfl <;> decide), if_pos (by simp)]
  | y :: post, pre, x, 0, rest, h, hf => by simp at hf
  | y :: post, pre, x, f + 1, rest, h, hf => by
    have e : commas ((x :: y :: post).map txt) ++ endc :: rest = txt x ++ (44 :: (commas ((y :: post).map txt) ++ endc :: rest)) := by
      rw [List.map_cons, List.map_cons, commas_cons]
      simp
    have hb : Behind (44 :: (commas ((y :: post).map txt) ++ endc :: rest)) := fun c r e => by cases e; decide
    have hn : NoSp (commas ((y :: post).map txt)) := by
      cases post with
      | nil => exact hsp y
      | cons z post => rw [List.map_cons, List.map_cons, commas_cons]; exact (hsp y).app _
    rw [insideGo, e, h pre x (y :: post) rfl (Nat.le_refl _) _ hb]
    dsimp only
    rw [hb.sp]
    dsimp only
    rw [if_pos (by decide), hn.sp]
    have := go_read one endc hend txt st hsp post (pre ++ [x]) y f rest (fun p z q e2 hl => h p z q (by rw [← e2]; simp) (by simp at hl; omega)) (by simp at hf; omega)
    rw [this]
    simp
theorem inside_read {σ α : Type} (one : σ → P σ) (endc : UInt8) (hend : endc = 93 ∨ endc = 125) (txt : α → Bs) (st : List α → σ) (hsp : ∀ x, NoSp (txt x)) (items : List α) (rest : Bs)
    (h : ∀ p y q, items = p ++ y :: q → ∀ r, Behind r → one (st p) (txt y ++ r) = .ok (st (p ++ [y]), r)) :
    insideP one endc (st []) (commas (items.map txt) ++ endc :: rest) = .ok (st items, rest) := by
  cases items with
  | nil =>
    have hs : sp (endc :: rest) = endc :: rest := by rcases hend with rfl | rfl <;> rfl
    show insideP one endc (st []) (endc :: rest) = _
    unfold insideP
    rw [hs]
    dsimp only
    rw [if_pos (by simp)]
  | cons x post =>
    have hn : NoSp (commas ((x :: post).map txt)) := by
      cases post with
      | nil => exact hsp x
      | cons z post => rw [List.map_cons, List.map_cons, commas_cons]; exact (hsp x).app _
    have hl := commas_len ((x :: post).map txt)
    have hg := fun f hf => go_read one endc hend txt st hsp post [] x f rest (fun p y q e _ r hr => h p y q e r hr) hf
    unfold insideP
    rw [hn.sp]
    obtain ⟨c, r, hc, h1, h2, h3⟩ := hn
    rw [hc] at hg hl ⊢
    dsimp only [List.cons_append]
    rw [if_neg (by rcases hend with rfl | rfl <;> simpa)]
    exact hg _ (by simp at hl ⊢; omega)
theorem namesGo_at : ∀ (pre : List Bs) (x : Bs) (post seen : List Bs), namesGo seen (pre ++ x :: post) = true → validT x = true ∧ (seen ++ pre).contains x = false
  | [], x, post, seen, h => by
    rw [List.nil_append, names_cons] at h
    simp at h
    exact ⟨h.1.1, by simpa using h.1.2⟩
  | y :: pre, x, post, seen, h => by
    rw [List.cons_append, names_cons] at h
    simp only [Bool.and_eq_true] at h
    have := namesGo_at pre x post (seen ++ [y]) h.2
    simpa using this
theorem getD_ofFn {α : Type} {n : Nat} (f : Fin n → α) (d : α) (i : Fin n) : (List.ofFn f).getD i.val d = f i := by
  rw [List.getD_eq_getElem?_getD]; simp
/-- what is read again. -/
def normJ : Js → Js
  | .mk k n t names nk kid => if k = 0 then nullJ else if k = 1 then leafJ 1 n [] else if k = 2 then leafJ 2 n [] else if k = 3 then leafJ 3 0 t else if k = 4 then manyJ 4 [] (List.ofFn fun i => normJ (kid i))
    else manyJ 5 names (List.ofFn fun i => normJ (kid i))
theorem normJ_mk (k n : Int) (t : Bs) (names : List Bs) (nk : Nat) (kid : Fin nk → Js) : normJ (.mk k n t names nk kid) = if k = 0 then nullJ else if k = 1 then leafJ 1 n [] else if k = 2 then leafJ 2 n [] else if k = 3 then leafJ 3 0 t
    else if k = 4 then manyJ 4 [] (List.ofFn fun i => normJ (kid i)) else manyJ 5 names (List.ofFn fun i => normJ (kid i)) := by rw [normJ]
theorem natT_nosp (n : Nat) : NoSp (natT (n + 1) n) := by
  obtain ⟨-, h2, h3⟩ := natT_dec (n + 1) n (Nat.lt_succ_self n)
  cases hq : natT (n + 1) n with
  | nil => exact absurd hq h3
  | cons c r =>
    have hc := h2 c (by rw [hq]; simp)
    rw [isDig_iff] at hc
    refine ⟨c, r, rfl, ?_, ?_, ?_⟩
    · cases hs : isSp c with
      | false => rfl
      | true =>
        unfold isSp at hs
        simp at hs
        rcases hs with rfl | rfl | rfl | rfl <;> exact absurd hc (by decide)
    · rintro rfl; exact absurd hc (by decide)
    · rintro rfl; exact absurd hc (by decide)
theorem intT_nosp (n : Int) : NoSp (intT n) := by
  unfold intT
  split
  · exact ⟨45, _, rfl, by decide, by decide, by decide⟩
  · exact natT_nosp _
theorem show_nosp (j : Js) : NoSp (showJ j) := by
  obtain ⟨k, n, t, names, nk, kid⟩ := j
  rw [showJ_mk]
  split
  · exact ⟨110, _, rfl, by decide, by decide, by decide⟩
  split
  · split
    · exact ⟨116, _, rfl, by decide, by decide, by decide⟩
    · exact ⟨102, _, rfl, by decide, by decide, by decide⟩
  split
  · exact intT_nosp n
  split
  · exact ⟨34, _, rfl, by decide, by decide, by decide⟩
  split
  · exact ⟨123, _, rfl, by decide, by decide, by decide⟩
  · exact ⟨91, _, rfl, by decide, by decide, by decide⟩
theorem wordP_app (s : Bs) (j : Js) (r : Bs) : wordP s j (s ++ r) = .ok (j, r) := by
  unfold wordP
  rw [if_pos (List.isPrefixOf_iff_prefix.2 (List.prefix_append s r)), List.drop_left]
theorem valueP_eq : ∀ d, valueP d = valueOf (match d with | 0 => none | e + 1 => some (valueP e))
  | 0 => rfl
  | d + 1 => rfl
theorem num_head (n : Int) : ∃ c r, intT n = c :: r ∧ c ≠ 110 ∧ c ≠ 116 ∧ c ≠ 102 ∧ c ≠ 34 ∧ c ≠ 91 ∧ c ≠ 123 := by
  unfold intT
  split
  · exact ⟨45, _, rfl, by decide⟩
  · obtain ⟨-, h2, h3⟩ := natT_dec (n.natAbs + 1) n.natAbs (Nat.lt_succ_self _)
    cases hq : natT (n.natAbs + 1) n.natAbs with
    | nil => exact absurd hq h3
    | cons c r =>
      have hc := h2 c (by rw [hq]; simp)
      rw [isDig_iff] at hc
      refine ⟨c, r, rfl, ?_, ?_, ?_, ?_, ?_, ?_⟩ <;> (rintro rfl; exact absurd hc (by decide))
theorem value_num (o : Option (P Js)) (n : Int) (h1 : n < 1000000000000000) (h2 : -1000000000000000 < n) (rest : Bs) (hr : Behind rest) : valueOf o (intT n ++ rest) = .ok (leafJ 2 n [], rest) := by
  have hn := numP_int n h1 h2 rest hr.num
  obtain ⟨c, r, e, k1, k2, k3, k4, k5, k6⟩ := num_head n
  rw [e, List.cons_append] at hn ⊢
  rw [valueOf_c, if_neg (by simpa using k1), if_neg (by simpa using k2), if_neg (by simpa using k3), if_neg (by simpa using k4), if_neg (by simpa using k5), if_neg (by simpa using k6)]
  unfold numJ
  rw [hn]
theorem value_text (o : Option (P Js)) (t : Bs) (h : validT t = true) (rest : Bs) : valueOf o (quoteT t ++ rest) = .ok (leafJ 3 0 t, rest) := by
  have hn := textP_quote h rest
  have e : quoteT t ++ rest = 34 :: (t.flatMap quoteC ++ [34] ++ rest) := rfl
  rw [e] at hn ⊢
  rw [valueOf_c, if_neg (by decide), if_neg (by decide), if_neg (by decide), if_pos (by decide)]
  unfold textJ
  rw [hn]
theorem andTo_at {n : Nat} {f : Fin n → Bool} (h : andTo f n = true) (i : Fin n) : f i = true := by
  rw [andTo_all] at h
  exact (M.allTo_iff f).1 h i
theorem value_show : ∀ (d : Nat) (j : Js), mayJ j d = true → ∀ rest, Behind rest → valueP d (showJ j ++ rest) = .ok (normJ j, rest) := by
  intro d
  induction d with
  | zero =>
    intro j hm rest hr
    obtain ⟨k, n, t, names, nk, kid⟩ := j
    rw [showJ_mk, normJ_mk, valueP_eq]
    rw [mayJ_z] at hm
    by_cases k0 : k = 0
    · rw [if_pos k0, if_pos k0]
      exact wordP_app [110, 117, 108, 108] nullJ rest
    rw [if_neg k0] at hm
    rw [if_neg k0, if_neg k0]
    by_cases k1 : k = 1
    · rw [if_pos k1] at hm
      rw [if_pos k1, if_pos k1]
      by_cases n1 : n = 1
      · subst n1
        exact wordP_app [116, 114, 117, 101] (leafJ 1 1 []) rest
      · have n0 : n = 0 := by simpa [n1] using hm
        subst n0
        exact wordP_app [102, 97, 108, 115, 101] (leafJ 1 0 []) rest
    rw [if_neg k1] at hm
    rw [if_neg k1, if_neg k1]
    by_cases k2 : k = 2
    · rw [if_pos k2] at hm
      rw [if_pos k2, if_pos k2]
      simp at hm
      exact value_num _ n hm.1 hm.2 rest hr
    rw [if_neg k2] at hm
    rw [if_neg k2, if_neg k2]
    by_cases k3 : k = 3
    · rw [if_pos k3] at hm
      rw [if_pos k3, if_pos k3]
      exact value_text _ t hm rest
    rw [if_neg k3] at hm
    cases hm
  | succ d ih =>
    intro j hm rest hr
    obtain ⟨k, n, t, names, nk, kid⟩ := j
    rw [showJ_mk, normJ_mk, valueP_eq]
    rw [mayJ_s] at hm
    by_cases k0 : k = 0
    · rw [if_pos k0, if_pos k0]
      exact wordP_app [110, 117, 108, 108] nullJ rest
    rw [if_neg k0] at hm
    rw [if_neg k0, if_neg k0]
    by_cases k1 : k = 1
    · rw [if_pos k1] at hm
      rw [if_pos k1, if_pos k1]
      by_cases n1 : n = 1
      · subst n1
        exact wordP_app [116, 114, 117, 101] (leafJ 1 1 []) rest
      · have n0 : n = 0 := by simpa [n1] using hm
        subst n0
        exact wordP_app [102, 97, 108, 115, 101] (leafJ 1 0 []) rest
    rw [if_neg k1] at hm
    rw [if_neg k1, if_neg k1]
    by_cases k2 : k = 2
    · rw [if_pos k2] at hm
      rw [if_pos k2, if_pos k2]
      simp at hm
      exact value_num _ n hm.1 hm.2 rest hr
    rw [if_neg k2] at hm
    rw [if_neg k2, if_neg k2]
    by_cases k3 : k = 3
    · rw [if_pos k3] at hm
      rw [if_pos k3, if_pos k3]
      exact value_text _ t hm rest
    rw [if_neg k3] at hm
    rw [if_neg k3, if_neg k3]
    by_cases k4 : k = 4
    · rw [if_pos k4] at hm
      rw [if_neg (by omega), if_pos k4]
      have hp : pieces k names kid = (List.ofFn kid).map showJ := by
        unfold pieces piece
        rw [List.map_ofFn]
        congr 1
        funext i
        rw [if_neg (by omega)]
        rfl
      have hr2 := inside_read (oneL (valueP d)) 93 (.inl rfl) showJ (fun l => l.map normJ) show_nosp (List.ofFn kid) rest (fun p y q e r hb => by
        have hy : y ∈ List.ofFn kid := by rw [e]; simp
        obtain ⟨i, rfl⟩ := (List.mem_ofFn).1 hy
        unfold oneL
        rw [ih _ (andTo_at hm i) r hb]
        simp)
      rw [hp]
      have e : (91 :: (commas ((List.ofFn kid).map showJ) ++ [93]) ++ rest : Bs) = 91 :: (commas ((List.ofFn kid).map showJ) ++ 93 :: rest) := by simp
      rw [e]
      show listP (valueP d) _ = _
      unfold listP
      have h0 : ([] : List Js).map normJ = [] := rfl
      rw [h0] at hr2
      rw [hr2, List.map_ofFn]
      rfl
    rw [if_neg k4] at hm
    rw [if_neg k4]
    by_cases k5 : k = 5
    · rw [if_pos k5] at hm
      rw [if_pos k5]
      simp only [Bool.and_eq_true] at hm
      obtain ⟨hl, hn, hk⟩ := hm
      have hl : names.length = nk := by simpa using hl
      have hp : pieces k names kid = (List.ofFn fun i : Fin nk => (names.getD i.val [], kid i)).map (fun p : Bs × Js => quoteT p.1 ++ (58 :: showJ p.2)) := by
        unfold pieces piece
        rw [List.map_ofFn]
        congr 1
        funext i
        rw [if_pos k5]
        rfl
      have hnm : (List.ofFn fun i : Fin nk => (names.getD i.val [], kid i)).map Prod.fst = names := by
        subst hl
        apply List.ext_getElem
        · simp
        · intro i h1 h2
          simp [List.getD_eq_getElem?_getD, h2]
      have hr2 := inside_read (oneO (valueP d)) 125 (.inr rfl) (fun p : Bs × Js => quoteT p.1 ++ (58 :: showJ p.2)) (fun l => (l.map Prod.fst, l.map (fun p => normJ p.2)))
        (fun p => ⟨34, _, rfl, by decide, by decide, by decide⟩) (List.ofFn fun i : Fin nk => (names.getD i.val [], kid i)) rest (fun p y q e r hb => by
        have hy : y ∈ List.ofFn fun i : Fin nk => (names.getD i.val [], kid i) := by rw [e]; simp
        obtain ⟨i, hi⟩ := (List.mem_ofFn).1 hy
        have hn2 : names = p.map Prod.fst ++ y.1 :: q.map Prod.fst := by rw [← hnm, e]; simp
        unfold namesOk at hn
        rw [hn2] at hn
        obtain ⟨hv, hc⟩ := namesGo_at _ _ _ _ hn
        unfold oneO
        rw [show (quoteT y.1 ++ (58 :: showJ y.2) ++ r : Bs) = quoteT y.1 ++ (58 :: (showJ y.2 ++ r)) by simp, textP_quote hv]
        dsimp only
        rw [if_neg (by rw [List.nil_append] at hc; simpa using hc)]
        unfold pairTail
        rw [show sp (58 :: (showJ y.2 ++ r)) = 58 :: (showJ y.2 ++ r) from rfl]
        dsimp only
        rw [if_pos (by decide), (show_nosp y.2).sp, show y.2 = kid i by rw [← hi], ih _ (andTo_at hk i) r hb]
        simp [← hi])
      rw [hp]
      have e : (123 :: (commas ((List.ofFn fun i : Fin nk => (names.getD i.val [], kid i)).map (fun p : Bs × Js => quoteT p.1 ++ (58 :: showJ p.2))) ++ [125]) ++ rest : Bs) = 123 :: (commas ((List.ofFn fun i : Fin nk => (names.getD i.val [], kid i)).map (fun p : Bs × Js => quoteT p.1 ++ (58 :: showJ p.2))) ++ 125 :: rest) := by simp
      rw [e]
      show objP (valueP d) _ = _
      unfold objP
      have h0 : (([] : List (Bs × Js)).map Prod.fst, ([] : List (Bs × Js)).map (fun p => normJ p.2)) = (([], []) : List Bs × List Js) := rfl
      rw [h0] at hr2
      rw [hr2, hnm, List.map_ofFn]
      rfl
    rw [if_neg k5] at hm
    cases hm
theorem decode_show {j : Js} (h : mayJ j 12 = true) : decodeP (showJ j) = .ok (normJ j) := by
  have hv := value_show 12 j h [] Behind.nil
  rw [List.append_nil] at hv
  have hs : sp (showJ j) = showJ j := by have := (show_nosp j).sp []; simpa using this
  unfold decodeP
  rw [hs, hv]
  rfl
theorem sameJ_mk (k n : Int) (t : Bs) (names : List Bs) (nk : Nat) (kid : Fin nk → Js) (k' n' : Int) (t' : Bs) (names' : List Bs) (nk' : Nat) (kid' : Fin nk' → Js) : sameJ (.mk k n t names nk kid) (.mk k' n' t' names' nk' kid') = (k == k' && (if k = 0 then true else if k = 1 ∨ k = 2 then n == n' else if k = 3 then t == t'
    else (k != 5 || names == names') && (if h : nk = nk' then andTo (fun i => sameJ (kid i) (kid' (i.cast h))) nk else false))) := by rw [sameJ]
theorem andTo_true {n : Nat} {f : Fin n → Bool} (h : ∀ i, f i = true) : andTo f n = true := by
  rw [andTo_all]
  exact (M.allTo_iff f).2 h
theorem same_kids {k : Int} {names : List Bs} {nk : Nat} {kid : Fin nk → Js} (n : Int) (t : Bs) {l : List Js} (k0 : k ≠ 0) (k1 : k ≠ 1) (k2 : k ≠ 2) (k3 : k ≠ 3) {names' : List Bs} (hn : k = 5 → names' = names) (hl : l.length = nk) (h : ∀ i : Fin nk, sameJ (l[i.val]'(by omega)) (kid i) = true) :
    sameJ (manyJ k names' l) (.mk k n t names nk kid) = true := by
  unfold manyJ
  rw [sameJ_mk, if_neg k0, if_neg (by omega), if_neg k3, dif_pos hl, beq_self_eq_true, Bool.true_and]
  have e : (k != 5 || names' == names) = true := by
    by_cases k5 : k = 5
    · rw [hn k5]; simp
    · simp [k5]
  rw [e, Bool.true_and]
  exact andTo_true (fun i => by
    have := h (i.cast hl)
    simpa using this)
theorem same_norm : ∀ (j : Js) (d : Nat), mayJ j d = true → sameJ (normJ j) j = true
  | .mk k n t names nk kid, d, hm => by
    rw [normJ_mk]
    by_cases k0 : k = 0
    · rw [if_pos k0]; subst k0
      unfold nullJ leafJ
      rw [sameJ_mk, if_pos rfl]; rfl
    rw [if_neg k0]
    by_cases k1 : k = 1
    · rw [if_pos k1]; subst k1
      unfold leafJ
      rw [sameJ_mk, if_neg (by decide), if_pos (by decide)]; simp
    rw [if_neg k1]
    by_cases k2 : k = 2
    · rw [if_pos k2]; subst k2
      unfold leafJ
      rw [sameJ_mk, if_neg (by decide), if_pos (by decide)]; simp
    rw [if_neg k2]
    by_cases k3 : k = 3
    · rw [if_pos k3]; subst k3
      unfold leafJ
      rw [sameJ_mk, if_neg (by decide), if_neg (by decide), if_pos rfl]; simp
    rw [if_neg k3]
    cases d with
    | zero => rw [mayJ_no 0 k0 k1 k2 k3 (.inl rfl)] at hm; cases hm
    | succ d =>
      by_cases k4 : k = 4
      · rw [if_pos k4]; subst k4
        rw [mayJ_k4] at hm
        refine same_kids n t (by decide) (by decide) (by decide) (by decide) (fun h => absurd h (by decide)) (by simp) (fun i => ?_)
        have := same_norm (kid i) d (andTo_at hm i)
        simpa using this
      rw [if_neg k4]
      by_cases k5 : k = 5
      · subst k5
        rw [mayJ_k5] at hm
        simp only [Bool.and_eq_true] at hm
        refine same_kids n t (by decide) (by decide) (by decide) (by decide) (fun _ => rfl) (by simp) (fun i => ?_)
        have := same_norm (kid i) d (andTo_at hm.2.2 i)
        simpa using this
      · rw [mayJ_no (d + 1) k0 k1 k2 k3 (.inr ⟨k4, k5⟩)] at hm; cases hm
/-! ### nests -/
def nestT (n : Nat) : Bs := List.replicate n 91 ++ (49 :: List.replicate n 93)
def nestJ : Nat → Js
  | 0 => leafJ 2 1 []
  | n + 1 => manyJ 4 [] [nestJ n]
theorem nest_deep : ∀ (d n : Nat) (X : Bs), d < n → valueP d (List.replicate n 91 ++ X) = .error 9
  | 0, n + 1, X, h => rfl
  | d + 1, n + 1, X, h => by
    have ih := nest_deep d n X (by omega)
    obtain ⟨m, rfl⟩ : ∃ m, n = m + 1 := ⟨n - 1, by omega⟩
    rw [List.replicate_succ, List.cons_append] at ih ⊢
    show listP (valueP d) (91 :: (List.replicate m 91 ++ X)) = _
    have hg : insideP (oneL (valueP d)) 93 [] (91 :: (List.replicate m 91 ++ X)) = .error 9 := by
      show insideGo (oneL (valueP d)) 93 _ [] _ = _
      rw [insideGo]
      unfold oneL
      rw [ih]
    unfold listP
    rw [hg]
theorem nest_too (n : Nat) (h : 12 < n) : decodeP (nestT n) = .error 9 := by
  have hs : sp (nestT n) = nestT n := by
    obtain ⟨m, rfl⟩ : ∃ m, n = m + 1 := ⟨n - 1, by omega⟩
    rfl
  unfold decodeP
  rw [hs]
  unfold nestT
  rw [nest_deep 12 n _ h]
theorem nest_may : ∀ (d n : Nat), n ≤ d → mayJ (nestJ n) d = true
  | d, 0, _ => mayJ_k2 d
  | d + 1, n + 1, h => by
    show mayJ (.mk 4 0 [] [] 1 _) (d + 1) = true
    rw [mayJ_k4]
    exact andTo_true (fun i => by
      have : i.val = 0 := by omega
      simp [this, nest_may d n (by omega)])
theorem nest_show : ∀ n, showJ (nestJ n) = nestT n
  | 0 => rfl
  | n + 1 => by
    have ih := nest_show n
    show showJ (.mk 4 0 [] [] 1 _) = _
    rw [showJ_mk, if_neg (by decide), if_neg (by decide), if_neg (by decide), if_neg (by decide), if_neg (by decide)]
    have e : pieces 4 [] (fun i : Fin 1 => [nestJ n][i.val]) = [nestT n] := by
      unfold pieces piece
      simp [ih]
    show (91 :: (commas (pieces 4 [] (fun i : Fin 1 => [nestJ n][i.val])) ++ [93])) = _
    rw [e]
    unfold nestT
    rw [List.replicate_succ, List.replicate_succ']
    simp [commas]
theorem nest_norm : ∀ n, normJ (nestJ n) = nestJ n
  | 0 => rfl
  | n + 1 => by
    have ih := nest_norm n
    show normJ (.mk 4 0 [] [] 1 _) = _
    rw [normJ_mk, if_neg (by decide), if_neg (by decide), if_neg (by decide), if_neg (by decide), if_pos rfl]
    have e : (List.ofFn fun i : Fin 1 => normJ ([nestJ n][i.val])) = [nestJ n] := by simp [ih]
    show manyJ 4 [] (List.ofFn fun i : Fin 1 => normJ ([nestJ n][i.val])) = _
    rw [e]
    rfl
theorem nest_decode (n : Nat) (h : n ≤ 12) : decodeP (nestT n) = .ok (nestJ n) ∧ encodeP (nestJ n) = nestT n := by
  have hm := nest_may 12 n h
  have hd := decode_show hm
  rw [nest_show, nest_norm] at hd
  refine ⟨hd, ?_⟩
  unfold encodeP
  rw [hm, nest_show]
  rfl
end Go.Proofs.YtminegmjklehnaaGreatDoor.J

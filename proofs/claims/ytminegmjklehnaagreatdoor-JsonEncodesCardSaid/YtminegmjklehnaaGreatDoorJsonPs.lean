/-
  JSON, plain: what is read may be written, and is not long.
-/
import Derived.Test.YtminegmjklehnaaGreatDoorJsonPr
import Derived.Test.YtminegmjklehnaaGreatDoorJsonX
namespace Go.Proofs.YtminegmjklehnaaGreatDoor.J
open Go.Proofs.YtminegmjklehnaaGreatDoor.M hiding Bs
set_option linter.unusedVariables false
set_option linter.unusedSimpArgs false

theorem utfB_len (n : Nat) : (utfB n).length ≤ 4 := by
  unfold utfB
  split
  · simp
  split
  · simp
  split <;> simp
set_option maxRecDepth 100000 in
theorem esc_size {L M m : Bs} (h : escP L = .ok (m, M)) : m.length + M.length ≤ L.length := by
  cases L with
  | nil => cases h
  | cons c L =>
    rw [escP_cons] at h
    split at h
    · cases h; simp; omega
    · split at h
      · unfold uniP at h
        split at h
        · cases h
        · rename_i n M' hx
          obtain ⟨a, b, c, d, rfl⟩ := hex_less hx
          split at h
          · cases h
          · split at h
            · unfold lowP at h
              split at h
              · split at h
                · split at h
                  · cases h
                  · rename_i m' M2 hy
                    obtain ⟨a', b', c', d', rfl⟩ := hex_less hy
                    split at h
                    · cases h
                    · have h := Except.ok.inj h
                      rw [Prod.mk.injEq] at h
                      obtain ⟨rfl, rfl⟩ := h
                      have := utfB_len (65536 + (n - 55296) * 1024 + (m' - 56320))
                      simp only [List.length_cons]
                      omega
                · cases h
              · cases h
            · cases h
              have := utfB_len n
              simp only [List.length_cons]
              omega
      · cases h
theorem textGo_size : ∀ (f : Nat) (acc L t M : Bs), textGo f acc L = .ok (t, M) → t.length + M.length + 1 ≤ acc.length + L.length
  | 0, _, _, _, _, h => by cases h
  | _ + 1, _, [], _, _, h => by cases h
  | f + 1, acc, c :: L, t, M, h => by
    rw [textGo] at h
    split at h
    · cases h; simp; omega
    split at h
    · split at h
      · cases h
      · rename_i m M' he
        have := esc_size he
        have := textGo_size f _ _ _ _ h
        simp at this ⊢; omega
    split at h
    · cases h
    · have := textGo_size f _ _ _ _ h
      have := (charN_le (c :: L)).1
      rw [List.length_drop, List.length_append, List.length_take] at *
      omega
theorem textP_size {L t M : Bs} (h : textP L = .ok (t, M)) : t.length + M.length + 2 ≤ L.length := by
  cases L with
  | nil => cases h
  | cons c L =>
    rw [textP_cons] at h
    split at h
    · have := textGo_size _ _ _ _ _ h
      simp at this ⊢; omega
    · cases h
theorem quoteT_len (t : Bs) : t.length + 2 ≤ (quoteT t).length ∧ (quoteT t).length ≤ 6 * t.length + 2 := by
  have h1 := quote_len t
  have h2 : t.length ≤ (t.flatMap quoteC).length := by
    clear h1
    induction t with
    | nil => simp
    | cons c t ih =>
      rw [List.flatMap_cons, List.length_append, List.length_cons]
      have : 1 ≤ (quoteC c).length := by
        unfold quoteC
        repeat' split
        all_goals simp
      omega
  unfold quoteT
  simp only [List.length_cons, List.length_append, List.length_nil]
  omega
theorem whole_digits {L d M : Bs} (h : wholeP L = .ok (d, M)) : (∀ c ∈ d, isDig c = true) ∧ d.length + M.length = L.length ∧ 0 < d.length := by
  cases L with
  | nil => cases h
  | cons c L =>
    rw [wholeP_c] at h
    split at h
    · cases h
      exact ⟨by intro c hc; rw [List.mem_singleton.1 hc]; rfl, by simp; omega, by simp⟩
    · unfold digitsP at h
      split at h
      · cases h
      · rename_i hx
        cases h
        refine ⟨fun x hx => ?_, ?_, ?_⟩
        · have := List.all_takeWhile (p := isDig) (l := c :: L)
          rw [List.all_eq_true] at this
          exact this x hx
        · have := congrArg List.length (List.takeWhile_append_dropWhile (p := isDig) (l := c :: L))
          rw [List.length_append] at this
          exact this
        · exact List.length_pos_iff.2 (by simpa using hx)
theorem intT_size (n : Int) (k : Nat) (h : n.natAbs < 10 ^ (k + 1)) : (intT n).length ≤ k + 1 + (if n < 0 then 1 else 0) := by
  have := natT_len k (n.natAbs + 1) n.natAbs (Nat.lt_succ_self _) h
  unfold intT
  split <;> simp <;> omega
theorem num_read {L M : Bs} {n : Int} (h : numP L = .ok (n, M)) : (n < 1000000000000000 ∧ -1000000000000000 < n) ∧ (intT n).length + M.length ≤ L.length := by
  unfold numP at h
  split at h
  · cases h
  · rename_i wh L2 hw
    unfold numTail at h
    split at h
    · cases h
    · rename_i f L3 hf
      split at h
      · cases h
      · rename_i x L4 he
        split at h
        · cases h
        · rename_i hc
          have h := Except.ok.inj h
          rw [Prod.mk.injEq] at h
          obtain ⟨h1, h2⟩ := h
          subst h2
          obtain ⟨hd, hl, hp⟩ := whole_digits hw
          have hlen : wh.length ≤ 15 := by
            cases hh : decide (15 < wh.length) with
            | false => simpa using hh
            | true => rw [hh] at hc; simp at hc
          have hb := decV_bound wh.length wh rfl hd
          have h3 := frac_le hf
          have h4 := exp_le he
          obtain ⟨k, hk⟩ : ∃ k, wh.length = k + 1 := ⟨wh.length - 1, by omega⟩
          have hpow : (10 : Int) ^ wh.length ≤ 1000000000000000 := by
            have : (10 : Nat) ^ wh.length ≤ 10 ^ 15 := Nat.pow_le_pow_right (by decide) hlen
            have h5 : ((10 ^ wh.length : Nat) : Int) ≤ ((10 ^ 15 : Nat) : Int) := Int.ofNat_le.2 this
            simpa using h5
          have habs : (decV wh).natAbs < 10 ^ (k + 1) := by
            rw [← hk]
            have h5 : ((decV wh).natAbs : Int) < ((10 ^ wh.length : Nat) : Int) := by
              rw [Int.natAbs_of_nonneg hb.1]
              simpa using hb.2
            omega
          cases hn : (negP L).1 with
          | false =>
            rw [hn] at h1
            have h1 : decV wh = n := h1
            subst h1
            have hs := intT_size (decV wh) k habs
            rw [if_neg (by omega)] at hs
            have := neg_le L
            exact ⟨⟨by omega, by omega⟩, by omega⟩
          | true =>
            rw [hn] at h1
            have h1 : -decV wh = n := h1
            subst h1
            have hs := intT_size (-decV wh) k (by omega)
            have hneg : (negP L).2.length + 1 = L.length := by
              cases L with
              | nil => cases hn
              | cons c L =>
                rw [negP_c] at hn ⊢
                split at hn
                · rename_i hc; rw [if_pos hc]; simp
                · cases hn
            refine ⟨⟨by omega, by omega⟩, ?_⟩
            split at hs <;> omega
/-- what is right about a value that was read, with so many bytes. -/
def GoodJ (d : Nat) (j : Js) : Prop := mayJ j d = true ∧ SmallJ j
def sizeL (l : List Js) : Nat := (l.map fun j => (showJ j).length + 1).sum
theorem sizeL_snoc (l : List Js) (j : Js) : sizeL (l ++ [j]) = sizeL l + (showJ j).length + 1 := by
  unfold sizeL; simp; omega
theorem sizeL_mem {l : List Js} {j : Js} (h : j ∈ l) : (showJ j).length + 1 ≤ sizeL l := by
  induction l with
  | nil => cases h
  | cons x l ih =>
    unfold sizeL at ih ⊢
    rw [List.map_cons, List.sum_cons]
    rcases List.mem_cons.1 h with rfl | h
    · omega
    · have := ih h; omega
theorem sizeL_len (l : List Js) : l.length ≤ sizeL l := by
  induction l with
  | nil => simp
  | cons x l ih =>
    unfold sizeL at ih ⊢
    rw [List.map_cons, List.sum_cons, List.length_cons]
    omega
def sizeN (l : List Bs) : Nat := (l.map fun t => (quoteT t).length + 1).sum
theorem sizeN_snoc (l : List Bs) (t : Bs) : sizeN (l ++ [t]) = sizeN l + (quoteT t).length + 1 := by
  unfold sizeN; simp; omega
theorem sizeN_mem {l : List Bs} {t : Bs} (h : t ∈ l) : t.length ≤ sizeN l := by
  induction l with
  | nil => cases h
  | cons x l ih =>
    unfold sizeN at ih ⊢
    rw [List.map_cons, List.sum_cons]
    rcases List.mem_cons.1 h with rfl | h
    · have := quoteT_len t; omega
    · have := ih h; omega
theorem commas_sum : ∀ l : List Bs, (commas l).length ≤ (l.map fun t => t.length + 1).sum
  | [] => by simp [commas]
  | [x] => by simp [commas]
  | x :: y :: l => by
    have := commas_sum (y :: l)
    rw [commas_cons, List.length_append, List.length_cons, List.map_cons, List.sum_cons]
    omega
theorem pieces_list (l : List Js) : pieces 4 [] (fun i : Fin l.length => l[i.val]) = l.map showJ := by
  unfold pieces piece
  apply List.ext_getElem
  · simp
  · intro i h1 h2
    simp
theorem pieces_obj (names : List Bs) (l : List Js) (hl : names.length = l.length) : pieces 5 names (fun i : Fin l.length => l[i.val]) = List.zipWith (fun t j => quoteT t ++ (58 :: showJ j)) names l := by
  unfold pieces piece
  apply List.ext_getElem
  · simp [hl]
  · intro i h1 h2
    have : i < names.length := by simp at h1; omega
    simp [List.getD_eq_getElem?_getD, this]
theorem zip_sum : ∀ (names : List Bs) (l : List Js), names.length = l.length → ((List.zipWith (fun t j => quoteT t ++ (58 :: showJ j)) names l).map fun t => t.length + 1).sum ≤ sizeN names + sizeL l
  | [], [], _ => by simp
  | t :: names, j :: l, h => by
    have ih := zip_sum names l (by simpa using h)
    unfold sizeN sizeL at ih ⊢
    simp at ih ⊢
    omega
  | [], _ :: _, h => by simp at h
  | _ :: _, [], h => by simp at h
theorem list_show (l : List Js) : (showJ (manyJ 4 [] l)).length ≤ sizeL l + 2 := by
  unfold manyJ
  rw [showJ_mk, if_neg (by decide), if_neg (by decide), if_neg (by decide), if_neg (by decide), if_neg (by decide), pieces_list]
  have := commas_sum (l.map showJ)
  rw [List.map_map] at this
  unfold sizeL
  simp [Function.comp_def] at this ⊢
  omega
theorem obj_show (names : List Bs) (l : List Js) (hl : names.length = l.length) : (showJ (manyJ 5 names l)).length ≤ sizeN names + sizeL l + 2 := by
  unfold manyJ
  rw [showJ_mk, if_neg (by decide), if_neg (by decide), if_neg (by decide), if_neg (by decide), if_pos rfl, pieces_obj names l hl]
  have h1 := commas_sum (List.zipWith (fun t j => quoteT t ++ (58 :: showJ j)) names l)
  have h2 := zip_sum names l hl
  simp only [List.length_cons, List.length_append, List.length_nil]
  omega
theorem SmallJ_mk (k n : Int) (t : Bs) (names : List Bs) (nk : Nat) (kid : Fin nk → Js) : SmallJ (.mk k n t names nk kid) ↔ (k = 2 → -9223372036854775808 ≤ n ∧ n ≤ 9223372036854775807) ∧ t.length ≤ 1000000000 ∧ (∀ x ∈ names, x.length ≤ 1000000000) ∧ nk ≤ 1000000000 ∧ (k = 5 → names.length = nk) ∧ (showJ (.mk k n t names nk kid)).length ≤ 1000000000 ∧ (k ≠ 0 → k ≠ 1 → k ≠ 2 → k ≠ 3 → ∀ i, SmallJ (kid i)) := by
  rw [SmallJ]
theorem namesGo_snoc : ∀ (l seen : List Bs) (s : Bs), namesGo seen l = true → validT s = true → (seen ++ l).contains s = false → namesGo seen (l ++ [s]) = true
  | [], seen, s, _, h2, h3 => by
    rw [List.nil_append, names_cons]
    rw [List.append_nil] at h3
    rw [h2, h3]; rfl
  | x :: l, seen, s, h1, h2, h3 => by
    rw [names_cons] at h1
    simp only [Bool.and_eq_true] at h1
    rw [List.cons_append, names_cons, h1.1.1, h1.1.2]
    exact namesGo_snoc l (seen ++ [x]) s h1.2 h2 (by rw [List.append_assoc]; exact h3)
/-- what a piece keeps. -/
theorem go_keeps {σ : Type} (one : σ → P σ) (endc : UInt8) (I : σ → Prop) (size : σ → Nat) (B : Nat) (h : ∀ a L a' M, I a → L.length ≤ B → one a L = .ok (a', M) → I a' ∧ M.length ≤ L.length ∧ size a' + 7 * M.length ≤ size a + 7 * L.length + 7) :
    ∀ (f : Nat) (a : σ) (L : Bs) (a' : σ) (M : Bs), I a → L.length ≤ B → insideGo one endc f a L = .ok (a', M) → I a' ∧ size a' + 7 * M.length ≤ size a + 7 * L.length
  | 0, _, _, _, _, _, _, e => by cases e
  | f + 1, a, L, a', M, hI, hB, e => by
    rw [insideGo] at e
    cases ho : one a L with
    | error d => rw [ho] at e; cases e
    | ok q =>
      obtain ⟨a1, M1⟩ := q
      rw [ho] at e
      dsimp only at e
      obtain ⟨h1, h0, h2⟩ := h _ _ _ _ hI hB ho
      have h3 := sp_le M1
      cases hm : sp M1 with
      | nil => rw [hm] at e; cases e
      | cons c K =>
        rw [hm] at e h3
        simp at h3
        dsimp only at e
        split at e
        · have h4 := sp_le K
          have := go_keeps one endc I size B h f a1 (sp K) a' M h1 (by omega) e
          exact ⟨this.1, by omega⟩
        · split at e
          · cases e
            exact ⟨h1, by omega⟩
          · cases e
theorem inside_keeps {σ : Type} (one : σ → P σ) (endc : UInt8) (I : σ → Prop) (size : σ → Nat) (B : Nat) (h : ∀ a L a' M, I a → L.length ≤ B → one a L = .ok (a', M) → I a' ∧ M.length ≤ L.length ∧ size a' + 7 * M.length ≤ size a + 7 * L.length + 7)
    (a : σ) (L : Bs) (a' : σ) (M : Bs) (hI : I a) (hB : L.length ≤ B) (e : insideP one endc a L = .ok (a', M)) : I a' ∧ size a' + 7 * M.length ≤ size a + 7 * L.length := by
  have h1 := sp_le L
  unfold insideP at e
  cases hm : sp L with
  | nil =>
    rw [hm] at e
    have := go_keeps one endc I size B h _ _ _ _ _ hI (by simp) e
    exact ⟨this.1, by have := this.2; simp at this; omega⟩
  | cons c K =>
    rw [hm] at e h1
    dsimp only at e
    simp at h1
    split at e
    · cases e
      exact ⟨hI, by omega⟩
    · have := go_keeps one endc I size B h _ _ _ _ _ hI (by simp; omega) e
      exact ⟨this.1, by have := this.2; simp at this; omega⟩
/-- sizes. -/
def GJ (j : Js) : Prop := SmallJ j ∧ FitJ j
theorem FitJ_mk (k n : Int) (t : Bs) (names : List Bs) (nk : Nat) (kid : Fin nk → Js) : FitJ (.mk k n t names nk kid) ↔ t.length ≤ 9223372036854775807 ∧ (∀ x ∈ names, x.length ≤ 9223372036854775807) ∧ ∀ i, FitJ (kid i) := by rw [FitJ]
def RSpec (d : Nat) (p : P Js) : Prop := ∀ L j M, L.length ≤ 100000000 → p L = .ok (j, M) → mayJ j d = true ∧ GJ j ∧ M.length ≤ L.length ∧ (showJ j).length + 7 * M.length ≤ 7 * L.length
theorem small_leaf {k n : Int} {t : Bs} (h1 : -9223372036854775808 ≤ n) (h2 : n ≤ 9223372036854775807) (h3 : t.length ≤ 1000000000) (h5 : k ≠ 5) (h4 : (showJ (leafJ k n t)).length ≤ 1000000000) : GJ (leafJ k n t) := by
  unfold leafJ at *
  refine ⟨?_, (FitJ_mk ..).2 ⟨by omega, by simp, fun i => i.elim0⟩⟩
  rw [SmallJ_mk]
  exact ⟨fun _ => ⟨h1, h2⟩, h3, by simp, by omega, fun h => absurd h h5, h4, fun _ _ _ _ i => i.elim0⟩
theorem show_leaf3 (t : Bs) : showJ (leafJ 3 0 t) = quoteT t := by
  unfold leafJ
  rw [showJ_mk, if_neg (by decide), if_neg (by decide), if_neg (by decide), if_pos rfl]
theorem show_leaf2 (n : Int) : showJ (leafJ 2 n []) = intT n := by
  unfold leafJ
  rw [showJ_mk, if_neg (by decide), if_neg (by decide), if_pos rfl]
theorem numJ_read (d : Nat) : RSpec d numJ := by
  intro L j M hL h
  unfold numJ at h
  cases hn : numP L with
  | error e => rw [hn] at h; cases h
  | ok q =>
    obtain ⟨n, M'⟩ := q
    rw [hn] at h
    cases h
    obtain ⟨h1, h2⟩ := num_read hn
    have hs := show_leaf2 n
    refine ⟨?_, small_leaf (by omega) (by omega) (by simp) (by decide) (by rw [hs]; omega), by omega, by rw [hs]; omega⟩
    show mayJ (.mk 2 n [] [] 0 _) d = true
    rw [mayJ_k2]; simp [h1]
theorem textJ_read (d : Nat) : RSpec d textJ := by
  intro L j M hL h
  unfold textJ at h
  cases hn : textP L with
  | error e => rw [hn] at h; cases h
  | ok q =>
    obtain ⟨t, M'⟩ := q
    rw [hn] at h
    cases h
    have h1 := textP_valid hn
    have h2 := textP_size hn
    have hs := show_leaf3 t
    have hq := (quoteT_len t).2
    refine ⟨?_, small_leaf (by omega) (by omega) (by omega) (by decide) (by rw [hs]; omega), by omega, by rw [hs]; omega⟩
    show mayJ (.mk 3 0 t [] 0 _) d = true
    rw [mayJ_k3]; exact h1
theorem wordJ_read (d : Nat) (s : Bs) (j0 : Js) (h1 : mayJ j0 d = true) (h2 : GJ j0) (h3 : (showJ j0).length ≤ s.length) : RSpec d (wordP s j0) := by
  intro L j M hL h
  unfold wordP at h
  split at h
  · rename_i hp
    cases h
    have := (List.isPrefixOf_iff_prefix.1 hp).length_le
    refine ⟨h1, h2, ?_, ?_⟩ <;> (rw [List.length_drop]; omega)
  · cases h
theorem list_read {d : Nat} {p : P Js} (hp : RSpec d p) : RSpec (d + 1) (fun L => match L with | [] => .error 3 | _ :: L => listP p L) := by
  intro L j M hL h
  cases L with
  | nil => cases h
  | cons c L =>
    dsimp only at h
    simp at hL
    unfold listP at h
    cases hn : insideP (oneL p) 93 [] L with
    | error e => rw [hn] at h; cases h
    | ok q =>
      obtain ⟨l, M'⟩ := q
      rw [hn] at h
      cases h
      obtain ⟨hI, hs⟩ := inside_keeps (oneL p) 93 (fun l => ∀ x ∈ l, mayJ x d = true ∧ GJ x) sizeL 100000000 (fun a L a' M hI hB ho => by
        unfold oneL at ho
        cases hx : p L with
        | error e => rw [hx] at ho; cases ho
        | ok q =>
          obtain ⟨x, M1⟩ := q
          rw [hx] at ho
          cases ho
          obtain ⟨g1, g2, g3, g4⟩ := hp _ _ _ hB hx
          refine ⟨fun y hy => ?_, g3, by rw [sizeL_snoc]; omega⟩
          rcases List.mem_append.1 hy with hy | hy
          · exact hI y hy
          · rw [List.mem_singleton.1 hy]; exact ⟨g1, g2⟩) [] L l M (by simp) (by omega) hn
      have h0 : sizeL [] = 0 := rfl
      have hsh := list_show l
      have hll := sizeL_len l
      refine ⟨?_, ?_, by simp; omega, by simp; omega⟩
      · show mayJ (.mk 4 0 [] [] l.length _) (d + 1) = true
        rw [mayJ_k4]
        exact andTo_true (fun i => (hI _ (List.getElem_mem _)).1)
      · unfold manyJ at hsh ⊢
        refine ⟨?_, (FitJ_mk ..).2 ⟨by simp, by simp, fun i => (hI _ (List.getElem_mem _)).2.2⟩⟩
        rw [SmallJ_mk]
        exact ⟨by decide, by simp, by simp, by omega, fun h => absurd h (by decide), by omega, fun _ _ _ _ i => (hI _ (List.getElem_mem _)).2.1⟩
theorem obj_read {d : Nat} {p : P Js} (hp : RSpec d p) : RSpec (d + 1) (fun L => match L with | [] => .error 3 | _ :: L => objP p L) := by
  intro L j M hL h
  cases L with
  | nil => cases h
  | cons c L =>
    dsimp only at h
    simp at hL
    unfold objP at h
    cases hn : insideP (oneO p) 125 ([], []) L with
    | error e => rw [hn] at h; cases h
    | ok q =>
      obtain ⟨l, M'⟩ := q
      rw [hn] at h
      cases h
      obtain ⟨⟨hI, hno, hln⟩, hs⟩ := inside_keeps (oneO p) 125 (fun l => (∀ x ∈ l.2, mayJ x d = true ∧ GJ x) ∧ namesOk l.1 = true ∧ l.1.length = l.2.length) (fun l => sizeN l.1 + sizeL l.2) 100000000 (fun a L a' M hI hB ho => by
        unfold oneO at ho
        cases ht : textP L with
        | error e => rw [ht] at ho; cases ho
        | ok q =>
          obtain ⟨s, M1⟩ := q
          rw [ht] at ho
          dsimp only at ho
          have hts := textP_size ht
          have htv := textP_valid ht
          have hq := (quoteT_len s).2
          split at ho
          · cases ho
          · rename_i hcn
            have h5 := sp_le M1
            unfold pairTail at ho
            cases hm : sp M1 with
            | nil => rw [hm] at ho; cases ho
            | cons c K =>
              rw [hm] at ho h5
              dsimp only at ho
              simp at h5
              split at ho
              · have h6 := sp_le K
                cases hx : p (sp K) with
                | error e => rw [hx] at ho; cases ho
                | ok q =>
                  obtain ⟨x, M2⟩ := q
                  rw [hx] at ho
                  cases ho
                  obtain ⟨g1, g2, g3, g4⟩ := hp _ _ _ (by omega) hx
                  refine ⟨⟨fun y hy => ?_, namesGo_snoc a.1 [] s hI.2.1 htv (by simpa using hcn), by simp [hI.2.2]⟩, by omega, by simp only [sizeL_snoc, sizeN_snoc]; omega⟩
                  rcases List.mem_append.1 hy with hy | hy
                  · exact hI.1 y hy
                  · rw [List.mem_singleton.1 hy]; exact ⟨g1, g2⟩
              · cases ho) ([], []) L l M ⟨by simp, rfl, rfl⟩ (by omega) hn
      have h0 : sizeN [] + sizeL [] = 0 := rfl
      dsimp only at hI hno hln hs
      rw [h0] at hs
      have hsh := obj_show l.1 l.2 hln
      have hll := sizeL_len l.2
      refine ⟨?_, ?_, by simp; omega, by simp; omega⟩
      · show mayJ (.mk 5 0 [] l.1 l.2.length _) (d + 1) = true
        rw [mayJ_k5, hno, Bool.true_and, hln, beq_self_eq_true, Bool.true_and]
        exact andTo_true (fun i => (hI _ (List.getElem_mem _)).1)
      · unfold manyJ at hsh ⊢
        refine ⟨?_, (FitJ_mk ..).2 ⟨by simp, fun x hx => by have := sizeN_mem hx; omega, fun i => (hI _ (List.getElem_mem _)).2.2⟩⟩
        rw [SmallJ_mk]
        exact ⟨by decide, by simp, fun x hx => by have := sizeN_mem hx; omega, by omega, fun _ => hln, by omega, fun _ _ _ _ i => (hI _ (List.getElem_mem _)).2.1⟩
theorem value_read : ∀ d, RSpec d (valueP d) := by
  intro d
  induction d with
  | zero =>
    intro L j M hL h
    cases L with
    | nil => exact numJ_read 0 [] j M hL h
    | cons c L =>
      rw [valueP_eq, valueOf_c] at h
      split at h
      · exact wordJ_read 0 _ _ (mayJ_k0 0) (small_leaf (by decide) (by decide) (by simp) (by decide) (by decide)) (by decide) _ _ _ hL h
      split at h
      · exact wordJ_read 0 _ _ (mayJ_k1 0) (small_leaf (by decide) (by decide) (by simp) (by decide) (by decide)) (by decide) _ _ _ hL h
      split at h
      · exact wordJ_read 0 _ _ (mayJ_k1 0) (small_leaf (by decide) (by decide) (by simp) (by decide) (by decide)) (by decide) _ _ _ hL h
      split at h
      · exact textJ_read 0 _ _ _ hL h
      split at h
      · cases h
      split at h
      · cases h
      · exact numJ_read 0 _ j M hL h
  | succ d ih =>
    intro L j M hL h
    cases L with
    | nil => exact numJ_read (d + 1) [] j M hL h
    | cons c L =>
      rw [valueP_eq, valueOf_c] at h
      split at h
      · exact wordJ_read (d + 1) _ _ (mayJ_k0 _) (small_leaf (by decide) (by decide) (by simp) (by decide) (by decide)) (by decide) _ _ _ hL h
      split at h
      · exact wordJ_read (d + 1) _ _ (mayJ_k1 _) (small_leaf (by decide) (by decide) (by simp) (by decide) (by decide)) (by decide) _ _ _ hL h
      split at h
      · exact wordJ_read (d + 1) _ _ (mayJ_k1 _) (small_leaf (by decide) (by decide) (by simp) (by decide) (by decide)) (by decide) _ _ _ hL h
      split at h
      · exact textJ_read (d + 1) _ _ _ hL h
      split at h
      · exact list_read ih (c :: L) j M hL h
      split at h
      · exact obj_read ih (c :: L) j M hL h
      · exact numJ_read (d + 1) _ j M hL h
/-- what is read may be written, and is not long. -/
theorem decode_read {b : Bs} {j : Js} (hb : b.length ≤ 100000000) (h : decodeP b = .ok j) : mayJ j 12 = true ∧ GJ j ∧ (showJ j).length ≤ 700000000 := by
  have h1 := sp_le b
  unfold decodeP at h
  cases hv : valueP 12 (sp b) with
  | error e => rw [hv] at h; cases h
  | ok q =>
    obtain ⟨x, L⟩ := q
    rw [hv] at h
    dsimp only at h
    split at h
    · cases h
      obtain ⟨g1, g2, g3, g4⟩ := value_read 12 _ _ _ (by omega) hv
      exact ⟨g1, g2, by omega⟩
    · cases h
end Go.Proofs.YtminegmjklehnaaGreatDoor.J

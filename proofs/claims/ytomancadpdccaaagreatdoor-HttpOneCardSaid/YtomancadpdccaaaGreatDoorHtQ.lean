/-
  HTTP, plain: responses.
-/
import Derived.Test.YtomancadpdccaaaGreatDoorHtP
import Derived.Test.YtomancadpdccaaaGreatDoorNumZ
namespace Go.Proofs.YtomancadpdccaaaGreatDoor.Ht
open Go.RowKit Go.Proofs.YtomancadpdccaaaGreatDoor.B
set_option linter.unusedVariables false
set_option linter.unusedSimpArgs false

/-! ### where the head ends -/
theorem idx_here (s : Bs) : Lib.index (crlf2 ++ s) crlf2 = 0 := by
  refine idx_is (i := 0) (by rw [List.length_append]; omega) ?_ (fun j hj => by omega)
  rw [List.drop_zero, List.take_left]
theorem idx_skip : ∀ (x s : Bs) {i : Nat}, (13 : UInt8) ∉ x → Lib.index s crlf2 = i → Lib.index (x ++ s) crlf2 = ((x.length + i : Nat) : Int)
  | [], s, i, _, h => by simpa using h
  | c :: x, s, i, hx, h => by
    simp only [List.mem_cons, not_or] at hx
    have ih := idx_skip x s hx.2 h
    rw [List.cons_append, Lib.index, ih]
    have h1 : crlf2.isPrefixOf (c :: (x ++ s)) = false := by
      show ((13 : UInt8) == c && _) = false
      rw [show ((13 : UInt8) == c) = false by rw [beq_eq_false_iff_ne]; exact hx.1]; rfl
    rw [h1, show (((x.length + i : Nat) : Int) == -1) = false by rw [beq_eq_false_iff_ne]; omega]
    simp only [Bool.false_eq_true, if_false, List.length_cons]
    omega
theorem idx_line {c : UInt8} (s : Bs) {i : Nat} (hc : c ≠ 13) (h : Lib.index (c :: s) crlf2 = i) : Lib.index (crlf ++ c :: s) crlf2 = ((2 + i : Nat) : Int) := by
  have h1 : crlf2.isPrefixOf (13 :: 10 :: c :: s) = false := by
    show ((13 : UInt8) == 13 && ((10 : UInt8) == 10 && ((13 : UInt8) == c && _))) = false
    rw [show ((13 : UInt8) == c) = false by rw [beq_eq_false_iff_ne]; exact fun e => hc e.symm]; rfl
  have h2 : crlf2.isPrefixOf (10 :: c :: s) = false := rfl
  show Lib.index (13 :: 10 :: c :: s) crlf2 = _
  rw [Lib.index, h1, Lib.index, h2, h]
  rw [show (((i : Nat) : Int) == -1) = false by rw [beq_eq_false_iff_ne]; omega]
  simp only [Bool.false_eq_true, if_false]
  rw [show (((i : Int) + 1) == -1) = false by rw [beq_eq_false_iff_ne]; omega]
  simp only [Bool.false_eq_true, if_false]
  omega
/-! ### what a status is called -/
def reas : List (Int × Bs) := [(200, [79, 75]), (400, [66, 97, 100, 32, 82, 101, 113, 117, 101, 115, 116]), (401, [85, 110, 97, 117, 116, 104, 111, 114, 105, 122, 101, 100]), (403, [70, 111, 114, 98, 105, 100, 100, 101, 110]),
  (404, [78, 111, 116, 32, 70, 111, 117, 110, 100]), (405, [77, 101, 116, 104, 111, 100, 32, 78, 111, 116, 32, 65, 108, 108, 111, 119, 101, 100]), (409, [67, 111, 110, 102, 108, 105, 99, 116]), (411, [76, 101, 110, 103, 116, 104, 32, 82, 101, 113, 117, 105, 114, 101, 100]),
  (413, [67, 111, 110, 116, 101, 110, 116, 32, 84, 111, 111, 32, 76, 97, 114, 103, 101]), (422, [85, 110, 112, 114, 111, 99, 101, 115, 115, 97, 98, 108, 101, 32, 67, 111, 110, 116, 101, 110, 116]), (429, [84, 111, 111, 32, 77, 97, 110, 121, 32, 82, 101, 113, 117, 101, 115, 116, 115]),
  (431, [82, 101, 113, 117, 101, 115, 116, 32, 72, 101, 97, 100, 101, 114, 32, 70, 105, 101, 108, 100, 115, 32, 84, 111, 111, 32, 76, 97, 114, 103, 101]), (503, [83, 101, 114, 118, 105, 99, 101, 32, 85, 110, 97, 118, 97, 105, 108, 97, 98, 108, 101]),
  (505, [72, 84, 84, 80, 32, 86, 101, 114, 115, 105, 111, 110, 32, 78, 111, 116, 32, 83, 117, 112, 112, 111, 114, 116, 101, 100]), (507, [73, 110, 115, 117, 102, 102, 105, 99, 105, 101, 110, 116, 32, 83, 116, 111, 114, 97, 103, 101])]
def reaF (n : Int) : Bs := match reas.find? (fun p => p.1 == n) with
  | some p => p.2
  | none => []
theorem rea_cases {n : Int} (h : reaF n ≠ []) : ∃ k : Nat, n = k ∧ 200 ≤ k ∧ k ≤ 507 ∧ (13 : UInt8) ∉ reaF n := by
  unfold reaF at h ⊢
  cases hf : reas.find? (fun p => p.1 == n) with
  | none => rw [hf] at h; exact absurd rfl h
  | some p =>
    have hm := List.mem_of_find?_eq_some hf
    have hp := List.find?_some hf
    have hpn : p.1 = n := by simpa using hp
    have ha : ∀ q ∈ reas, ∃ k : Nat, q.1 = k ∧ 200 ≤ k ∧ k ≤ 507 ∧ (13 : UInt8) ∉ q.2 := by
      intro q hq
      have : (reas.all fun q => decide (200 ≤ q.1) && decide (q.1 ≤ 507) && !q.2.contains 13) = true := by decide
      have := List.all_eq_true.1 this q hq
      simp only [Bool.and_eq_true, decide_eq_true_eq, Bool.not_eq_true', List.contains_eq_mem, decide_eq_false_iff_not] at this
      exact ⟨q.1.toNat, by omega, by omega, by omega, this.2⟩
    obtain ⟨k, h1, h2, h3, h4⟩ := ha p hm
    exact ⟨k, by omega, h2, h3, h4⟩
/-! ### numbers -/
theorem dec3 (k : Nat) (h0 : 100 ≤ k) (h1 : k ≤ 999) : (Lib.decDigits k).length = 3 := by
  rw [Lib.decDigits, dif_neg (by omega), List.length_append, Lib.decDigits, dif_neg (by omega), List.length_append, Lib.decDigits, dif_pos (by omega)]
  rfl
theorem dec_inj {a b : Nat} (h : Lib.decDigits a = Lib.decDigits b) : a = b := by
  have h1 := Nu.decFrom_digits a a (Nat.le_refl _)
  have h2 := Nu.decFrom_digits b b (Nat.le_refl _)
  rw [h, h2] at h1
  exact (Option.some.inj h1).symm
theorem dec_not (c : UInt8) (hc : Lib.digitVal c = none) : ∀ (l : Bs) (a n : Nat), Lib.decFrom a l = some n → c ∉ l
  | [], _, _, _ => by simp
  | x :: l, a, n, h => by
    rw [Lib.decFrom] at h
    cases hx : Lib.digitVal x with
    | none => rw [hx] at h; cases h
    | some d =>
      rw [hx] at h
      simp only [List.mem_cons, not_or]
      exact ⟨fun e => (by rw [← e, hc] at hx; cases hx), dec_not c hc l _ n h⟩
theorem dec_no (c : UInt8) (hc : Lib.digitVal c = none) (u : Nat) : c ∉ Lib.decDigits u := dec_not c hc _ 0 u (Nu.decFrom_digits u u (Nat.le_refl _))
theorem pf_dec (k : Nat) (h : (Lib.decDigits k).length ≤ 18) : Nu.parseF (Lib.decDigits k) = some k := by
  unfold Nu.parseF
  rw [if_neg, Nu.decFrom_digits k k (Nat.le_refl _)]
  rintro (h0 | h0 | ⟨h0, h1⟩)
  · exact Nu.decDigits_ne k (List.eq_nil_of_length_eq_zero h0)
  · omega
  · by_cases hk : k = 0
    · subst hk
      rw [Lib.decDigits, dif_pos (by decide)] at h1
      simp at h1
    · exact Nu.head_digits k k (Nat.le_refl _) (by omega) h0
/-! ### a response -/
def ctype : Bs := [67, 111, 110, 116, 101, 110, 116, 45, 84, 121, 112, 101, 58, 32, 97, 112, 112, 108, 105, 99, 97, 116, 105, 111, 110, 47, 106, 115, 111, 110]
def clen : Bs := [67, 111, 110, 116, 101, 110, 116, 45, 76, 101, 110, 103, 116, 104, 58, 32]
def headR (n : Int) (m : Nat) : Bs := (version ++ 32 :: (Lib.itoa n ++ 32 :: reaF n)) ++ (crlf ++ (ctype ++ (crlf ++ ((clen ++ Lib.itoa m) ++ crlf2))))
def rspF (n : Int) (body : Bs) : Bs := if reaF n = [] then [] else headR n body.length ++ body
theorem head_idx {n : Int} (h : reaF n ≠ []) (m : Nat) (s : Bs) : Lib.index (headR n m ++ s) crlf2 = (((headR n m).length - 4 : Nat) : Int) ∧ 4 ≤ (headR n m).length := by
  obtain ⟨k, rfl, h1, h2, h3⟩ := rea_cases h
  have e0 := idx_here s
  have n1 : (13 : UInt8) ∉ clen ++ Lib.itoa (m : Int) := by
    rw [Lib.itoa_nonneg]
    simp only [List.mem_append, not_or]
    exact ⟨by decide, dec_no 13 rfl m⟩
  have e1 := idx_skip (clen ++ Lib.itoa (m : Int)) (crlf2 ++ s) n1 e0
  have e2 := idx_line (c := 67) _ (by decide) (show Lib.index (67 :: ((clen ++ Lib.itoa (m : Int)).tail ++ (crlf2 ++ s))) crlf2 = _ from e1)
  have e3 := idx_skip ctype (crlf ++ 67 :: ((clen ++ Lib.itoa (m : Int)).tail ++ (crlf2 ++ s))) (by decide) e2
  have e4 := idx_line (c := 67) _ (by decide) (show Lib.index (67 :: (ctype.tail ++ (crlf ++ 67 :: ((clen ++ Lib.itoa (m : Int)).tail ++ (crlf2 ++ s))))) crlf2 = _ from e3)
  have n2 : (13 : UInt8) ∉ version ++ 32 :: (Lib.itoa (k : Int) ++ 32 :: reaF k) := by
    rw [Lib.itoa_nonneg]
    simp only [List.mem_append, List.mem_cons, not_or]
    exact ⟨by decide, by decide, dec_no 13 rfl k, by decide, h3⟩
  have e5 := idx_skip (version ++ 32 :: (Lib.itoa (k : Int) ++ 32 :: reaF k)) _ n2 e4
  have hl : (headR k m).length = ((version ++ 32 :: (Lib.itoa (k : Int) ++ 32 :: reaF k)).length + (2 + (ctype.length + (2 + ((clen ++ Lib.itoa (m : Int)).length + 0))))) + 4 := by
    have l1 : crlf.length = 2 := rfl
    have l2 : crlf2.length = 4 := rfl
    unfold headR
    simp only [List.length_append, List.length_cons]
    omega
  refine ⟨?_, by omega⟩
  have hs : headR k m ++ s = (version ++ 32 :: (Lib.itoa (k : Int) ++ 32 :: reaF k)) ++ (crlf ++ 67 :: (ctype.tail ++ (crlf ++ 67 :: ((clen ++ Lib.itoa (m : Int)).tail ++ (crlf2 ++ s))))) := by
    unfold headR
    simp only [List.append_assoc]
    rfl
  rw [hs, e5, hl, Nat.add_sub_cancel]
theorem head_parts {n : Int} (h : reaF n ≠ []) (m : Nat) (s : Bs) : ∃ k : Nat, n = k ∧ 1 ≤ k ∧ ((headR n m ++ s).drop 9).take 3 = Lib.decDigits k ∧ 12 ≤ (headR n m ++ s).length ∧ Nu.parseF (Lib.decDigits k) = some k := by
  obtain ⟨k, rfl, h1, h2, h3⟩ := rea_cases h
  have h4 := dec3 k (by omega) (by omega)
  refine ⟨k, rfl, by omega, ?_, ?_, pf_dec k (by omega)⟩
  · have he : headR k m ++ s = (version ++ [32]) ++ (Lib.decDigits k ++ (32 :: (reaF k ++ (crlf ++ (ctype ++ (crlf ++ ((clen ++ Lib.itoa m) ++ crlf2)))) ++ s))) := by
      unfold headR
      rw [Lib.itoa_nonneg k]
      simp only [List.append_assoc, List.cons_append, List.nil_append]
    rw [he, List.drop_left' (by rfl), List.take_left' h4]
  · unfold headR
    rw [Lib.itoa_nonneg, List.length_append, List.length_append, List.length_append, List.length_cons, List.length_append]
    have : version.length = 8 := rfl
    omega
/-- what the program reads. -/
def readP (b : Bs) : Option (Int × Bs) :=
  match Lib.splitN b [32] 3 with
  | [_, x, _] => match Nu.parseF x with
    | none => none
    | some k => if k ≠ 0 ∧ rspF k (Lib.cut b crlf2).2.1 = b then some ((k : Int), (Lib.cut b crlf2).2.1) else none
  | _ => none
/-- what the document reads. -/
def readD (b : Bs) : Option (Int × Bs) :=
  if Lib.index b crlf2 < 0 ∨ b.length < 12 then none else
    match Nu.parseF ((b.drop 9).take 3) with
    | none => none
    | some k => if rspF k (b.drop ((Lib.index b crlf2).toNat + 4)) = b then some ((k : Int), b.drop ((Lib.index b crlf2).toNat + 4)) else none
theorem rsp_some {n : Int} {body b : Bs} (hb : b ≠ []) (h : rspF n body = b) : reaF n ≠ [] ∧ b = headR n body.length ++ body := by
  unfold rspF at h
  split at h
  · exact absurd h.symm hb
  · rename_i h0
    exact ⟨h0, h.symm⟩
theorem head_ne {n : Int} (m : Nat) (s : Bs) : headR n m ++ s ≠ [] := by
  unfold headR version
  simp
theorem readD_iff (b : Bs) (n : Int) (body : Bs) : readD b = some (n, body) ↔ reaF n ≠ [] ∧ b = headR n body.length ++ body := by
  constructor
  · intro h
    unfold readD at h
    split at h
    · cases h
    · rename_i h0
      have hb : b ≠ [] := fun e => by subst e; simp at h0
      split at h
      · cases h
      · split at h
        · rename_i hr
          simp only [Option.some.injEq, Prod.mk.injEq] at h
          obtain ⟨rfl, h2⟩ := h
          rw [h2] at hr
          exact rsp_some hb hr
        · cases h
  · rintro ⟨h, rfl⟩
    obtain ⟨h1, h2⟩ := head_idx h body.length body
    obtain ⟨k, rfl, h3, h4, h5, h6⟩ := head_parts h body.length body
    unfold readD
    rw [h1, if_neg (by omega), h4, h6, Int.toNat_natCast, Nat.sub_add_cancel h2, List.drop_left]
    simp only
    rw [if_pos]
    unfold rspF
    rw [if_neg h]
theorem splitN_head {n : Int} (h : reaF n ≠ []) (m : Nat) (s : Bs) : ∃ y, Lib.splitN (headR n m ++ s) [32] 3 = [version, Lib.itoa n, y] := by
  obtain ⟨k, rfl, h1, h2, h3⟩ := rea_cases h
  have hl : 3 ≤ (headR k m ++ s).length := by
    obtain ⟨_, _, _, _, h5, _⟩ := head_parts h m s
    omega
  have he : headR k m ++ s = version ++ 32 :: (Lib.decDigits k ++ 32 :: (reaF k ++ (crlf ++ (ctype ++ (crlf ++ ((clen ++ Lib.itoa m) ++ crlf2)))) ++ s)) := by
    unfold headR
    rw [Lib.itoa_nonneg k]
    simp only [List.append_assoc, List.cons_append]
  have hix : ∀ (a r : Bs), (32 : UInt8) ∉ a → Lib.index (a ++ 32 :: r) [32] = (a.length : Int) := by
    intro a r ha
    refine idx_is (by simp) ?_ (fun j hj => ?_)
    · rw [List.drop_left]; rfl
    · rw [List.drop_append_of_le_length (by omega)]
      intro e
      have hj' : a.drop j ≠ [] := fun e' => by have := congrArg List.length e'; rw [List.length_drop] at this; simp at this; omega
      cases hd : a.drop j with
      | nil => exact hj' hd
      | cons c t =>
        rw [hd] at e
        simp at e
        have : c ∈ a := List.mem_of_mem_drop (by rw [hd]; simp)
        rw [e] at this
        exact ha this
  generalize hr : reaF k ++ (crlf ++ (ctype ++ (crlf ++ ((clen ++ Lib.itoa m) ++ crlf2)))) ++ s = r at he
  refine ⟨r, ?_⟩
  have hmin : min 3 ((headR k m ++ s).length + 1) - 1 = 2 := by omega
  unfold Lib.splitN
  rw [hmin, he, Lib.splitK, hix _ _ (by decide)]
  rw [show (((version.length : Nat) : Int) == -1) = false by decide]
  simp only [Bool.false_eq_true, if_false, Int.toNat_natCast, Nat.add_zero]
  rw [List.take_left, show (version ++ 32 :: (Lib.decDigits k ++ 32 :: r)).drop (version.length + [(32 : UInt8)].length) = Lib.decDigits k ++ 32 :: r from by
    rw [← List.drop_drop, List.drop_left]; rfl]
  rw [Lib.splitK, hix _ _ (dec_no 32 rfl k)]
  rw [show ((((Lib.decDigits k).length : Nat) : Int) == -1) = false by rw [beq_eq_false_iff_ne]; omega]
  simp only [Bool.false_eq_true, if_false, Int.toNat_natCast, Nat.add_zero]
  rw [List.take_left, ← List.drop_drop, List.drop_left, Lib.itoa_nonneg]
  rfl
theorem readP_iff (b : Bs) (n : Int) (body : Bs) : readP b = some (n, body) ↔ reaF n ≠ [] ∧ b = headR n body.length ++ body := by
  constructor
  · intro h
    unfold readP at h
    split at h
    · rename_i y x z hx
      have hb : b ≠ [] := fun e => by
        subst e
        cases hx
      split at h
      · cases h
      · split at h
        · rename_i hr
          simp only [Option.some.injEq, Prod.mk.injEq] at h
          obtain ⟨rfl, h2⟩ := h
          rw [h2] at hr
          exact rsp_some hb hr.2
        · cases h
    · cases h
  · rintro ⟨h, rfl⟩
    obtain ⟨h1, h2⟩ := head_idx h body.length body
    obtain ⟨k, rfl, h3, h4, h5, h6⟩ := head_parts h body.length body
    obtain ⟨y, hy⟩ := splitN_head h body.length body
    unfold readP
    rw [hy, Lib.itoa_nonneg]
    simp only
    rw [h6]
    simp only
    have hc : (Lib.cut (headR (k : Int) body.length ++ body) crlf2).2.1 = body := by
      unfold Lib.cut
      rw [h1, if_pos (by omega)]
      show (headR (k : Int) body.length ++ body).drop _ = body
      rw [Int.toNat_natCast, show crlf2.length = 4 from rfl, Nat.sub_add_cancel h2, List.drop_left]
    rw [hc, if_pos ⟨by omega, by unfold rspF; rw [if_neg h]⟩]
theorem read_same (b : Bs) : readP b = readD b := by
  apply Option.ext
  rintro ⟨n, body⟩
  rw [readP_iff, readD_iff]
/-- a response, with more behind it. -/
theorem read_more {n : Int} {body m : Bs} (h : reaF n ≠ []) (hm : m ≠ []) : readP (rspF n body ++ m) = none := by
  cases hr : readP (rspF n body ++ m) with
  | none => rfl
  | some p =>
    exfalso
    obtain ⟨n', body'⟩ := p
    obtain ⟨h', he⟩ := (readP_iff _ _ _).1 hr
    have h1 : rspF n body ++ m = headR n body.length ++ (body ++ m) := by
      unfold rspF
      rw [if_neg h, List.append_assoc]
    rw [h1] at he
    obtain ⟨k, rfl, k1, k2, k3, k4⟩ := head_parts h body.length (body ++ m)
    obtain ⟨k', rfl, k1', k2', k3', k4'⟩ := head_parts h' body'.length body'
    rw [he, k2'] at k2
    have hk := dec_inj k2
    subst hk
    obtain ⟨i1, i2⟩ := head_idx h body.length (body ++ m)
    obtain ⟨i1', i2'⟩ := head_idx h' body'.length body'
    rw [he, i1'] at i1
    have hl : (headR (k' : Int) body.length).length = (headR (k' : Int) body'.length).length := by omega
    have hh := List.append_inj he hl
    have hb := hh.2
    have hd : Lib.decDigits body.length = Lib.decDigits body'.length := by
      have h5 := hh.1
      unfold headR at h5
      have h6 := List.append_cancel_left h5
      have h7 := List.append_cancel_left h6
      have h8 := List.append_cancel_left h7
      have h9 := List.append_cancel_left h8
      have h10 := List.append_cancel_right h9
      have h11 := List.append_cancel_left h10
      rwa [Lib.itoa_nonneg, Lib.itoa_nonneg] at h11
    have := dec_inj hd
    have h3 := congrArg List.length hb
    rw [List.length_append] at h3
    have := List.length_pos_iff.2 hm
    omega
theorem read_back {n : Int} {body : Bs} (h : reaF n ≠ []) : readP (rspF n body) = some (n, body) := by
  rw [readP_iff]
  refine ⟨h, ?_⟩
  unfold rspF
  rw [if_neg h]
end Go.Proofs.YtomancadpdccaaaGreatDoor.Ht

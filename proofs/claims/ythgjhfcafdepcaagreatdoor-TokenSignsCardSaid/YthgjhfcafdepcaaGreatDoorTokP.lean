/-
  Tokens, the plain law: what was signed is read as it was; the document reads the same.
-/
import Derived.Test.YthgjhfcafdepcaaGreatDoorTokI
import Derived.Test.YthgjhfcafdepcaaGreatDoorNumZ
namespace Go.Proofs.YthgjhfcafdepcaaGreatDoor.Tk
open Go.RowKit Go.Proofs.YthgjhfcafdepcaaGreatDoor.B Go.Proofs.YthgjhfcafdepcaaGreatDoor.S10
open Go.Proofs.YthgjhfcafdepcaaGreatDoor.M
open Go.Proofs.YthgjhfcafdepcaaGreatDoor.Sh (macF macF_len RdB)
open Go.Proofs.YthgjhfcafdepcaaGreatDoor.S01 (hexF unhexF)
set_option linter.unusedVariables false
set_option linter.unusedSimpArgs false

theorem ba_get (s : Bs) (j : Nat) : (ba s).data[j]! = s.getD j 0 := by
  show s.toArray[j]! = _
  rw [List.getElem!_toArray, List.getD_eq_getElem?_getD]
  simp [List.getElem!_eq_getElem?_getD]
  rfl
theorem last_at (h x : Bs) (hx : (47 : UInt8) ∉ x) : lastS (h ++ 47 :: x) = h.length := by
  unfold lastS
  have hs : (ba (h ++ 47 :: x)).size = h.length + (1 + x.length) := by rw [sz]; simp; omega
  rcases Lib.lastIndexByte_spec (ba (h ++ 47 :: x)) 47 with ⟨e, hn⟩ | ⟨i, hi, e, hc, hn⟩
  · exfalso
    have := hn h.length (by omega)
    rw [ba_get] at this
    simp [List.getD_eq_getElem?_getD] at this
  · rw [e]
    rw [ba_get] at hc
    by_cases h1 : i < h.length
    · exfalso
      have := hn h.length h1 (by omega)
      rw [ba_get] at this
      simp [List.getD_eq_getElem?_getD] at this
    · by_cases h2 : i = h.length
      · rw [h2]
      · exfalso
        have hg : (h ++ 47 :: x).getD i 0 = x.getD (i - h.length - 1) 0 := by
          rw [List.getD_eq_getElem?_getD, List.getD_eq_getElem?_getD, List.getElem?_append_right (by omega)]
          obtain ⟨k, hk⟩ : ∃ k, i - h.length = k + 1 := ⟨i - h.length - 1, by omega⟩
          rw [hk, List.getElem?_cons_succ]
          congr 2
        rw [hg] at hc
        have hlt : i - h.length - 1 < x.length := by omega
        rw [List.getD_eq_getElem?_getD, List.getElem?_eq_getElem hlt] at hc
        have hc' : (x[i - h.length - 1].toNat : Int) = 47 := by simpa using hc
        have he : x[i - h.length - 1] = 47 := UInt8.toNat_inj.1 (by show x[i - h.length - 1].toNat = 47; omega)
        exact hx (he ▸ List.getElem_mem hlt)
theorem head_at (h x : Bs) (hx : (47 : UInt8) ∉ x) : headT (h ++ 47 :: x) = h ∧ tailT (h ++ 47 :: x) = x := by
  unfold headT tailT
  rw [last_at h x hx]
  constructor
  · rw [Int.toNat_natCast, List.take_append_of_le_length (Nat.le_refl _), List.take_length]
  · rw [Int.toNat_natCast, List.drop_append]
    simp
theorem dec_not (c : UInt8) (hc : Lib.digitVal c = none) : ∀ (l : Bs) (a n : Nat), Lib.decFrom a l = some n → c ∉ l
  | [], _, _, _ => by simp
  | b :: l, a, n, h => by
    simp only [Lib.decFrom] at h
    cases hd : Lib.digitVal b with
    | none => rw [hd] at h; cases h
    | some d =>
      rw [hd] at h
      have := dec_not c hc l _ n h
      simp only [List.mem_cons, not_or]
      exact ⟨fun e => (by rw [e, hd] at hc; cases hc), this⟩
theorem itoa_not {x : Int} (h0 : 0 ≤ x) : (47 : UInt8) ∉ decF x := by
  obtain ⟨n, rfl⟩ := Int.eq_ofNat_of_zero_le h0
  unfold decF
  rw [Lib.itoa_nonneg]
  exact dec_not 47 (by decide) _ 0 n (Nu.decFrom_digits n n (Nat.le_refl _))
theorem hex_not (l : Bs) : (47 : UInt8) ∉ hexF l := by
  intro h
  unfold hexF at h
  rw [List.mem_flatMap] at h
  obtain ⟨b, _, h2⟩ := h
  have key : ∀ d : Fin 16, S01.sgn d.val ≠ 47 := by decide
  have hb := b.toNat_lt
  simp only [S01.hexB, List.mem_cons, List.not_mem_nil, or_false] at h2
  rcases h2 with h2 | h2
  · exact key ⟨b.toNat / 16, by omega⟩ h2.symm
  · exact key ⟨b.toNat % 16, by omega⟩ h2.symm
theorem who_parts {c : Cl} (h : (whoF c).isEmpty = false) : nameB (ba c.k) = true ∧ idB (ba c.i) = true ∧ whoF c = c.k ++ 58 :: c.i := by
  unfold whoF showO at *
  by_cases hb : (nameB (ba c.k) && idB (ba c.i)) = true
  · rw [if_pos hb]
    rw [Bool.and_eq_true] at hb
    refine ⟨hb.1, hb.2, ?_⟩
    have := ba_three c.k [58] c.i
    show (ba c.k ++ ba [58] ++ ba c.i).data.toList = _
    rw [this]
    simp
  · rw [if_neg hb] at h
    simp at h
structure Okc (c : Cl) : Prop where
  tn : nameB (ba c.tn) = true
  k : nameB (ba c.k) = true
  i : idB (ba c.i) = true
  key : nameB (ba c.key) = true
  who : whoF c = c.k ++ 58 :: c.i
  e0 : 0 ≤ c.ex
  e1 : c.ex ≤ 1000000000000000
theorem okc {c : Cl} (h : okC c = true) : Okc c := by
  unfold okC at h
  simp only [Bool.and_eq_true, decide_eq_true_eq, Bool.not_eq_true'] at h
  obtain ⟨⟨⟨⟨h1, h2⟩, h3⟩, h4⟩, h5⟩ := h
  obtain ⟨a, b, d⟩ := who_parts h1
  exact ⟨h2, a, b, h3, d, h4, h5⟩
theorem text_ok {c : Cl} (h : textF c ≠ []) : okC c = true := by
  unfold textF at h
  split at h
  · assumption
  · exact absurd rfl h
theorem text_is {c : Cl} (h : okC c = true) : textF c = joi 47 (partsT c) := by unfold textF; rw [if_pos h]
theorem ba_mem {q : Bs} {c : UInt8} (h : c ∉ L (ba q)) : c ∉ q := h
theorem text_spl {c : Cl} (h : okC c = true) : spl 47 (textF c) = partsT c := by
  have o := okc h
  rw [text_is h]
  have h1 : (47 : UInt8) ∉ ([118, 49] : Bs) := by decide
  have h2 : (47 : UInt8) ∉ c.tn := ba_mem (name_not o.tn (by decide))
  have h3 : (47 : UInt8) ∉ whoF c := by
    rw [o.who]
    have a := ba_mem (name_not o.k (c := 47) (by decide))
    have b := ba_mem (id_not o.i (c := 47) (by decide))
    simp only [List.mem_append, List.mem_cons, not_or]
    exact ⟨a, by decide, b⟩
  have h4 : (47 : UInt8) ∉ c.key := ba_mem (name_not o.key (by decide))
  have h5 := itoa_not o.e0
  unfold partsT joi joi joi joi joi
  rw [spl_app 47 _ _ h1, spl_app 47 _ _ h2, spl_app 47 _ _ h3, spl_app 47 _ _ h4, spl_none 47 _ h5]
theorem num_dec {x : Int} (h0 : 0 ≤ x) (h1 : x ≤ 1000000000000000) : Nu.parseF (decF x) = some x.toNat := by
  obtain ⟨n, rfl⟩ := Int.eq_ofNat_of_zero_le h0
  exact Nu.parse_show (by omega)
theorem clF_parts {c : Cl} (h : okC c = true) : clF (partsT c) = c := by
  have o := okc h
  have hob : objF (ba (whoF c)) = (ba c.k, ba c.i, true) := by
    rw [o.who]
    have := obj_make o.k o.i
    rw [show ba (c.k ++ 58 :: c.i) = ba c.k ++ ba [58] ++ ba c.i from (ba_three c.k [58] c.i).symm]
    exact this
  have hnum : numA (decF c.ex) = c.ex := by
    unfold numA
    rw [num_dec o.e0 o.e1]
    show ((c.ex.toNat : Nat) : Int) = _
    have := o.e0
    omega
  show (⟨c.tn, objA (whoF c), objB (whoF c), c.key, numA (decF c.ex)⟩ : Cl) = c
  rw [hnum]
  unfold objA objB
  rw [hob]
theorem claim_text {c : Cl} (h : okC c = true) : claimC (textF c) = c ∧ claimB (textF c) = true := by
  have hs := text_spl h
  have hl : (partsT c).length = 5 := rfl
  unfold claimC claimB
  rw [hs, if_pos hl, if_pos hl, clF_parts h]
  exact ⟨rfl, by simp⟩
/-- what was signed is read as it was. -/
theorem read_sign {l : Bs} {c : Cl} (h0 : -9223372036854775808 ≤ c.ex) (h1 : c.ex ≤ 9223372036854775807) (h : textF c ≠ []) : signF l c = textF c ++ 47 :: hexF (macF l (textF c)) ∧ readP (signF l c) = some (c, textF c, macF l (textF c)) := by
  have hs : signF l c = textF c ++ 47 :: hexF (macF l (textF c)) := by
    unfold signF
    rw [if_neg (by simpa using h)]
  refine ⟨hs, ?_⟩
  rw [hs]
  obtain ⟨a, b⟩ := head_at (textF c) (hexF (macF l (textF c))) (hex_not _)
  have hlen := textF_len c h0 h1
  obtain ⟨hc, hb⟩ := claim_text (text_ok h)
  unfold readP
  rw [if_neg, a, b]
  · unfold readR
    rw [Nu.unhex_hex]
    show (if claimB (textF c) = true ∧ (macF l (textF c)).length = 32 then some (claimC (textF c), textF c, macF l (textF c)) else none) = _
    rw [if_pos ⟨hb, macF_len _ _⟩, hc]
  · rw [last_at _ _ (hex_not _), List.length_append, List.length_cons, S01.hexF_len, macF_len]
    omega
/-! ### what hexadecimal text is read, is told so again -/
theorem half_back : ∀ c : Fin 256, ∀ d : Fin 16, S01.halfF ((c.val : Nat) : Int) = some ((d.val : Nat) : Int) → S01.sgn d.val = UInt8.ofNat c.val := by decide +kernel
theorem half_back' {c : UInt8} {a : Int} (h : S01.halfF (c.toNat : Int) = some a) : S01.sgn a.toNat = c ∧ 0 ≤ a ∧ a ≤ 15 := by
  obtain ⟨h0, h1⟩ := S01.halfF_range h
  have := half_back ⟨c.toNat, c.toNat_lt⟩ ⟨a.toNat, by omega⟩ (by rw [h]; congr 1; show a = ((a.toNat : Nat) : Int); omega)
  exact ⟨by rw [this]; simp, h0, h1⟩
theorem pair_back {l : Bs} {k : Nat} {x : UInt8} (h : S01.pairB l k = some x) : S01.hexB x = [l.getD (2 * k) 0, l.getD (2 * k + 1) 0] := by
  unfold S01.pairB at h
  cases h1 : S01.halfF (S01.by' l (2 * k)) with
  | none => rw [h1] at h; cases h
  | some a =>
    cases h2 : S01.halfF (S01.by' l (2 * k + 1)) with
    | none => rw [h1, h2] at h; cases h
    | some b =>
      rw [h1, h2] at h
      simp only [Option.some.injEq] at h
      obtain ⟨e1, a0, a1⟩ := half_back' h1
      obtain ⟨e2, b0, b1⟩ := half_back' h2
      have hx : (x.toNat : Int) = 16 * a + b := by rw [← h]; exact S01.toB_nat (by omega) (by omega)
      unfold S01.hexB
      rw [show x.toNat / 16 = a.toNat by omega, show x.toNat % 16 = b.toNat by omega, e1, e2]
theorem hex_snoc (a : Bs) (x : UInt8) : hexF (a ++ [x]) = hexF a ++ S01.hexB x := by
  unfold hexF
  simp [List.flatMap_append]
theorem hex_pre (l : Bs) : ∀ k, 2 * k ≤ l.length → (∀ i, i < k → (S01.pairB l i).isSome = true) → hexF (S01.preB l k) = l.take (2 * k)
  | 0, _, _ => by simp [S01.preB, hexF]
  | k + 1, hk, h => by
    obtain ⟨x, hx⟩ := Option.isSome_iff_exists.1 (h k (by omega))
    rw [S01.preB_succ l k x hx, hex_snoc, hex_pre l k (by omega) (fun i hi => h i (by omega)), pair_back hx]
    rw [show 2 * (k + 1) = 2 * k + 1 + 1 by omega, List.take_add_one, List.take_add_one, List.getElem?_eq_getElem (by omega : 2 * k < l.length), List.getElem?_eq_getElem (by omega : 2 * k + 1 < l.length), List.append_assoc]
    simp [List.getD_eq_getElem?_getD, List.getElem?_eq_getElem (by omega : 2 * k < l.length), List.getElem?_eq_getElem (by omega : 2 * k + 1 < l.length)]
theorem hex_unhex {l g : Bs} (h : unhexF l = some g) : hexF g = l := by
  unfold unhexF at h
  split at h
  · rename_i hc
    simp only [Option.some.injEq] at h
    rw [← h, hex_pre l (l.length / 2) (by omega) hc.2, List.take_of_length_le (by omega)]
  · cases h
/-! ### the document reads the same -/
theorem text_head {h : Bs} (hb : claimB h = true) : (spl 47 h).length = 5 ∧ textF (clF (spl 47 h)) = h ∧ claimC h = clF (spl 47 h) ∧ h ≠ [] := by
  unfold claimB at hb
  by_cases h5 : (spl 47 h).length = 5
  · rw [if_pos h5] at hb
    refine ⟨h5, by simpa using hb, by unfold claimC; rw [if_pos h5], ?_⟩
    rintro rfl
    simp [spl] at h5
  · rw [if_neg h5] at hb; cases hb
theorem last_split {s : Bs} (h : ¬ lastS s < 0) : s = headT s ++ 47 :: tailT s ∧ (47 : UInt8) ∉ tailT s := by
  unfold headT tailT
  have hs : (ba s).size = s.length := sz s
  rcases Lib.lastIndexByte_spec (ba s) 47 with ⟨e, _⟩ | ⟨i, hi, e, hc, hn⟩
  · exfalso
    exact h (by unfold lastS; rw [e]; omega)
  · have e' : lastS s = i := e
    rw [e', Int.toNat_natCast]
    rw [ba_get] at hc
    have hlt : i < s.length := by omega
    have h47 : s[i] = 47 := by
      rw [List.getD_eq_getElem?_getD, List.getElem?_eq_getElem hlt] at hc
      have hc' : (s[i].toNat : Int) = 47 := hc
      exact UInt8.toNat_inj.1 (by show s[i].toNat = 47; omega)
    constructor
    · rw [← h47, List.getElem_cons_drop, List.take_append_drop]
    · intro hm
      obtain ⟨j, hj, hjc⟩ := List.mem_iff_getElem.1 hm
      rw [List.length_drop] at hj
      rw [List.getElem_drop] at hjc
      have := hn (i + 1 + j) (by omega) (by omega)
      rw [ba_get, List.getD_eq_getElem?_getD, List.getElem?_eq_getElem (by omega), Option.getD_some, hjc] at this
      exact this rfl
theorem clF_take {l : List Bs} {x : Bs} (h : l.length = 5) : clF (l ++ [x]) = clF l ∧ (l ++ [x]).getD 5 [] = x ∧ (l ++ [x]).getD 2 [] = l.getD 2 [] ∧ (l ++ [x]).getD 4 [] = l.getD 4 [] := by
  match l, h with
  | [a, b, c, d, e], _ => exact ⟨rfl, rfl, rfl, rfl⟩
/-- of what is a text, all parts are as they may be. -/
theorem parts_ok {l : List Bs} (h5 : l.length = 5) (hs : spl 47 (textF (clF l)) = l) : textF (clF l) ≠ [] → (objF (ba (l.getD 2 []))).2.2 = true ∧ (Nu.parseF (l.getD 4 [])).isSome = true := by
  intro hne
  have hok := text_ok hne
  have o := okc hok
  rw [text_spl hok] at hs
  have e2 : l.getD 2 [] = whoF (clF l) := by
    conv => lhs; rw [← hs]
    rfl
  have e4 : l.getD 4 [] = decF (clF l).ex := by
    conv => lhs; rw [← hs]
    rfl
  rw [e2, e4]
  constructor
  · rw [o.who]
    have := obj_make o.k o.i
    rw [show ba ((clF l).k ++ 58 :: (clF l).i) = ba (clF l).k ++ ba [58] ++ ba (clF l).i from (ba_three (clF l).k [58] (clF l).i).symm]
    rw [this]
  · rw [num_dec o.e0 o.e1]
    rfl
theorem read_same (s : Bs) : readP s = readD s := by
  apply Option.ext
  rintro ⟨c, t, g⟩
  constructor
  · intro h
    have hl := (readP_len h).2.1
    unfold readP at h
    split at h
    · cases h
    · rename_i hn
      obtain ⟨hs, hx⟩ := last_split (s := s) (fun h => hn (.inl h))
      generalize headT s = hd at *
      generalize tailT s = x at *
      unfold readR at h
      cases hu : unhexF x with
      | none => rw [hu] at h; cases h
      | some g' =>
        rw [hu] at h
        simp only at h
        split at h
        · rename_i hc
          simp only [Option.mem_def, Option.some.injEq, Prod.mk.injEq] at h
          obtain ⟨rfl, rfl, rfl⟩ := h
          obtain ⟨h5, ht, hcl, hne⟩ := text_head hc.1
          have hsp : spl 47 s = spl 47 hd ++ [x] := by rw [hs, spl_snoc, spl_none 47 x hx]
          obtain ⟨k1, k2, k3, k4⟩ := clF_take (x := x) h5
          have hne' : textF (clF (spl 47 hd)) ≠ [] := by rw [ht]; exact hne
          obtain ⟨p1, p2⟩ := parts_ok h5 (by rw [ht]) hne'
          show readD s = _
          unfold readD
          rw [hsp, if_neg (by rw [List.length_append, h5]; simp; omega), k1, k2, k3, k4, hu]
          simp only
          rw [if_pos ⟨p1, p2, hc.2, hne', by rw [ht, ← hs]⟩, hcl, ht]
        · cases h
  · intro h
    unfold readD at h
    split at h
    · cases h
    · rename_i hn
      have h6 : (spl 47 s).length = 6 := by
        by_cases e : (spl 47 s).length = 6
        · exact e
        · exact absurd (Or.inr e) hn
      have hl : s.length ≤ 512 := by omega
      obtain ⟨l, x, hlx⟩ : ∃ l x, spl 47 s = l ++ [x] ∧ l.length = 5 := by
        refine ⟨(spl 47 s).take 5, (spl 47 s).getD 5 [], ?_, by rw [List.length_take]; omega⟩
        conv => lhs; rw [← List.take_append_drop 5 (spl 47 s)]
        rw [List.drop_eq_getElem_cons (by omega : 5 < (spl 47 s).length), List.drop_eq_nil_of_le (by omega)]
        simp [List.getD_eq_getElem?_getD, h6]
      obtain ⟨hsp, h5⟩ := hlx
      obtain ⟨k1, k2, k3, k4⟩ := clF_take (x := x) h5
      rw [hsp, k1, k2, k3, k4] at h
      cases hu : unhexF x with
      | none => rw [hu] at h; cases h
      | some g' =>
        rw [hu] at h
        simp only at h
        split at h
        · rename_i hc
          simp only [Option.mem_def, Option.some.injEq, Prod.mk.injEq] at h
          obtain ⟨rfl, rfl, rfl⟩ := h
          obtain ⟨p1, p2, h32, hne, hs⟩ := hc
          have hx : (47 : UInt8) ∉ x := spl_not 47 s x (by rw [hsp]; simp)
          obtain ⟨a, b⟩ := head_at (textF (clF l)) x hx
          rw [hs] at a b
          have hspt : spl 47 (textF (clF l)) = l := by
            have := spl_snoc 47 (textF (clF l)) x
            rw [hs, hsp, spl_none 47 x hx] at this
            exact (List.append_inj_left' this rfl).symm
          have hcb : claimB (textF (clF l)) = true ∧ claimC (textF (clF l)) = clF l := by
            unfold claimB claimC
            rw [hspt, if_pos h5, if_pos h5]
            exact ⟨by simp, rfl⟩
          show readP s = _
          unfold readP
          rw [if_neg, a, b]
          · unfold readR
            rw [hu]
            simp only
            rw [if_pos ⟨hcb.1, h32⟩, hcb.2]
          · have := last_at (textF (clF l)) x hx
            rw [hs] at this
            rw [this]; omega
        · cases h
end Go.Proofs.YthgjhfcafdepcaaGreatDoor.Tk

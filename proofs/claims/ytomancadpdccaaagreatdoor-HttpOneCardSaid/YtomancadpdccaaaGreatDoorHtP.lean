/-
  HTTP, plain: lines, heads, requests.
-/
import Derived.Test.YtomancadpdccaaaGreatDoorBase
import Derived.Lib.CountLaws
import Derived.Lib.SplitLaws
import Derived.Lib.IndexMore
import Derived.Lib.SlTrimSet
import Derived.Lib.Case
namespace Go.Proofs.YtomancadpdccaaaGreatDoor.Ht
open Go.RowKit Go.Proofs.YtomancadpdccaaaGreatDoor.B
set_option linter.unusedVariables false
set_option linter.unusedSimpArgs false

abbrev Bs := List UInt8
/-! ### parts between a text -/
theorem spl_miss {s t : Bs} (h : Lib.index s t < 0) : Lib.split s t = [s] := by
  have h1 := Lib.index_ge s t
  have h2 : Lib.index s t = -1 := by omega
  unfold Lib.split
  rw [Lib.count_miss h2]
  rfl
theorem spl_hit {s t : Bs} {i : Nat} (ht : t ≠ []) (h : Lib.index s t = i) : Lib.split s t = s.take i :: Lib.split (s.drop (i + t.length)) t := by
  unfold Lib.split
  rw [Lib.count_hit ht h, Nat.add_comm 1, Lib.splitK, h]
  have : ((i : Int) == -1) = false := by rw [beq_eq_false_iff_ne]; omega
  rw [this]
  simp
theorem spl_ne (s t : Bs) (ht : t ≠ []) : Lib.split s t ≠ [] := by
  by_cases h : Lib.index s t < 0
  · rw [spl_miss h]; simp
  · rw [spl_hit ht (i := (Lib.index s t).toNat) (by omega)]; simp
theorem idx_room {s t : Bs} {i : Nat} (h : Lib.index s t = i) : i + t.length ≤ s.length := by
  have := Lib.index_room s t (by omega)
  omega
theorem idx_take {s t : Bs} {i : Nat} (h : Lib.index s t = i) : (s.drop i).take t.length = t := by
  rcases Lib.index_spec s t with ⟨h1, _⟩ | ⟨j, h1, h2, h3, h4⟩
  · omega
  · have hij : j = i := by omega
    subst hij
    have := Lib.occAt_iff_take s t j (idx_room h)
    rw [this] at h3
    simpa using h3
theorem idx_first {s t : Bs} {i j : Nat} (h : Lib.index s t = i) (hj : j < i) : (s.drop j).take t.length ≠ t := by
  rcases Lib.index_spec s t with ⟨h1, _⟩ | ⟨k, h1, h2, h3, h4⟩
  · omega
  · have hij : k = i := by omega
    subst hij
    have hr := idx_room h
    have h5 := h4 j hj
    rw [Lib.occAt_iff_take s t j (by omega)] at h5
    simpa using h5
theorem idx_is {s t : Bs} {i : Nat} (hr : i + t.length ≤ s.length) (h : (s.drop i).take t.length = t) (hf : ∀ j, j < i → (s.drop j).take t.length ≠ t) : Lib.index s t = i := by
  refine Lib.index_first (by omega) ?_ (fun j hj => ?_)
  · rw [Lib.occAt_iff_take s t i hr]
    simpa using h
  · rw [Lib.occAt_iff_take s t j (by omega)]
    simpa using hf j hj
theorem idx_none {s t : Bs} (hf : ∀ j, j + t.length ≤ s.length → (s.drop j).take t.length ≠ t) (ht : t ≠ []) : Lib.index s t = -1 := by
  refine Lib.index_none fun j hj => ?_
  cases h : Lib.occAt s t j
  · rfl
  · rcases Lib.occAt_room h with hr | hr
    · rw [Lib.occAt_iff_take s t j hr] at h
      exact absurd (by simpa using h) (hf j hr)
    · exact absurd hr ht
theorem idx_no {s t : Bs} (h : Lib.index s t < 0) {j : Nat} (hj : j + t.length ≤ s.length) : (s.drop j).take t.length ≠ t := by
  rcases Lib.index_spec s t with ⟨_, h2⟩ | ⟨k, h1, _⟩
  · have := h2 j (by omega)
    rw [Lib.occAt_iff_take s t j hj] at this
    simpa using this
  · omega
/-! ### bytes of a sort -/
def vis (c : UInt8) : Bool := decide (32 < c.toNat) && decide (c.toNat < 127)
def great (c : UInt8) : Bool := decide (65 ≤ c.toNat) && decide (c.toNat ≤ 90)
def named (c : UInt8) : Bool := (decide (97 ≤ c.toNat) && decide (c.toNat ≤ 122)) || great c || (decide (48 ≤ c.toNat) && decide (c.toNat ≤ 57)) || c == 45
def told (c : UInt8) : Bool := vis c || c == 32 || c == 9
abbrev low (l : Bs) : Bs := Lib.toLowerA l
abbrev trim (l : Bs) : Bs := Lib.trimS l [32, 9]
def crlf : Bs := [13, 10]
def crlf2 : Bs := [13, 10, 13, 10]
def version : Bs := [72, 84, 84, 80, 47, 49, 46, 49]
def post : Bs := [80, 79, 83, 84]
def bearer : Bs := [66, 101, 97, 114, 101, 114, 32]
def kSize : Bs := [99, 111, 110, 116, 101, 110, 116, 45, 108, 101, 110, 103, 116, 104]
def kAuth : Bs := [97, 117, 116, 104, 111, 114, 105, 122, 97, 116, 105, 111, 110]
def kChunk : Bs := [116, 114, 97, 110, 115, 102, 101, 114, 45, 101, 110, 99, 111, 100, 105, 110, 103]
/-! ### a line of the head -/
structure Hd where
  (name value : Bs)
  deriving DecidableEq
def hdF (s : Bs) : Option Hd :=
  if Lib.index s [58] < 1 then none else
    if (s.take (Lib.index s [58]).toNat).all named && (s.drop ((Lib.index s [58]).toNat + 1)).all told then some ⟨low (s.take (Lib.index s [58]).toNat), trim (s.drop ((Lib.index s [58]).toNat + 1))⟩ else none
def hdsF : List Bs → Option (List Hd)
  | [] => some []
  | s :: l => match hdF s with
    | none => none
    | some h => match hdsF l with
      | none => none
      | some r => some (h :: r)
def valsF (l : List Hd) (n : Bs) : List Bs := (l.filter fun h => h.name == n).map Hd.value
/-! ### the first line -/
def fstF (s : Bs) : Bs × Nat :=
  match Lib.split s [32] with
  | [a, b, c] => if (a.isEmpty || !a.all great) = true then ([], 400) else if (!Lib.hasPrefix b [47] || decide (100 < b.length) || !b.all vis) = true then ([], 400) else if (c != version) = true then ([], 505) else if (a != post) = true then ([], 405) else (b, 0)
  | _ => ([], 400)
/-! ### what is said of the body -/
def frF (pf : Bs → Option Nat) (l : List Hd) (n : Nat) : Nat :=
  if (decide (1 < (valsF l kSize).length) || decide (1 < (valsF l kAuth).length) || decide (0 < (valsF l kChunk).length)) = true then 400 else
    match valsF l kSize with
    | [] => 411
    | x :: _ => match pf x with
      | none => 400
      | some m => if 8192 < m then 413 else if m = n then 0 else 400
def beF (l : List Bs) : Bs × Nat :=
  match l with
  | [] => ([], 0)
  | v :: _ => if (Lib.hasPrefix v bearer && !(v.drop 7).isEmpty && decide ((v.drop 7).length ≤ 512) && (v.drop 7).all vis) = true then (v.drop 7, 0) else ([], 400)
structure Rq where
  (path token body : Bs)
  deriving DecidableEq
def noR : Rq := ⟨[], [], []⟩
def linesF (pf : Bs → Option Nat) (ls : List Bs) (body : Bs) : Rq × Nat :=
  match ls with
  | [] => (noR, 400)
  | f :: l =>
    if (fstF f).2 ≠ 0 then (noR, (fstF f).2) else if 16 < l.length then (noR, 431) else
      match hdsF l with
      | none => (noR, 400)
      | some hs => if frF pf hs body.length ≠ 0 then (noR, frF pf hs body.length) else
        if (beF (valsF hs kAuth)).2 ≠ 0 then (noR, (beF (valsF hs kAuth)).2) else (⟨(fstF f).1, (beF (valsF hs kAuth)).1, body⟩, 0)
def headF (pf : Bs → Option Nat) (head body : Bs) : Rq × Nat := linesF pf (Lib.split head crlf) body
def parseB (pf : Bs → Option Nat) (b : Bs) : Rq × Nat :=
  if 16384 < b.length then (noR, 413) else
    if Lib.index b crlf2 < 0 then (noR, 400) else headF pf (b.take (Lib.index b crlf2).toNat) (b.drop ((Lib.index b crlf2).toNat + 4))
/-! ### one request -/
theorem parse_ok {pf : Bs → Option Nat} {b : Bs} {r : Rq} (h : parseB pf b = (r, 0)) : b.length ≤ 16384 ∧ ∃ i : Nat, Lib.index b crlf2 = i ∧ r.body = b.drop (i + 4) ∧ r.body.length ≤ 8192 ∧
    ∀ c, c.length ≠ r.body.length → (headF pf (b.take i) c).2 ≠ 0 := by
  unfold parseB at h
  split at h
  · cases h
  · split at h
    · cases h
    · rename_i h1 h2
      refine ⟨by omega, (Lib.index b crlf2).toNat, by omega, ?_⟩
      generalize (Lib.index b crlf2).toNat = i at *
      unfold headF at *
      generalize Lib.split (b.take i) crlf = ls at *
      unfold linesF at *
      cases ls with
      | nil => cases h
      | cons f l =>
        simp only at h ⊢
        split at h
        · rename_i hs
          simp only [Prod.mk.injEq] at h
          exact absurd h.2 hs
        · split at h
          · cases h
          · cases hh : hdsF l with
            | none => rw [hh] at h; cases h
            | some hs =>
              rw [hh] at h
              simp only at h ⊢
              split at h
              · rename_i h0
                simp only [Prod.mk.injEq] at h
                exact absurd h.2 h0
              · rename_i h0
                split at h
                · rename_i h9
                  simp only [Prod.mk.injEq] at h
                  exact absurd h.2 h9
                · simp only [Prod.mk.injEq, and_true] at h
                  subst h
                  simp only [ne_eq, Decidable.not_not] at h0
                  have hfr : ∀ n : Nat, frF pf hs n = 0 → ∃ x m t, valsF hs kSize = x :: t ∧ pf x = some m ∧ m ≤ 8192 ∧ m = n := by
                    intro n hn
                    unfold frF at hn
                    split at hn
                    · cases hn
                    · split at hn
                      · cases hn
                      · rename_i x t hx
                        split at hn
                        · cases hn
                        · rename_i m hm
                          split at hn
                          · cases hn
                          · split at hn
                            · rename_i h3 h4
                              exact ⟨x, m, t, hx, hm, by omega, h4⟩
                            · cases hn
                  obtain ⟨x, m, t, e1, e2, e3, e4⟩ := hfr _ h0
                  refine ⟨rfl, by show (b.drop (i + 4)).length ≤ 8192; omega, fun c hc => ?_⟩
                  have hc' : c.length ≠ (b.drop (i + 4)).length := hc
                  rename_i hA hB _
                  rw [if_neg hA, if_neg hB]
                  have h3 : frF pf hs c.length ≠ 0 := fun h0' => by
                    obtain ⟨x', m', t', f1, f2, f3, f4⟩ := hfr _ h0'
                    rw [e1] at f1
                    cases f1
                    rw [e2] at f2
                    cases f2
                    omega
                  rw [if_pos h3]
                  exact h3
theorem parse_more {pf : Bs → Option Nat} {b m : Bs} {r : Rq} (h : parseB pf b = (r, 0)) (hm : m ≠ []) : (parseB pf (b ++ m)).2 ≠ 0 := by
  obtain ⟨h1, i, h2, h3, -, h4⟩ := parse_ok h
  have hr := idx_room h2
  have hl : crlf2.length = 4 := rfl
  have hml : 0 < m.length := List.length_pos_iff.2 hm
  unfold parseB
  split
  · decide
  · have e : Lib.index (b ++ m) crlf2 = i := by
      have hd : ∀ j, j + 4 ≤ b.length → ((b ++ m).drop j).take 4 = (b.drop j).take 4 := fun j hj => by
        rw [List.drop_append_of_le_length (by omega), List.take_append_of_le_length (by rw [List.length_drop]; omega)]
      refine idx_is (by rw [List.length_append]; omega) ?_ (fun j hj => ?_)
      · rw [hl, hd i (by omega)]; exact idx_take h2
      · rw [hl, hd j (by omega)]; exact idx_first h2 hj
    rw [e, if_neg (by omega), Int.toNat_natCast]
    rw [List.take_append_of_le_length (by omega)]
    refine h4 _ ?_
    rw [h3, List.length_drop, List.length_drop, List.length_append]
    omega
theorem parse_less {pf : Bs → Option Nat} {b : Bs} {r : Rq} (h : parseB pf b = (r, 0)) : (parseB pf (b.take (b.length - 1))).2 ≠ 0 := by
  obtain ⟨h1, i, h2, h3, -, h4⟩ := parse_ok h
  have hr := idx_room h2
  have hl : crlf2.length = 4 := rfl
  unfold parseB
  split
  · decide
  · have hd : ∀ j, j + 4 ≤ b.length - 1 → ((b.take (b.length - 1)).drop j).take 4 = (b.drop j).take 4 := fun j hj => by
      rw [List.drop_take, List.take_take, Nat.min_eq_left (by omega)]
    by_cases hi : i + 4 ≤ b.length - 1
    · have e : Lib.index (b.take (b.length - 1)) crlf2 = i := by
        refine idx_is (by rw [List.length_take]; omega) ?_ (fun j hj => ?_)
        · rw [hl, hd i (by omega)]; exact idx_take h2
        · rw [hl, hd j (by omega)]; exact idx_first h2 hj
      rw [e, if_neg (by omega), Int.toNat_natCast, List.take_take, Nat.min_eq_left (by omega)]
      refine h4 _ ?_
      rw [h3, List.length_drop, List.length_drop, List.length_take]
      omega
    · have e : Lib.index (b.take (b.length - 1)) crlf2 = -1 := by
        refine idx_none (fun j hj => ?_) (by decide)
        rw [List.length_take] at hj
        rw [hl, hd j (by omega)]
        exact idx_first h2 (by omega)
      rw [e, if_pos (by decide)]
      decide
end Go.Proofs.YtomancadpdccaaaGreatDoor.Ht

/-
  HTTP, the document's: a line of the head.
-/
import Derived.Test.YtomancadpdccaaaGreatDoorHtG
import Derived.Lib.ConvBytes
import Derived.Lib.BufferMore
namespace Go.Proofs.YtomancadpdccaaaGreatDoor.Ht
open Go.RowKit Go.Proofs.YtomancadpdccaaaGreatDoor.B
open Go.Proofs.YtomancadpdccaaaGreatDoor.M hiding Bs
open Go.Proofs.YtomancadpdccaaaGreatDoor.C (QRow Turn)
set_option linter.unusedVariables false
set_option linter.unusedSimpArgs false

/-- a text's bytes, laid down by a conversion. -/
def CRow (w : World) (g : Nat) (l : Bs) : Prop := ∃ arr, w.heap[g]? = some (.cells arr 5 (arr.size, arr.size + 1)) ∧ l.length ≤ arr.size ∧ ∀ (i : Nat) (x : UInt8), l[i]? = some x → arr[i]? = some (ub x)
theorem CRow.lt {w : World} {g : Nat} {l : Bs} (h : CRow w g l) : g < w.heap.size := let ⟨_, h1, _⟩ := h; (Array.getElem?_eq_some_iff.1 h1).1
theorem CRow.cell {w : World} {g : Nat} {l : Bs} (h : CRow w g l) {i : Nat} (hi : i < l.length) : w.cell? ⟨g, i, none⟩ = some (ub (l.getD i 0)) := by
  obtain ⟨arr, h1, h2, h3⟩ := h
  rw [cell_of_row w g i _ _ _ h1]
  exact h3 i _ (by rw [List.getD_eq_getElem?_getD, List.getElem?_eq_getElem hi]; rfl)
theorem CRow.frz {w : World} {g : Nat} {l : Bs} (h : CRow w g l) {i : Nat} (hi : i < l.length) : w.frozen? ⟨g, i, none⟩ = false := by
  obtain ⟨arr, h1, h2, h3⟩ := h
  unfold World.frozen?
  rw [h1]
  simp
  omega
theorem CRow.set {w : World} {g : Nat} {l : Bs} (h : CRow w g l) {i : Nat} (hi : i < l.length) (y : UInt8) : CRow (w.setCell ⟨g, i, none⟩ (ub y)) g (l.set i y) := by
  obtain ⟨arr, h1, h2, h3⟩ := h
  have h4 := Go.Lib.heap_setCell_same (i := i) h1 (ub y)
  refine ⟨arr.setIfInBounds i (ub y), ?_, by rw [List.length_set, Array.size_setIfInBounds]; exact h2, fun j x hj => ?_⟩
  · rw [Array.size_setIfInBounds]; exact h4
  · rw [List.getElem?_set] at hj
    rw [Array.getElem?_setIfInBounds]
    by_cases e : i = j
    · subst e
      rw [if_pos rfl, if_pos hi] at hj
      rw [if_pos rfl, if_pos (by omega)]
      rw [Option.some.inj hj]
    · rw [if_neg e] at hj
      rw [if_neg e]
      exact h3 j x hj
theorem CRow.below {w w' : World} {g : Nat} {l : Bs} (h : CRow w g l) (hb : Below w.heap.size w w') : CRow w' g l := by
  have hl := h.lt
  obtain ⟨arr, h1, h2⟩ := h
  exact ⟨arr, (hb.block _ hl).trans h1, h2⟩
theorem conv_row (w : World) (q : Bs) : ∃ c w', (convert 9 22 (vs q)).run Tryz.prog w = .ok (.slice (some ⟨w.heap.size, 0, none⟩) q.length c) w' ∧ q.length ≤ c ∧ CRow w' w.heap.size q ∧ Below w.heap.size w w' := by
  have hcv := Lib.run_convert_string_bytes (P := Tryz.prog) w 9 22 5 ⟨q.toArray⟩ Tryz.underlying9 Tryz.underlying22 Tryz.underlying5
  rw [sz] at hcv
  have hn := Lib.bytesWorld_at_new w 5 ⟨q.toArray⟩
  have hc := fun i (hi : i < q.length) => Lib.bytesWorld_cell w 5 ⟨q.toArray⟩ i (by rw [sz]; exact hi)
  refine ⟨_, _, hcv, grownCap_ge _ _ _ _, ⟨_, hn, ?_, fun i x hx => ?_⟩, ?_⟩
  · by_cases h0 : q.length = 0
    · omega
    · have h1 := hc (q.length - 1) (by omega)
      rw [cell_of_row _ _ _ _ _ _ hn] at h1
      have := (Array.getElem?_eq_some_iff.1 h1).1
      omega
  · have hi := (List.getElem?_eq_some_iff.1 hx).1
    have h1 := hc i hi
    rw [cell_of_row _ _ _ _ _ _ hn] at h1
    rw [h1]
    show some (Value.int .u8 ((q.getD i 0).toNat : Int)) = _
    rw [List.getD_eq_getElem?_getD, hx]
    rfl
  · exact ⟨rfl, rfl, rfl, by rw [Lib.bytesWorld_size]; omega, fun k hk => Lib.bytesWorld_at_old w _ _ k hk⟩
theorem CRow.bread {w : World} {g : Nat} {l : Bs} (h : CRow w g l) (hl : l.length ≤ 9223372036854775807) : Nu.BRead w (some ⟨g, 0, none⟩) l.length l := by
  refine ⟨rfl, by omega, fun hp => ⟨_, rfl, fun i hi => ?_⟩⟩
  rw [Addr.add_lit, Nat.zero_add, h.cell hi]
  rfl
/-! ### trimming -/
def sp (c : UInt8) : Bool := ([32, 9] : Bs).contains c
theorem sp_eq (c : UInt8) : sp c = (decide (c.toNat = 32) || decide (c.toNat = 9)) := by
  have := all256 (fun c => sp c == (decide (c.toNat = 32) || decide (c.toNat = 9))) (by decide +kernel) c
  simpa using this
theorem dropW_nil {p : UInt8 → Bool} : ∀ {l : Bs}, l.dropWhile p = [] → ∀ x ∈ l, p x = true
  | [], _, x, hx => by simp at hx
  | y :: l, h, x, hx => by
    rw [List.dropWhile_cons] at h
    split at h
    · rename_i hy
      rcases List.mem_cons.1 hx with rfl | hx
      · exact hy
      · exact dropW_nil h x hx
    · cases h
theorem trim_eq (s : Bs) : trim s = (s.reverse.dropWhile sp).reverse.dropWhile sp := by
  rfl
theorem dropW_all {p : UInt8 → Bool} : ∀ {l : Bs}, (∀ x ∈ l, p x = true) → l.dropWhile p = []
  | [], _ => rfl
  | x :: l, h => by
    rw [List.dropWhile_cons, if_pos (h x (by simp))]
    exact dropW_all (fun y hy => h y (by simp [hy]))
theorem trim_left (c : UInt8) (s : Bs) (h : sp c = true) : trim (c :: s) = trim s := by
  rw [trim_eq, trim_eq, List.reverse_cons]
  by_cases ha : ∀ x ∈ s, sp x = true
  · rw [dropW_all (l := s.reverse ++ [c]) (by
      intro x hx
      rcases List.mem_append.1 hx with hx | hx
      · exact ha x (List.mem_reverse.1 hx)
      · rw [List.mem_singleton.1 hx]; exact h), dropW_all (l := s.reverse) (fun x hx => ha x (List.mem_reverse.1 hx))]
  · have hne : s.reverse.dropWhile sp ≠ [] := by
      intro e
      apply ha
      intro x hx
      exact dropW_nil e x (List.mem_reverse.2 hx)
    rw [List.dropWhile_append, if_neg (by rw [List.isEmpty_iff]; exact hne), List.reverse_append]
    show (c :: (s.reverse.dropWhile sp).reverse).dropWhile sp = _
    rw [List.dropWhile_cons, if_pos h]
theorem trim_right (c : UInt8) (s : Bs) (h : sp c = true) : trim (s ++ [c]) = trim s := by
  rw [trim_eq, trim_eq, List.reverse_append]
  show ((c :: s.reverse).dropWhile sp).reverse.dropWhile sp = _
  rw [List.dropWhile_cons, if_pos h]
theorem trim_done (s : Bs) (h1 : ∀ c, s.head? = some c → sp c = false) (h2 : ∀ c, s.getLast? = some c → sp c = false) : trim s = s := by
  rw [trim_eq]
  have e1 : s.reverse.dropWhile sp = s.reverse := by
    cases hr : s.reverse with
    | nil => rfl
    | cons c t =>
      have : s.getLast? = some c := by rw [← List.head?_reverse, hr]; rfl
      rw [List.dropWhile_cons, h2 c this]
      simp
  rw [e1, List.reverse_reverse]
  cases s with
  | nil => rfl
  | cons c t =>
    rw [List.dropWhile_cons, h1 c rfl]
    simp
/-! ### the name's letters -/
def lowT (l : Bs) (i : Nat) : Bs := low (l.take i) ++ l.drop i
theorem lowT_0 (l : Bs) : lowT l 0 = l := rfl
theorem lowT_len (l : Bs) (i : Nat) : (lowT l i).length = l.length := by
  unfold lowT
  rw [List.length_append, low_length, List.length_take, List.length_drop]
  omega
theorem lowT_get (l : Bs) {i : Nat} (hi : i < l.length) : (lowT l i).getD i 0 = l.getD i 0 := by
  unfold lowT
  rw [List.getD_eq_getElem?_getD, List.getD_eq_getElem?_getD, List.getElem?_append_right (by rw [low_length, List.length_take]; omega), low_length, List.length_take, Nat.min_eq_left (by omega), Nat.sub_self, List.getElem?_drop, Nat.add_zero]
theorem lowT_set (l : Bs) {i : Nat} (hi : i < l.length) : (lowT l i).set i (lowB (l.getD i 0)) = lowT l (i + 1) := by
  unfold lowT
  have h1 : (low (l.take i)).length = i := by rw [low_length, List.length_take]; omega
  rw [List.set_append_right _ _ (by omega), h1, Nat.sub_self]
  rw [List.take_add_one, List.getElem?_eq_getElem hi, List.getD_eq_getElem?_getD, List.getElem?_eq_getElem hi]
  rw [show low (l.take i ++ (some l[i]).toList) = low (l.take i) ++ [lowB l[i]] from List.map_append]
  rw [List.append_assoc]
  congr 1
  rw [List.drop_eq_getElem_cons hi]
  rfl
theorem lowT_keep (l : Bs) {i : Nat} (hi : i < l.length) (h : lowB (l.getD i 0) = l.getD i 0) : lowT l i = lowT l (i + 1) := by
  rw [← lowT_set l hi, h, ← lowT_get l hi]
  apply List.ext_getElem?
  intro j
  rw [List.getElem?_set]
  by_cases e : i = j
  · subst e
    rw [if_pos rfl, if_pos (by rw [lowT_len]; exact hi), List.getD_eq_getElem?_getD, List.getElem?_eq_getElem (by rw [lowT_len]; exact hi)]
    rfl
  · rw [if_neg e]
theorem low_great (c : UInt8) : lowB c = if great c = true then c + 32 else c := by
  have := all256 (fun c => lowB c == if great c = true then c + 32 else c) (by decide +kernel) c
  simpa using this
theorem great_named (c : UInt8) (h : great c = true) : named c = true := by
  unfold named
  rw [h]
  simp
theorem named_rest (c : UInt8) (h : great c = false) : named c = ((decide (97 ≤ c.toNat) && decide (c.toNat ≤ 122)) || (decide (48 ≤ c.toNat) && decide (c.toNat ≤ 57)) || decide (c.toNat = 45)) := by
  unfold named
  rw [h, show (c == 45) = decide (c.toNat = 45) from eq_nat c 45 (by decide)]
  simp
theorem told_nat (c : UInt8) : told c = (decide (c.toNat = 32) || decide (c.toNat = 9) || (decide (33 ≤ c.toNat) && decide (c.toNat ≤ 126))) := by
  unfold told vis
  rw [show (c == 32) = decide (c.toNat = 32) from eq_nat c 32 (by decide), show (c == 9) = decide (c.toNat = 9) from eq_nat c 9 (by decide)]
  rw [show decide (32 < c.toNat) = decide (33 ≤ c.toNat) from decide_eq_decide.2 (by omega), show decide (c.toNat < 127) = decide (c.toNat ≤ 126) from decide_eq_decide.2 (by omega)]
  rw [Bool.or_assoc, Bool.or_comm]
theorem hd_short {s : Bs} (h : Lib.index s [58] < 1) : hdF s = none := by
  unfold hdF; rw [if_pos h]
theorem hd_at {s : Bs} {k : Nat} (h : Lib.index s [58] = k) (hk : 1 ≤ k) : hdF s = if ((s.take k).all named && (s.drop (k + 1)).all told) = true then some ⟨low (s.take k), trim (s.drop (k + 1))⟩ else none := by
  unfold hdF
  rw [h, if_neg (by omega), Int.toNat_natCast]
end Go.Proofs.YtomancadpdccaaaGreatDoor.Ht

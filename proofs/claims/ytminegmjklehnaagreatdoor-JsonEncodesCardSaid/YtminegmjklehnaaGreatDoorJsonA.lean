/-
  The reader of JSON: its block; fails, must, is, take, many, space, word.
-/
import Derived.Test.YtminegmjklehnaaGreatDoorMem
import Derived.Test.YtminegmjklehnaaGreatDoorJsonT
import Derived.Test.YtminegmjklehnaaGreatDoorShelf
import Derived.Lib.IndexAny
namespace Go.Proofs.YtminegmjklehnaaGreatDoor.J
open Go.RowKit Go.Proofs.YtminegmjklehnaaGreatDoor.B
open Go.Proofs.YtminegmjklehnaaGreatDoor.M hiding Bs
open Go.Proofs.YtminegmjklehnaaGreatDoor.C (QRow Turn)
set_option linter.unusedVariables false
set_option linter.unusedSimpArgs false

theorem At.refl (pb : Nat) (w : World) : At pb w w := Turn.refl _ _
theorem At.trans {pb : Nat} {a b c : World} (h : At pb a b) (h' : At pb b c) : At pb a c := Turn.trans h h' (fun _ h _ => h)
theorem At.below {pb : Nat} {a b c : World} (h : At pb a b) (h' : Below b.heap.size b c) : At pb a c := At.trans h (Turn.of_below h')
theorem At.drew {pb : Nat} {a b : World} (h : At pb a b) : At pb a b.drew := ⟨h.os, h.tape, h.output, h.size, h.block⟩
/-- the reader: what is left, and how deep it is. -/
structure RB (w : World) (rb : Nat) (L : Bs) (deep : Int) : Prop where
  heap : w.heap[rb]? = some (.cells #[vs L, .int .i64 deep] 47 (0, 0))
  len : L.length ≤ 1000000000
theorem RB.lt {w : World} {rb : Nat} {L : Bs} {deep : Int} (h : RB w rb L deep) : rb < w.heap.size := lt_of_heap h.heap
theorem RB.kept {w w' : World} {rb : Nat} {L : Bs} {deep : Int} (h : RB w rb L deep) (hb : w'.heap[rb]? = w.heap[rb]?) : RB w' rb L deep := ⟨hb.trans h.heap, h.len⟩
theorem RB.below {w w' : World} {rb : Nat} {L : Bs} {deep : Int} (h : RB w rb L deep) (hb : Below w.heap.size w w') : RB w' rb L deep := h.kept (hb.block _ h.lt)
theorem RB.set {w : World} {rb : Nat} {L : Bs} {deep : Int} (h : RB w rb L deep) (L' : Bs) (hl : L'.length ≤ L.length) : RB (w.setCell ⟨rb, 0, none⟩ (vs L')) rb L' deep :=
  ⟨heap_setCell_same w rb 0 _ _ _ h.heap, Nat.le_trans hl h.len⟩
theorem RB.setDeep {w : World} {rb : Nat} {L : Bs} {deep : Int} (h : RB w rb L deep) (d : Int) : RB (w.setCell ⟨rb, 1, none⟩ (.int .i64 d)) rb L d :=
  ⟨heap_setCell_same w rb 1 _ _ _ h.heap, h.len⟩
def erChain (d : Int) : List PanicEntry := [{ v := .iface 28 (.int .i64 d), recovered := false }]
/-- how a call on the reader ends, by the plain reading. -/
def Ends {α : Type} (rb : Nat) (deep : Int) (w : World) (V : World → α → Ending → Prop) (r : Except Int (α × Bs)) (e : Ending) (w' : World) : Prop :=
  At rb w w' ∧ match r with
  | .ok (a, L) => V w' a e ∧ RB w' rb L deep
  | .error d => e = .panicked (erChain d)
set_option maxRecDepth 100000 in
theorem fails_calls (d : Int) (w : World) : Calls Tryz.prog 47 #[.int .i64 d] w fun e w' => e = .panicked (erChain d) ∧ w' = w := by
  go_enter Tryz.func47, Tryz.ntmps47
  go_wp2
  exact ⟨rfl, rfl, rfl⟩
set_option maxRecDepth 100000 in
theorem must_true (w : World) : Calls Tryz.prog 30 #[.bool true] w fun e w' => e = .returned (.tuple #[]) ∧ w' = w := by
  go_enter Tryz.func30, Tryz.ntmps30
  go_wp2
  refine bodyPost_end (results_none rfl _ _ _) rfl ?_
  exact ⟨rfl, rfl⟩
set_option maxRecDepth 100000 in
theorem must_false (w : World) : Calls Tryz.prog 30 #[.bool false] w fun e w' => e = .panicked (erChain 3) ∧ w' = w := by
  go_enter Tryz.func30, Tryz.ntmps30
  go_wp2_with fail
  refine (fails_calls 3 w).mono ?_
  rintro e w2 ⟨rfl, rfl⟩
  exact ⟨rfl, rfl, rfl⟩
/-- is c among q? -/
theorem among_calls (q : Bs) (s : ByteArray) (hs : s = ⟨q.toArray⟩) (c : UInt8) (w : World) :
    Calls Tryz.prog 66 #[.string s, .int .u8 c.toNat] w fun e w' => (∃ k : Int, e = .returned (.int .i64 k) ∧ (q.contains c = true → 0 ≤ k) ∧ (q.contains c = false → k < 0)) ∧ w' = w := by
  subst hs
  refine (Tryz.strings_IndexByte ⟨q.toArray⟩ c.toNat w).mono ?_
  rintro e w' ⟨rfl, rfl⟩
  have hc : (c.toNat : Int).toNat.toUInt8 = c := by simp
  rw [hc]
  refine ⟨⟨_, rfl, fun h => ?_, fun h => ?_⟩, rfl⟩
  · rw [Lib.contains_iff_indexByte] at h; simpa using h
  · rw [Lib.contains_iff_indexByte] at h; simpa using h
def takeB (q : Bs) : Bs → Bool × Bs
  | [] => (false, [])
  | c :: L => if q.contains c then (true, L) else (false, c :: L)
theorem takeB_cons (q : Bs) (c : UInt8) (L : Bs) : takeB q (c :: L) = if q.contains c then (true, L) else (false, c :: L) := rfl
theorem takeB_len (q L : Bs) : (takeB q L).2.length ≤ L.length := by
  cases L with
  | nil => exact Nat.le_refl _
  | cons c L =>
    rw [takeB_cons]
    split <;> simp
set_option maxRecDepth 100000 in
theorem idx0 (c : UInt8) (L : Bs) (w : World) : (Instr.index 9 (vs (c :: L)) (.int .i64 0)).run Tryz.prog w = .ok (.int .u8 c.toNat) w := by
  have h := run_index_string w 9 (P := Tryz.prog) (⟨(c :: L).toArray⟩ : ByteArray) .i64 0 rfl
  rw [dif_pos ⟨by decide, by rw [sz]; simp⟩] at h
  exact h
set_option maxRecDepth 100000 in
set_option maxHeartbeats 1000000 in
theorem is_calls {w : World} {rb : Nat} {L : Bs} {deep : Int} (h : RB w rb L deep) (s : ByteArray) (q : Bs) (hs : s = ⟨q.toArray⟩) :
    Calls Tryz.prog 41 #[.pointer (some ⟨rb, 0, none⟩), .string s] w fun e w' => e = .returned (.bool (takeB q L).1) ∧ w' = w := by
  subst hs
  obtain ⟨g0, g1, f0, f1⟩ := two_of h.heap
  cases L with
  | nil =>
    clear h
    go_enter Tryz.func41, Tryz.ntmps41
    go_wp2
    go_ret
    exact ⟨rfl, rfl⟩
  | cons c L =>
    have hsz := sz (c :: L)
    have hix := idx0 c L
    have HC := Lib.hid (fun w => among_calls q ⟨q.toArray⟩ rfl c w)
    rw [takeB_cons]
    clear h
    cases hq : q.contains c with
    | true =>
      have HQ := Lib.hid hq
      clear hq
      go_enter Tryz.func41, Tryz.ntmps41
      go_wp2_with fail
      refine (HC.out _).mono ?_
      rintro e w1 ⟨⟨k, rfl, h1, h2⟩, rfl⟩
      have hk : decide (0 ≤ k) = true := decide_eq_true (h1 HQ.out)
      clear h1 h2
      go_wp2
      go_ret
      exact ⟨rfl, rfl⟩
    | false =>
      have HQ := Lib.hid hq
      clear hq
      go_enter Tryz.func41, Tryz.ntmps41
      go_wp2_with fail
      refine (HC.out _).mono ?_
      rintro e w1 ⟨⟨k, rfl, h1, h2⟩, rfl⟩
      have hk : decide (0 ≤ k) = false := decide_eq_false (by have := h2 HQ.out; omega)
      clear h1 h2
      go_wp2
      go_ret
      exact ⟨rfl, rfl⟩
set_option maxRecDepth 100000 in
set_option maxHeartbeats 1000000 in
theorem take_calls {w : World} {rb : Nat} {L : Bs} {deep : Int} (h : RB w rb L deep) (s : ByteArray) (q : Bs) (hs : s = ⟨q.toArray⟩) :
    Calls Tryz.prog 68 #[.pointer (some ⟨rb, 0, none⟩), .string s] w fun e w' => e = .returned (.bool (takeB q L).1) ∧ RB w' rb (takeB q L).2 deep ∧ At rb w w' := by
  subst hs
  have HI := Lib.hid (is_calls h ⟨q.toArray⟩ q rfl)
  have HR := Lib.hid h
  cases L with
  | nil =>
    have hI := HI.out
    go_enter Tryz.func68, Tryz.ntmps68
    go_wp2_with fail
    refine hI.mono ?_
    rintro e w1 ⟨rfl, rfl⟩
    clear hI h
    go_wp2
    go_ret
    exact ⟨rfl, HR.out, At.refl _ _⟩
  | cons c L =>
    obtain ⟨g0, g1, f0, f1⟩ := two_of h.heap
    have hsz := sz (c :: L)
    have HED := Lib.hid (show (⟨(c :: L).toArray⟩ : ByteArray).extract 1 (L.length + 1) = ⟨L.toArray⟩ from ext_drop (c :: L) 1 _ rfl)
    have HS := Lib.hid (h.set L (by simp))
    have HA := Lib.hid (at_set w rb 0 (vs L))
    rw [takeB_cons] at HI ⊢
    have hlen : (c :: L).length = L.length + 1 := rfl
    cases hq : q.contains c with
    | true =>
      rw [hq] at HI
      clear hq h
      go_enter Tryz.func68, Tryz.ntmps68
      go_wp2_with fail
      refine HI.out.mono ?_
      rintro e w1 ⟨rfl, rfl⟩
      go_wp2
      go_ret
      rw [HED.out]
      exact ⟨rfl, HS.out, HA.out⟩
    | false =>
      rw [hq] at HI
      clear hq h
      go_enter Tryz.func68, Tryz.ntmps68
      go_wp2_with fail
      refine HI.out.mono ?_
      rintro e w1 ⟨rfl, rfl⟩
      go_wp2
      go_ret
      exact ⟨rfl, HR.out, At.refl _ _⟩
theorem tw_at (p : UInt8 → Bool) : ∀ (L : Bs) (k : Nat), k < (L.takeWhile p).length → ∃ c, L[k]? = some c ∧ p c = true
  | [], k, h => by simp at h
  | c :: L, k, h => by
    rw [List.takeWhile_cons] at h
    cases hp : p c with
    | false => rw [hp] at h; simp at h
    | true =>
      rw [hp] at h
      cases k with
      | zero => exact ⟨c, rfl, hp⟩
      | succ k =>
        obtain ⟨d, h1, h2⟩ := tw_at p L k (by simpa using h)
        exact ⟨d, by simpa using h1, h2⟩
theorem tw_end (p : UInt8 → Bool) : ∀ (L : Bs), (L.takeWhile p).length < L.length → ∃ c, L[(L.takeWhile p).length]? = some c ∧ p c = false
  | [], h => by simp at h
  | c :: L, h => by
    rw [List.takeWhile_cons] at h ⊢
    cases hp : p c with
    | false => exact ⟨c, rfl, hp⟩
    | true =>
      rw [hp] at h
      obtain ⟨d, h1, h2⟩ := tw_end p L (by simpa using h)
      exact ⟨d, by simpa using h1, h2⟩
theorem tw_le (p : UInt8 → Bool) (L : Bs) : (L.takeWhile p).length ≤ L.length := List.Sublist.length_le (List.takeWhile_sublist _)
theorem tw_take (p : UInt8 → Bool) (L : Bs) : L.take (L.takeWhile p).length = L.takeWhile p ∧ L.drop (L.takeWhile p).length = L.dropWhile p := by
  have h := List.takeWhile_append_dropWhile (p := p) (l := L)
  have h1 : (L.takeWhile p ++ L.dropWhile p).take (L.takeWhile p).length = L.takeWhile p := List.take_left
  have h2 : (L.takeWhile p ++ L.dropWhile p).drop (L.takeWhile p).length = L.dropWhile p := List.drop_left
  rw [h] at h1 h2
  exact ⟨h1, h2⟩
set_option maxRecDepth 100000 in
theorem idxk {L : Bs} {k : Nat} {c : UInt8} (h : L[k]? = some c) (w : World) : (Instr.index 9 (vs L) (.int .i64 k)).run Tryz.prog w = .ok (.int .u8 c.toNat) w := by
  have hk : k < L.length := (List.getElem?_eq_some_iff.1 h).1
  have h1 := run_index_string w 9 (P := Tryz.prog) (⟨L.toArray⟩ : ByteArray) .i64 k rfl
  rw [dif_pos ⟨by omega, by rw [sz]; omega⟩] at h1
  rw [h1]
  have e : ((k : Int)).toNat = k := by omega
  simp only [e]
  have : (⟨L.toArray⟩ : ByteArray)[k]'(by rw [sz]; exact hk) = c := by
    have := (List.getElem?_eq_some_iff.1 h).2
    exact this
  rw [this]
set_option maxRecDepth 100000 in
set_option maxHeartbeats 1000000 in
theorem many_calls {w : World} {rb : Nat} {L : Bs} {deep : Int} (h : RB w rb L deep) (s : ByteArray) (q : Bs) (hs : s = ⟨q.toArray⟩) :
    Calls Tryz.prog 40 #[.pointer (some ⟨rb, 0, none⟩), .string s] w fun e w' => e = .returned (vs (L.takeWhile q.contains)) ∧ RB w' rb (L.dropWhile q.contains) deep ∧ At rb w w' := by
  subst hs
  obtain ⟨g0, g1, f0, f1⟩ := two_of h.heap
  have hsz := sz L
  have hln := h.len
  obtain ⟨T, hT⟩ : ∃ T, (L.takeWhile q.contains).length = T := ⟨_, rfl⟩
  have hTL : T ≤ L.length := by rw [← hT]; exact tw_le _ _
  obtain ⟨ht1, ht2⟩ := tw_take q.contains L
  have HAT := Lib.hid (fun k (hk : k < T) => tw_at q.contains L k (by rw [hT]; exact hk))
  have HEND := Lib.hid (fun (hk : T < L.length) => tw_end q.contains L (by rw [hT]; exact hk))
  rw [hT] at ht1 ht2
  have HEQ := Lib.hid hT
  have HT1 := Lib.hid (show (⟨L.toArray⟩ : ByteArray).extract 0 T = ⟨(L.takeWhile q.contains).toArray⟩ by rw [ext_take, ht1])
  have HT2 := Lib.hid (show (⟨L.toArray⟩ : ByteArray).extract T L.length = ⟨(L.dropWhile q.contains).toArray⟩ by rw [ext_drop _ _ _ rfl, ht2])
  have HS := Lib.hid (h.set (L.dropWhile q.contains) (by rw [← ht2, List.length_drop]; omega))
  have HA := Lib.hid (at_set w rb 0 (vs (L.dropWhile q.contains)))
  have HC := Lib.hid (fun c w => among_calls q ⟨q.toArray⟩ rfl c w)
  clear h hT ht1 ht2
  go_enter Tryz.func40, Tryz.ntmps40
  go_wp2_with fail
  go_loopw [5] (fun v5 wr => ∃ k : Nat, k ≤ T ∧ v5 = .int .i64 k ∧ wr = w) (fun v5 _ => T - (intOf v5).toNat)
  case atStart => exact ⟨0, Nat.zero_le _, rfl, rfl⟩
  case round =>
    obtain ⟨k, hkT, rfl, rfl⟩ := hrel
    by_cases hk : k < T
    · obtain ⟨c, hc1, hc2⟩ := HAT.out k hk
      have hkl : (k : Int) < (L.length : Int) := by omega
      have hix := idxk hc1
      have HC2 := Lib.hid hc2
      clear hc1 hc2
      go_wp2_with fail
      refine (HC.out c _).mono ?_
      rintro e w1 ⟨⟨m, rfl, h1, h2⟩, rfl⟩
      have hm : decide (0 ≤ m) = true := decide_eq_true (h1 HC2.out)
      clear h1 h2
      go_wp2
      exact ⟨⟨k + 1, by omega, by go_num, trivial⟩, by simp [intOf]; omega⟩
    · have hkT' : k = T := by omega
      subst hkT'
      by_cases hl : k < L.length
      · obtain ⟨c, hc1, hc2⟩ := HEND.out hl
        rw [HEQ.out] at hc1
        have hkl : (k : Int) < (L.length : Int) := by omega
        have hix := idxk hc1
        have HC2 := Lib.hid hc2
        clear hc1 hc2
        go_wp2_with fail
        refine (HC.out c _).mono ?_
        rintro e w1 ⟨⟨m, rfl, h1, h2⟩, rfl⟩
        have hm : decide (0 ≤ m) = false := decide_eq_false (by have := h2 HC2.out; omega)
        clear h1 h2
        go_wp2
        go_ret
        rw [HT2.out]
        exact ⟨by show Ending.returned (Value.string ((⟨L.toArray⟩ : ByteArray).extract 0 k)) = _; rw [HT1.out], HS.out, HA.out⟩
      · have hkl : ¬ (k : Int) < (L.length : Int) := by omega
        go_wp2
        go_ret
        rw [HT2.out]
        exact ⟨by show Ending.returned (Value.string ((⟨L.toArray⟩ : ByteArray).extract 0 k)) = _; rw [HT1.out], HS.out, HA.out⟩
set_option maxRecDepth 100000 in
set_option maxHeartbeats 1000000 in
theorem space_calls {w : World} {rb : Nat} {L : Bs} {deep : Int} (h : RB w rb L deep) :
    Calls Tryz.prog 28 #[.pointer (some ⟨rb, 0, none⟩)] w fun e w' => e = .returned (.tuple #[]) ∧ RB w' rb (sp L) deep ∧ At rb w w' := by
  have HM := Lib.hid (many_calls h ⟨#[32, 9, 10, 13]⟩ [32, 9, 10, 13] rfl)
  clear h
  go_enter Tryz.func28, Tryz.ntmps28
  go_wp2_with fail
  refine HM.out.mono ?_
  rintro e w1 ⟨rfl, hR, hA⟩
  go_wp2
  refine bodyPost_end (results_none rfl _ _ _) rfl ?_
  exact ⟨rfl, hR, hA⟩
def wordU (s L : Bs) : Except Int (Unit × Bs) := if s.isPrefixOf L then .ok ((), L.drop s.length) else .error 3
theorem hasPrefix_eq (s L : Bs) : Lib.hasPrefix L s = s.isPrefixOf L := rfl
set_option maxRecDepth 100000 in
set_option maxHeartbeats 1000000 in
theorem word_calls {w : World} {rb : Nat} {L : Bs} {deep : Int} (h : RB w rb L deep) (s : ByteArray) (q : Bs) (hs : s = ⟨q.toArray⟩) (hq : q.length ≤ 100) :
    Calls Tryz.prog 42 #[.pointer (some ⟨rb, 0, none⟩), .string s] w (Ends rb deep w (fun _ _ e => e = .returned (.tuple #[])) (wordU q L)) := by
  subst hs
  obtain ⟨g0, g1, f0, f1⟩ := two_of h.heap
  have hsz := sz L
  have hsq := sz q
  have hln := h.len
  have HP := Lib.hid (fun w => Tryz.strings_HasPrefix ⟨L.toArray⟩ ⟨q.toArray⟩ w)
  have HPE := Lib.hid (hasPrefix_eq q L)
  have HW := Lib.hid (show wordU q L = if q.isPrefixOf L then .ok ((), L.drop q.length) else .error 3 from rfl)
  cases hp : q.isPrefixOf L with
  | true =>
    have hle : q.length ≤ L.length := (List.isPrefixOf_iff_prefix.1 hp).length_le
    have HS := Lib.hid (h.set (L.drop q.length) (by rw [List.length_drop]; omega))
    have HA := Lib.hid (at_set w rb 0 (vs (L.drop q.length)))
    have HED := Lib.hid (show (⟨L.toArray⟩ : ByteArray).extract q.length L.length = ⟨(L.drop q.length).toArray⟩ from ext_drop _ _ _ rfl)
    rw [hp] at HPE HW
    clear hp h
    go_enter Tryz.func42, Tryz.ntmps42
    go_wp2_with fail
    refine (HP.out _).mono ?_
    rintro e w1 ⟨rfl, rfl⟩
    rw [show Lib.hasPrefix (⟨L.toArray⟩ : ByteArray).data.toList (⟨q.toArray⟩ : ByteArray).data.toList = true from HPE.out]
    go_wp2_with fail
    refine (must_true _).mono ?_
    rintro e w2 ⟨rfl, rfl⟩
    go_wp2
    refine bodyPost_end (results_none rfl _ _ _) rfl ?_
    rw [HED.out, HW.out]
    exact ⟨HA.out, rfl, HS.out⟩
  | false =>
    rw [hp] at HPE HW
    clear hp h
    go_enter Tryz.func42, Tryz.ntmps42
    go_wp2_with fail
    refine (HP.out _).mono ?_
    rintro e w1 ⟨rfl, rfl⟩
    rw [show Lib.hasPrefix (⟨L.toArray⟩ : ByteArray).data.toList (⟨q.toArray⟩ : ByteArray).data.toList = false from HPE.out]
    go_wp2_with fail
    refine (must_false _).mono ?_
    rintro e w2 ⟨rfl, rfl⟩
    refine ⟨rfl, At.refl _ _, ?_⟩
    rw [HW.out]
    rfl
end Go.Proofs.YtminegmjklehnaaGreatDoor.J

/-
  quote: a text as a string.
-/
import Derived.Test.YtminegmjklehnaaGreatDoorJsonM
namespace Go.Proofs.YtminegmjklehnaaGreatDoor.J
open Go.RowKit Go.Proofs.YtminegmjklehnaaGreatDoor.B
open Go.Proofs.YtminegmjklehnaaGreatDoor.M hiding Bs
open Go.Proofs.YtminegmjklehnaaGreatDoor.C (QRow Turn)
set_option linter.unusedVariables false
set_option linter.unusedSimpArgs false

abbrev qL : Bs := [34, 92, 10, 13, 9]
def qok (c : UInt8) : Bool := (Lib.indexByte qL c == -1 && quoteC c == (if c.toNat < 32 then [92, 117, 48, 48, hexC (c.toNat / 16), hexC (c.toNat % 16)] else [c])) ||
  (Lib.indexByte qL c == 0 && quoteC c == [92, 34]) || (Lib.indexByte qL c == 1 && quoteC c == [92, 92]) || (Lib.indexByte qL c == 2 && quoteC c == [92, 110]) || (Lib.indexByte qL c == 3 && quoteC c == [92, 114]) || (Lib.indexByte qL c == 4 && quoteC c == [92, 116])
theorem qok_all (c : UInt8) : qok c = true := by
  have h : ∀ p : Fin 256, qok (UInt8.ofNat p.val) = true := by decide +kernel
  have := h ⟨c.toNat, c.toNat_lt⟩
  simpa using this
theorem q_cases (c : UInt8) : (Lib.indexByte qL c = -1 ∧ quoteC c = if c.toNat < 32 then [92, 117, 48, 48, hexC (c.toNat / 16), hexC (c.toNat % 16)] else [c]) ∨
    (Lib.indexByte qL c = 0 ∧ quoteC c = [92, 34]) ∨ (Lib.indexByte qL c = 1 ∧ quoteC c = [92, 92]) ∨ (Lib.indexByte qL c = 2 ∧ quoteC c = [92, 110]) ∨ (Lib.indexByte qL c = 3 ∧ quoteC c = [92, 114]) ∨ (Lib.indexByte qL c = 4 ∧ quoteC c = [92, 116]) := by
  have h := qok_all c
  unfold qok at h
  simp only [Bool.or_eq_true, Bool.and_eq_true, beq_iff_eq] at h
  rcases h with ((((h | h) | h) | h) | h) | h
  · exact .inl h
  · exact .inr (.inl h)
  · exact .inr (.inr (.inl h))
  · exact .inr (.inr (.inr (.inl h)))
  · exact .inr (.inr (.inr (.inr (.inl h))))
  · exact .inr (.inr (.inr (.inr (.inr h))))
theorem quoteC_len (c : UInt8) : (quoteC c).length ≤ 6 := by
  unfold quoteC
  repeat' split
  all_goals simp
theorem quote_len : ∀ t : Bs, (t.flatMap quoteC).length ≤ 6 * t.length
  | [] => by simp
  | c :: t => by
    have h1 := quoteC_len c
    have h2 := quote_len t
    rw [List.flatMap_cons, List.length_append, List.length_cons]
    omega
theorem ixq_calls (c : UInt8) (w : World) : Calls Tryz.prog 66 #[.string ⟨#[34, 92, 10, 13, 9]⟩, .int .u8 c.toNat] w fun e w' => e = .returned (.int .i64 (Lib.indexByte qL c)) ∧ w' = w := by
  refine (Tryz.strings_IndexByte ⟨qL.toArray⟩ c.toNat w).mono ?_
  rintro e w' ⟨rfl, rfl⟩
  have hc : (c.toNat : Int).toNat.toUInt8 = c := by simp
  rw [hc]
  exact ⟨rfl, rfl⟩
set_option maxRecDepth 100000 in
theorem idxAt {t : Bs} {i : Nat} {c : UInt8} (h : t[i]? = some c) (w : World) : (Instr.index 9 (vs t) (.int .i64 i)).run Tryz.prog w = .ok (.int .u8 c.toNat) w := by
  obtain ⟨hi, he⟩ := List.getElem?_eq_some_iff.1 h
  have h := run_index_string w 9 (P := Tryz.prog) (⟨t.toArray⟩ : ByteArray) .i64 i rfl
  rw [dif_pos ⟨by omega, by rw [sz]; omega⟩] at h
  rw [h]
  have e : ((i : Int)).toNat = i := by omega
  simp only [e]
  have : (⟨t.toArray⟩ : ByteArray)[i]'(by rw [sz]; exact hi) = t[i] := rfl
  rw [this, he]
theorem bld_new (w : World) : BldV w.heap.size w.heap.size [] (w.alloc (.cells #[.pointer none, .slice none 0 0] 93)) :=
  .inl ⟨Nat.le_refl _, .slice none 0 0, heap_alloc_new _ _, ⟨by simp [Lib.byteCells], .inl ⟨rfl, by simp [Lib.byteCells]⟩⟩, by simp [Value.ownBlock]⟩
theorem BldV.below {B b : Nat} {l : Bs} {w w' : World} (h : BldV B b l w) (hb : Below w.heap.size w w') : BldV B b l w' := by
  have key : ∀ p, Lib.BuilderAt 93 5 B b p (Lib.byteCells l) w → Lib.BuilderAt 93 5 B b p (Lib.byteCells l) w' := by
    rintro p ⟨hB, v, h1, h2, h3⟩
    refine ⟨hB, v, (hb.block _ (lt_of_heap h1)).trans h1, ⟨h2.1, ?_⟩, h3⟩
    rcases h2.2 with h | ⟨g, cap, cur, h0, h1, h2, h3⟩
    · exact .inl h
    · exact .inr ⟨g, cap, cur, h0, h1, (hb.block _ (lt_of_heap h2)).trans h2, h3⟩
  exact h.imp (key _) (key _)
set_option maxRecDepth 100000 in
set_option maxHeartbeats 4000000 in
theorem quote_calls (t : Bs) (w : World) (hl : t.length ≤ 1000000000) : Calls Tryz.prog 62 #[vs t] w (ShowRet w (quoteT t)) := by
  have hsz := sz t
  have HN := Lib.hid (bld_new w)
  have HB0 := Lib.hid ((Below.refl _ w).alloc (Nat.le_refl _) (.cells #[.pointer none, .slice none 0 0] 93))
  go_enter Tryz.func62, Tryz.ntmps62
  go_wp2_with fail
  refine (wbyte_calls HN.out 34 (by simp) HB0.out.size).mono ?_
  rintro e w1 ⟨rfl, hb1, hw1⟩
  have HW1 := Lib.hid (HB0.out.trans hw1)
  have HL1 := Lib.hid hb1
  clear hb1 hw1
  go_wp2_with fail
  go_loopw [10] (fun v10 wr => ∃ i : Nat, i ≤ t.length ∧ v10 = .int .i64 i ∧ Hid (BldV w.heap.size w.heap.size (34 :: (t.take i).flatMap quoteC) wr) ∧ Hid (Below w.heap.size w wr)) (fun v10 _ => t.length - (intOf v10).toNat)
  case atStart => exact ⟨0, Nat.zero_le _, rfl, HL1, HW1⟩
  case round =>
    obtain ⟨i, hi, rfl, HL, HW⟩ := hrel
    by_cases hit : i < t.length
    · obtain ⟨c, hc⟩ : ∃ c, t[i]? = some c := ⟨t[i], List.getElem?_eq_getElem hit⟩
      have hix := fun w => idxAt hc w
      have HLN := Lib.hid (show (34 :: (t.take i).flatMap quoteC).length + 6 ≤ 140737488355328 by
        have := quote_len (t.take i)
        rw [List.length_take] at this
        rw [List.length_cons]
        omega)
      have HST := Lib.hid (show 34 :: (t.take (i + 1)).flatMap quoteC = (34 :: (t.take i).flatMap quoteC) ++ quoteC c by
        rw [List.take_add_one, hc]
        simp)
      have hlt := c.toNat_lt
      clear hc
      go_wp2_with fail
      refine (ixq_calls c _).mono ?_
      rintro e w2 ⟨rfl, rfl⟩
      have HQ := Lib.hid (q_cases c)
      rcases HQ.out with ⟨hk, hq⟩ | ⟨hk, hq⟩ | ⟨hk, hq⟩ | ⟨hk, hq⟩ | ⟨hk, hq⟩ | ⟨hk, hq⟩
      · rw [hk]
        rw [hq] at HST
        by_cases h32 : c.toNat < 32
        · rw [if_pos h32] at HST
          have h32i : (c.toNat : Int) < 32 := by omega
          have hcell := cells_of (heap_alloc_new w2 (.cells #[.int .u8 (c.toNat : Int)] 5)) 0 _ rfl
          have HB2 := Lib.hid ((Below.refl _ w2).alloc (Nat.le_refl _) (.cells #[.int .u8 (c.toNat : Int)] 5))
          go_wp2_with fail
          refine (hex1_calls c hcell).mono ?_
          rintro e w3 ⟨rfl, hb⟩
          have HB3 := Lib.hid (keepB HB2.out hb)
          have HL3 := Lib.hid (BldV.below HL.out HB3.out)
          have HW3 := Lib.hid (keepB HW.out HB3.out)
          clear hb hcell
          go_wp2_with fail
          refine (wstr_calls HL3.out [92, 117, 48, 48, hexC (c.toNat / 16), hexC (c.toNat % 16)] (by have := HLN.out; simp at this ⊢; omega) HW3.out.size).mono ?_
          rintro e w4 ⟨⟨v, rfl⟩, hb3, hw3⟩
          have HL4 := Lib.hid (show BldV w.heap.size w.heap.size (34 :: (t.take (i + 1)).flatMap quoteC) w4 by rw [HST.out]; exact hb3)
          have HW4 := Lib.hid (HW3.out.trans hw3)
          clear hb3 hw3
          go_wp2
          exact ⟨⟨i + 1, by omega, by go_num, HL4, HW4⟩, by simp [intOf]; omega⟩
        · rw [if_neg h32] at HST
          have h32i : ¬ (c.toNat : Int) < 32 := by omega
          go_wp2_with fail
          refine (wbyte_calls HL.out c (by have := HLN.out; omega) HW.out.size).mono ?_
          rintro e w3 ⟨rfl, hb3, hw3⟩
          have HL3 := Lib.hid (show BldV w.heap.size w.heap.size (34 :: (t.take (i + 1)).flatMap quoteC) w3 by rw [HST.out]; exact hb3)
          have HW3 := Lib.hid (HW.out.trans hw3)
          clear hb3 hw3
          go_wp2
          exact ⟨⟨i + 1, by omega, by go_num, HL3, HW3⟩, by simp [intOf]; omega⟩
      all_goals
        rw [hk]
        rw [hq] at HST
        go_wp2_with fail
        refine (wstr_calls HL.out _ (by have := HLN.out; simp at this ⊢; omega) HW.out.size).mono ?_
        rintro e w4 ⟨⟨v, rfl⟩, hb3, hw3⟩
        have HL4 := Lib.hid (show BldV w.heap.size w.heap.size (34 :: (t.take (i + 1)).flatMap quoteC) w4 by rw [HST.out]; exact hb3)
        have HW4 := Lib.hid (HW.out.trans hw3)
        clear hb3 hw3
        go_wp2
        exact ⟨⟨i + 1, by omega, by go_num, HL4, HW4⟩, by simp [intOf]; omega⟩
    · have hie : i = t.length := by omega
      subst hie
      go_wp2_with fail
      refine (wbyte_calls HL.out 34 (by have := quote_len (t.take t.length); rw [List.length_take] at this; rw [List.length_cons]; omega) HW.out.size).mono ?_
      rintro e w3 ⟨rfl, hb3, hw3⟩
      have HL3 := Lib.hid hb3
      have HW3 := Lib.hid (HW.out.trans hw3)
      clear hb3 hw3
      go_wp2_with fail
      refine (bstr_calls HL3.out HW3.out.size).mono ?_
      rintro e w4 ⟨rfl, hw4⟩
      have HW4 := Lib.hid (HW3.out.trans hw4)
      clear hw4
      go_wp2
      go_ret
      exact ⟨rfl, HW4.out⟩
end Go.Proofs.YtminegmjklehnaaGreatDoor.J
